/- The digits of a digest: sha.Hex and the reference's Hex. -/
import Derived.Test.YtdefecbaineneaaSha5
namespace Go.Proofs.Ytdefecbaineneaa
open Go.RowKit

def hexN (n : Int) : Int := if n < 10 then 48 + n else 87 + n
def hexB (x : Int) : List Int := [hexN (x / 16), hexN (x % 16)]
def hexL (l : List Int) : List Int := l.flatMap hexB
theorem hexL_length (l : List Int) : (hexL l).length = 2 * l.length := by
  induction l with
  | nil => rfl
  | cons a l ih => simp [hexL, hexB] at ih ⊢; omega
theorem hexL_take (l : List Int) (k : Nat) (h : k < l.length) : hexL (l.take (k + 1)) = hexL (l.take k) ++ hexB (l.getD k 0) := by
  rw [List.take_succ_eq_append_getElem h, hexL, hexL, List.flatMap_append]
  simp [List.getD, h]
theorem and15 (a : Int) (h : 0 ≤ a ∧ a < 256) : bits .and .u8 a 15 = a % 16 := by
  obtain ⟨n, rfl⟩ := Int.eq_ofNat_of_zero_le h.1
  have h : n < 256 := by omega
  have : ∀ m : Fin 256, bits .and .u8 (m.val : Int) 15 = (m.val : Int) % 16 := by decide +kernel
  exact this ⟨n, h⟩
def digs : ByteArray := ByteArray.mk #[48, 49, 50, 51, 52, 53, 54, 55, 56, 57, 97, 98, 99, 100, 101, 102]
theorem digs_at (n : Int) (h : 0 ≤ n ∧ n < 16) : (ints digs).getD n.toNat 0 = hexN n := by
  obtain ⟨m, rfl⟩ := Int.eq_ofNat_of_zero_le h.1
  have h : m < 16 := by omega
  have : ∀ m : Fin 16, (ints digs).getD (m.val : Int).toNat 0 = hexN (m.val : Int) := by decide +kernel
  exact this ⟨m, h⟩
theorem p_digs (n : Int) (k : IntKind) (h : 0 ≤ n ∧ n < 16) : Pur Try.prog (o_index 9 (.string digs) (.int k n)) (.int .u8 (hexN n)) := by
  have h1 : digs.size = 16 := by decide +kernel
  have := p_index_string (P := Try.prog) 9 digs k n (by kernel_rfl) h.1 (by omega)
  rwa [digs_at n h] at this
theorem build2b (a b : Int) (w : World) : (o_buildSlice 50 2 [(0, .int .u8 a), (1, .int .u8 b)]).run Try.prog w = .ok (.value (.slice (some ⟨w.heap.size, 0, none⟩) 2 2)) (w.alloc (.cells (u8s [a, b]).toArray 5)) := by kernel_rfl
def boxed : Value → List Value
  | .agg cs => cs.toList
  | _ => []

set_option maxHeartbeats 1000000 in
theorem hex_ok (l : List Int) (w : World) (hl : l.length = 32) (hr : ∀ x ∈ l, 0 ≤ x ∧ x < 256) : Calls Try.prog 17 #[hv l] w fun e w' => e = .returned (.string (strOfNums (hexL l))) ∧ St w [] w' := by
  refine C_sha_Hex ?_
  unfold F_sha_Hex
  refine mop_box (St.nil w) (fun b w1 h1 => ?_)
  have h1 : St w [⟨b, 23, u8s l, true⟩] w1 := by simpa [hv, Value.cells] using h1
  refine mop_ldN (cells_of_row h1.head) (by simp [u8s, hl]) rfl ?_
  refine ⟨fun v x w2 => ∃ (k : Nat) (A : Option Addr) (cap : Nat), k ≤ 32 ∧ x = .int .i64 k ∧ v = .slice A (2 * k) cap ∧ RowSt w 5 1 [⟨b, 23, u8s l, true⟩] A (2 * k) cap (u8s (hexL (l.take k))) w2,
    fun _ x _ => 32 - (intOf x).toNat, ⟨0, none, 0, by omega, rfl, rfl, by simpa [hexL, u8s] using RowSt.nil h1 5 1⟩, ?_⟩
  clear h1
  rintro v x u w3 ⟨k, A, cap, hk, rfl, rfl, h3⟩
  (repeat (first | (refine mop_c ?_ ?_; first | exact trivial | omega) | (refine dp_c ?_ ?_; first | exact trivial | omega)))
  refine mif_dec (fun hlt => ?_) (fun hge => ?_)
  · have hk' : k < 32 := by omega
    have hx := hr (l.getD k 0) (by simp [List.getD, hl, hk'])
    refine mop_pur (p_index_array _ 5 32 _ _ _ (.int .u8 (l.getD k 0)) (by kernel_rfl) (by kernel_rfl) (by omega) (by omega) ?_) ?_
    · simpa using u8s_at l k (by omega)
    refine dp_c (by omega) ?_
    refine dp_pur (p_digs _ _ ?_) ?_
    · exact (by omega : 0 ≤ l.getD k 0 / 16 ∧ l.getD k 0 / 16 < 16)
    refine dp_c trivial ?_
    rw [and15 _ hx]
    refine dp_pur (p_digs _ _ ?_) ?_
    · omega
    refine df_mop fun w4 hd => mop_run (build2b _ _ w4) ⟨(fun e => by cases e), ?_⟩
    have h4 := (h3.drawn hd).allocL 5 (u8s [hexN (l.getD k 0 / 16), hexN (l.getD k 0 % 16)])
    have hb := h4.base.head
    refine df_mop fun w5 hd5 => ?_
    refine mop_append (h4.drawn hd5) (Src.ofSlice (e' := 5) _ (by kernel_rfl) ⟨w4.heap.size, 0, none⟩ 2 2 (u8s [hexN (l.getD k 0 / 16), hexN (l.getD k 0 % 16)]) rfl (fun j u hu => by rw [Addr.add_lit, Nat.zero_add, ((h4.drawn hd5).base.head).cell]; exact hu) (u8s_one _)) (by unfold maxLen; omega) (by omega) (fun A' cap' w6 h6 => ⟨(fun e => by cases e), ?_⟩)
    refine dend_intro fun w7 hd7 => ?_
    refine mop_c (by omega) ?_
    refine ⟨⟨k + 1, A', cap', by omega, rfl, rfl, ?_⟩, by simp [intOf]; omega⟩
    have h7 := h6.dropL.drawn hd7
    rw [← u8s_append] at h7
    rw [hexL_take l k (by omega)]
    exact h7
  · obtain rfl : k = 32 := by omega
    obtain ⟨g, sp, rfl, h5, hcs, _⟩ := h3.at_ (by omega)
    have hlen : (hexL l).length = 64 := by rw [hexL_length, hl]
    have hlt : l.take 32 = l := List.take_of_length_le (by omega)
    rw [hlt] at h5
    refine mop_purW (pw_conv_bytes 50 9 5 g 0 (2 * 32) _ (hexL l) (by kernel_rfl) (by kernel_rfl) (by kernel_rfl) (by omega) (fun i hi => ?_)) ?_
    · rw [Nat.zero_add, h5.cell 0 rfl i]
      exact row_at (hexL l) sp i (by omega)
    exact ⟨rfl, h5.drop.drop⟩

theorem strOfNums_append (a b : List Int) : strOfNums a ++ strOfNums b = strOfNums (a ++ b) := by
  apply ByteArray.ext
  simp [strOfNums]
theorem build1b (a : Int) (w : World) : (o_buildSlice 50 1 [(0, .int .u8 a)]).run Try.prog w = .ok (.value (.slice (some ⟨w.heap.size, 0, none⟩) 1 1)) (w.alloc (.cells (u8s [a]).toArray 5)) := by kernel_rfl
theorem conv1 (a : Int) (w : World) {w0 : World} {L : List Bk} (h : St w0 L w) :
    PurW Try.prog (w.alloc (.cells (u8s [a]).toArray 5)) (o_conv 50 9 (.slice (some ⟨w.heap.size, 0, none⟩) 1 1)) (.string (strOfNums [a])) :=
  pw_conv_bytes 50 9 5 w.heap.size 0 1 _ [a] (by kernel_rfl) (by kernel_rfl) (by kernel_rfl) rfl (fun i hi => by
    rw [Nat.zero_add, (h.alloc 5 (u8s [a])).cell 0 rfl i]
    have : i = 0 := by omega
    subst this
    rfl)
instance (t : TypeId) (q : Bool) (a b : Int) : StepC Try.prog (o_bin .quo t q (.int .u8 a) (.int .u8 b)) (0 ≤ a ∧ 0 < b ∧ a < 256) (.int .u8 (a / b)) := ⟨fun h => by
  have := p_quo (P := Try.prog) t q .u8 a b (by omega)
  rw [Int.tdiv_eq_ediv_of_nonneg h.1] at this
  have h1 : 0 ≤ a / b := Int.ediv_nonneg h.1 (by omega)
  have h2 : a / b ≤ a := Int.ediv_le_self _ h.1
  rwa [wrap_u8, Int.emod_eq_of_lt h1 (by omega)] at this⟩

set_option maxHeartbeats 1000000 in
theorem refhex_ok (l : List Int) (w : World) (hl : l.length = 32) (hr : ∀ x ∈ l, 0 ≤ x ∧ x < 256) : Calls Try.prog 18 #[hv l] w fun e w' => e = .returned (.string (strOfNums (hexL l))) ∧ St w [] w' := by
  refine C_bevyref02_Hex ?_
  unfold F_bevyref02_Hex
  refine mop_box (St.nil w) (fun b w1 h1 => ?_)
  have h1 : St w [⟨b, 22, u8s l, true⟩] w1 := by simpa [hv, Value.cells] using h1
  refine ⟨fun v x w2 => ∃ (k : Nat), k ≤ 32 ∧ x = .int .i64 k ∧ v = .string (strOfNums (hexL (l.take k))) ∧ St w [⟨b, 22, u8s l, true⟩] w2,
    fun _ x _ => 32 - (intOf x).toNat, ⟨0, by omega, rfl, rfl, h1⟩, ?_⟩
  clear h1
  rintro v x u w3 ⟨k, hk, rfl, rfl, h3⟩
  (repeat (first | (refine mop_c ?_ ?_; first | exact trivial | omega) | (refine dp_c ?_ ?_; first | exact trivial | omega)))
  refine mif_dec (fun hlt => ?_) (fun hge => ?_)
  · have hk' : k < 32 := by omega
    have hx := hr (l.getD k 0) (by simp [List.getD, hl, hk'])
    obtain ⟨c, hc⟩ : ∃ c, c = l.getD k 0 := ⟨_, rfl⟩
    rw [← hc] at hx
    have hcell : ∀ w2, St w [⟨b, 22, u8s l, true⟩] w2 → w2.cell? ⟨b, k, none⟩ = some (.int .u8 c) := fun w2 h => by
      rw [h.cell 0 rfl k, hc]; exact u8s_at l k (by omega)
    have hlen : (strOfNums (hexL (l.take k))).size ≤ 64 := by rw [strOfNums_size, hexL_length]; simp; omega
    obtain ⟨pre, hp⟩ : ∃ p, p = hexL (l.take k) := ⟨_, rfl⟩
    rw [← hp] at hlen ⊢
    refine ⟨fun v x w2 => ∃ (j : Nat), j ≤ 2 ∧ x = .int .i64 j ∧ v = .string (strOfNums (pre ++ (hexB c).take j)) ∧ St w [⟨b, 22, u8s l, true⟩] w2,
      fun _ x _ => 2 - (intOf x).toNat, ⟨0, by omega, rfl, by simp, h3⟩, ?_⟩
    clear h3
    rintro v x u w4 ⟨j, hj, rfl, rfl, h4⟩
    (repeat (first | (refine mop_c ?_ ?_; first | exact trivial | omega) | (refine dp_c ?_ ?_; first | exact trivial | omega)))
    refine mif_dec (fun hlt2 => ?_) (fun hge2 => ?_)
    · refine ⟨fun v w5 => v = .string (strOfNums (pre ++ (hexB c).take (j + 1))) ∧ St w [⟨b, 22, u8s l, true⟩] w5, ?_, ?_⟩
      · (repeat (first | (refine mop_c ?_ ?_; first | exact trivial | omega) | (refine dp_c ?_ ?_; first | exact trivial | omega)))
        refine mop_ld (hcell _ h4) (by omega) ?_
        (repeat (first | (refine mop_c ?_ ?_; first | exact trivial | omega) | (refine dp_c ?_ ?_; first | exact trivial | omega)))
        refine ⟨fun v w5 => ∃ n : Int, v = .int .u8 n ∧ (0 ≤ n ∧ n < 16) ∧ (hexB c).take (j + 1) = (hexB c).take j ++ [hexN n] ∧ St w [⟨b, 22, u8s l, true⟩] w5, ?_, ?_⟩
        · (repeat (first | (refine mop_c ?_ ?_; first | exact trivial | omega) | (refine dp_c ?_ ?_; first | exact trivial | omega)))
          refine mif_dec (fun h1 => ?_) (fun h0 => ?_)
          · obtain rfl : j = 1 := by omega
            (repeat (first | (refine mop_c ?_ ?_; first | exact trivial | omega) | (refine dp_c ?_ ?_; first | exact trivial | omega)))
            refine mop_ld (hcell _ h4) (by omega) ?_
            (repeat (first | (refine mop_c ?_ ?_; first | exact trivial | omega) | (refine dp_c ?_ ?_; first | exact trivial | omega)))
            exact ⟨_, rfl, by omega, rfl, h4⟩
          · obtain rfl : j = 0 := by omega
            exact ⟨_, rfl, by omega, rfl, h4⟩
        · rintro v u w5 ⟨n, rfl, hn, he, h5⟩
          have hsz : (strOfNums (pre ++ (hexB c).take j)).size ≤ 66 := by
            rw [strOfNums_size] at hlen ⊢
            simp
            omega
          refine mop_c trivial ?_
          refine mif_dec (fun hs => ?_) (fun hs => ?_)
          · refine mop_c trivial ?_
            have e1 : (48 + n) % 256 = hexN n := by unfold hexN; rw [if_pos hs]; omega
            rw [e1]
            refine mop_run (build1b _ _) ?_
            refine mop_purW (conv1 _ _ h5) ?_
            refine mop_c (by rw [strOfNums_size [hexN n]]; simp; omega) ?_
            exact ⟨by rw [strOfNums_append, he, List.append_assoc], (h5.alloc _ _).drop⟩
          · refine mop_c trivial ?_
            refine mop_c trivial ?_
            have e1 : ((97 + n) % 256 - 10) % 256 = hexN n := by unfold hexN; rw [if_neg hs]; omega
            rw [e1]
            refine mop_run (build1b _ _) ?_
            refine mop_purW (conv1 _ _ h5) ?_
            refine mop_c (by rw [strOfNums_size [hexN n]]; simp; omega) ?_
            exact ⟨by rw [strOfNums_append, he, List.append_assoc], (h5.alloc _ _).drop⟩
      · rintro v u w5 ⟨rfl, h5⟩
        (repeat (first | (refine mop_c ?_ ?_; first | exact trivial | omega) | (refine dp_c ?_ ?_; first | exact trivial | omega)))
        exact ⟨⟨j + 1, by omega, rfl, rfl, h5⟩, by simp [intOf]; omega⟩
    · obtain rfl : j = 2 := by omega
      (repeat (first | (refine mop_c ?_ ?_; first | exact trivial | omega) | (refine dp_c ?_ ?_; first | exact trivial | omega)))
      refine ⟨⟨k + 1, by omega, rfl, ?_, h4⟩, by simp [intOf]; omega⟩
      rw [hexL_take l k (by omega), ← hc, hp]
      rfl
  · obtain rfl : k = 32 := by omega
    have hlt : l.take 32 = l := List.take_of_length_le (by omega)
    rw [hlt]
    exact ⟨rfl, h3.drop⟩
end Go.Proofs.Ytdefecbaineneaa
