/- The laws ShaSums and ShaHex. -/
import Derived.Test.YtdefecbaineneaaSha6
namespace Go.Proofs.Ytdefecbaineneaa
open Go.RowKit

theorem St.ext {w w' : World} {L : List Bk} (h : St w L w') (hn : ∀ b ∈ L, b.nw = true) : Ext w w' :=
  h.only.mono (fun i _ hi => by
    obtain ⟨b, hb, h2, _⟩ := hi
    rw [hn b hb] at h2
    cases h2)
theorem St.ext0 {w w' : World} (h : St w [] w') : Ext w w' := h.ext (fun _ h => by cases h)
def abc : ByteArray := ByteArray.mk #[97, 98, 99]
set_option maxRecDepth 100000 in
theorem abc_hex : ((strOfNums (hexL (shaSum (ints abc)))).toList == (ByteArray.mk #[98, 97, 55, 56, 49, 54, 98, 102, 56, 102, 48, 49, 99, 102, 101, 97, 52, 49, 52, 49, 52, 48, 100, 101, 53, 100, 97, 101, 50, 50, 50, 51, 98, 48, 48, 51, 54, 49, 97, 51, 57, 54, 49, 55, 55, 97, 57, 99, 98, 52, 49, 48, 102, 102, 54, 49, 102, 50, 48, 48, 49, 53, 97, 100]).toList) = true := by decide +kernel

theorem awake_ok (w : World) : Calls Try.prog 16 #[] w fun e w' => e = .returned (.bool true) ∧ St w [] w' := by
  refine C_bevylaw02_awake ?_
  unfold F_bevylaw02_awake
  refine mop_run (buildstr abc w) ?_
  refine mop_to (sum_one abc w (by decide +kernel)) ?_
  rintro e w1 ⟨rfl, h1⟩
  refine mop_to (hex_ok _ w1 (shaSum_length _) (shaSum_range _)) ?_
  rintro e w2 ⟨rfl, h2⟩
  refine mop_c trivial ?_
  rw [abc_hex]
  exact ⟨rfl, h1.call0 h2⟩

theorem shaSums_ok (A : Option Addr) (ss : List ByteArray) (c : Nat) (w : World) (hr : Rd w A (ss.map .string)) (hss : ss.length ≤ 9223372036854775807) :
    Calls Try.prog 4 #[.slice A ss.length c] w fun e w' => e = .returned (.bool true) ∧ St w [] w' := by
  refine C_bevylaw02_ShaSums ?_
  unfold F_bevylaw02_ShaSums
  refine ⟨fun v x w2 => ∃ (k : Nat) (s : ByteArray), k ≤ ss.length ∧ k ≤ 1001 ∧ x = .int .i64 k ∧ v = .string s ∧ ints s = cat (ss.take k) ∧ s.size ≤ 20000 ∧ St w [] w2,
    fun _ x _ => ss.length - (intOf x).toNat, ⟨0, ByteArray.mk #[], by omega, by omega, rfl, rfl, rfl, by decide, St.nil w⟩, ?_⟩
  rintro v x u w3 ⟨k, s, hk, hk1, rfl, rfl, hs, hsz, h3⟩
  (repeat (first | (refine mop_c ?_ ?_; first | exact trivial | omega) | (refine dp_c ?_ ?_; first | exact trivial | omega)))
  refine mif_dec (fun hlt => ?_) (fun hge => ?_)
  · have hk' : k < ss.length := by omega
    have x0 : (ss.map Value.string)[k]? = some (.string ss[k]) := by simp [hk']
    obtain ⟨ab, ao, rfl, hab, hc⟩ := hr.at_ x0
    have hcell : ∀ w2, St w [] w2 → w2.cell? ⟨ab, ao + k, none⟩ = some (.string ss[k]) := fun w2 h => (h.old (p := ⟨ab, ao + k, none⟩) hab (by intro q hq hn; cases hq)).trans (hc k _ x0)
    refine ⟨fun v w4 => ∃ q : Bool, v = .bool q ∧ (q = false → k ≤ 1000 ∧ ss[k].size ≤ 20000) ∧ St w [] w4, ?_, ?_⟩
    · (repeat (first | (refine mop_c ?_ ?_; first | exact trivial | omega) | (refine dp_c ?_ ?_; first | exact trivial | omega)))
      by_cases hbig : (1000 : Int) < (k : Int)
      · simp only [hbig, decide_true]
        repeat refine mguard_no (by simp) ?_
        (repeat (first | (refine mop_c ?_ ?_; first | exact trivial | omega) | (refine dp_c ?_ ?_; first | exact trivial | omega)))
        exact ⟨true, rfl, by simp, h3⟩
      · simp only [hbig, decide_false]
        refine mguard_yes ?_
        (repeat (first | (refine mop_c ?_ ?_; first | exact trivial | omega) | (refine dp_c ?_ ?_; first | exact trivial | omega)))
        refine mguard_yes ?_
        (repeat (first | (refine mop_c ?_ ?_; first | exact trivial | omega) | (refine dp_c ?_ ?_; first | exact trivial | omega)))
        refine mguard_yes ?_
        (repeat (first | (refine mop_c ?_ ?_; first | exact trivial | omega) | (refine dp_c ?_ ?_; first | exact trivial | omega)))
        refine mguard_yes ?_
        refine mop_ld (hcell _ h3) (by omega) ?_
        refine mguard_yes ?_
        (repeat (first | (refine mop_c ?_ ?_; first | exact trivial | omega) | (refine dp_c ?_ ?_; first | exact trivial | omega)))
        refine mguard_yes ?_
        (repeat (first | (refine mop_c ?_ ?_; first | exact trivial | omega) | (refine dp_c ?_ ?_; first | exact trivial | omega)))
        exact ⟨_, rfl, by simp; omega, h3⟩
    · rintro v u w4 ⟨q, rfl, hq, h4⟩
      refine mif_bool (fun ht => ?_) (fun hf => ?_)
      · refine mop_to (awake_ok w4) ?_
        rintro e w5 ⟨rfl, h5⟩
        exact ⟨rfl, h4.call0 h5⟩
      · obtain ⟨hk2, hs2⟩ := hq hf
        (repeat (first | (refine mop_c ?_ ?_; first | exact trivial | omega) | (refine dp_c ?_ ?_; first | exact trivial | omega)))
        refine mop_ld (hcell _ h4) (by omega) ?_
        (repeat (first | (refine mop_c ?_ ?_; first | exact trivial | omega) | (refine dp_c ?_ ?_; first | exact trivial | omega)))
        refine mif_dec (fun hbig => ?_) (fun hok => ?_)
        · refine mop_to (awake_ok w4) ?_
          rintro e w5 ⟨rfl, h5⟩
          exact ⟨rfl, h4.call0 h5⟩
        · (repeat (first | (refine mop_c ?_ ?_; first | exact trivial | omega) | (refine dp_c ?_ ?_; first | exact trivial | omega)))
          refine ⟨⟨k + 1, s ++ ss[k], by omega, by omega, rfl, rfl, ?_, by omega, h4⟩, by simp [intOf]; omega⟩
          rw [cat_take ss k hk', ← hs]
          simp [ints]
  · obtain rfl : k = ss.length := by omega
    rw [List.take_length] at hs
    have hcl : (cat ss).length = s.size := by rw [← hs, ints_length]
    refine mop_to (awake_ok w3) ?_
    rintro e w4 ⟨rfl, h4⟩
    have h4 := h3.call0 h4
    refine mguard_yes ?_
    (repeat (first | (refine mop_c ?_ ?_; first | exact trivial | omega) | (refine dp_c ?_ ?_; first | exact trivial | omega)))
    refine mguard_yes ?_
    refine mop_to (sum_ok A ss c w4 (h4.only.rd hr (fun b off _ h => by obtain ⟨_, hb, _⟩ := h; cases hb)) (by omega) (by omega)) ?_
    rintro e w5 ⟨rfl, h5⟩
    have h5 := h4.call0 h5
    refine mguard_yes ?_
    (repeat (first | (refine mop_c ?_ ?_; first | exact trivial | omega) | (refine dp_c ?_ ?_; first | exact trivial | omega)))
    refine mguard_yes ?_
    refine mop_to (refsum_ok s w5 (by omega)) ?_
    rintro e w6 ⟨rfl, h6⟩
    have h6 := h5.call0 h6
    refine mguard_yes ?_
    refine mop_pur (p_eql_hv _ _ _ (shaSum_length _) (shaSum_length _)) ?_
    rw [hs]
    simp only [decide_true]
    (repeat (first | (refine mop_c ?_ ?_; first | exact trivial | omega) | (refine dp_c ?_ ?_; first | exact trivial | omega)))
    refine mguard_yes ?_
    (repeat (first | (refine mop_c ?_ ?_; first | exact trivial | omega) | (refine dp_c ?_ ?_; first | exact trivial | omega)))
    refine mguard_yes ?_
    refine mop_run (buildstr s w6) ?_
    refine mguard_yes ?_
    refine mop_to (sum_one s w6 (by omega)) ?_
    rintro e w7 ⟨rfl, h7⟩
    have h7 := h6.call0 h7
    refine mguard_yes ?_
    (repeat (first | (refine mop_c ?_ ?_; first | exact trivial | omega) | (refine dp_c ?_ ?_; first | exact trivial | omega)))
    refine mguard_yes ?_
    refine mop_to (refsum_ok s w7 (by omega)) ?_
    rintro e w8 ⟨rfl, h8⟩
    have h8 := h7.call0 h8
    refine mguard_yes ?_
    refine mop_pur (p_eql_hv _ _ _ (shaSum_length _) (shaSum_length _)) ?_
    rw [hs]
    simp only [decide_true]
    (repeat (first | (refine mop_c ?_ ?_; first | exact trivial | omega) | (refine dp_c ?_ ?_; first | exact trivial | omega)))
    exact ⟨rfl, h8⟩

theorem shaHex_ok (l : List Int) (w : World) (hl : l.length = 32) (hr : ∀ x ∈ l, 0 ≤ x ∧ x < 256) : Calls Try.prog 5 #[hv l] w fun e w' => e = .returned (.bool true) ∧ St w [] w' := by
  refine C_bevylaw02_ShaHex ?_
  unfold F_bevylaw02_ShaHex
  refine mop_box (St.nil w) (fun b w1 h1 => ?_)
  have h1 : St w [⟨b, 23, u8s l, true⟩] w1 := by simpa [hv, Value.cells] using h1
  refine df_mop fun w2 hd2 => mop_to (awake_ok w2) ?_
  rintro e w3 ⟨rfl, h3⟩
  have h3 := (h1.drawn hd2).call0 h3
  refine ⟨(fun e => by cases e), ?_⟩
  refine qguard_yes ?_
  refine dq_ldN (cells_of_row h3.head) (by simp [u8s, hl]) rfl ?_
  refine mguard_yes ?_
  refine df_mop fun w4 hd4 => mop_to (hex_ok l w4 hl hr) ?_
  rintro e w5 ⟨rfl, h5⟩
  have x5 : Ext w3 w5 := hd4.ext.trans h5.ext0
  have h5 := (h3.drawn hd4).call0 h5
  refine ⟨fun _ => x5, ?_⟩
  refine qguard_yes ?_
  refine dq_ldN (cells_of_row h3.head) (by simp [u8s, hl]) rfl ?_
  refine mguard_yes ?_
  refine df_mop fun w6 hd6 => mop_to (refhex_ok l w6 hl hr) ?_
  rintro e w7 ⟨rfl, h7⟩
  have h7 := (h5.drawn hd6).call0 h7
  refine ⟨(fun e => by cases e), ?_⟩
  refine qguard_yes ?_
  refine dp_c trivial ?_
  refine dp_c trivial ?_
  refine dend_intro fun w8 hd8 => ?_
  exact ⟨by simp, (h7.drawn hd8).drop⟩
end Go.Proofs.Ytdefecbaineneaa
