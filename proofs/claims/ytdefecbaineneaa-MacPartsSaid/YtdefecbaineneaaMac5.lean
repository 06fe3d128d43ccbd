/- The law MacMakes. -/
import Derived.Test.YtdefecbaineneaaMac4
namespace Go.Proofs.Ytdefecbaineneaa
open Go.RowKit

set_option maxHeartbeats 1000000 in
theorem macMakes_ok (x y : List Int) (l c : ByteArray) (w : World) (hx : x.length = 32) (hy : y.length = 32) (rx : ∀ c ∈ x, 0 ≤ c ∧ c < 256) (ry : ∀ c ∈ y, 0 ≤ c ∧ c < 256) :
    Calls Try.prog 11 #[hv x, hv y, .string l, .string c] w fun e w' => e = .returned (.bool true) ∧ St w [] w' := by
  refine C_bevylaw03_MacMakes ?_
  unfold F_bevylaw03_MacMakes
  have lx : (u8s x).length = 32 := by simp [u8s, hx]
  have ly : (u8s y).length = 32 := by simp [u8s, hy]
  refine mop_box (St.nil w) (fun b w1 h1 => ?_)
  have h1 : St w [⟨b, 23, u8s x, true⟩] w1 := by simpa [hv, Value.cells] using h1
  refine mop_box h1 (fun d w2 h2 => ?_)
  have h2 : St w [⟨d, 23, u8s y, true⟩, ⟨b, 23, u8s x, true⟩] w2 := by simpa [hv, Value.cells] using h2
  clear h1
  refine ⟨fun v w2 => ∃ q : Bool, v = .bool q ∧ (q = false → l.size ≤ 5000 ∧ c.size ≤ 5000) ∧ St w [⟨d, 23, u8s y, true⟩, ⟨b, 23, u8s x, true⟩] w2, ?_, ?_⟩
  · (repeat (first | (refine mop_c ?_ ?_; first | exact trivial | omega) | (refine dp_c ?_ ?_; first | exact trivial | omega)))
    by_cases hbig : (5000 : Int) < (l.size : Int)
    · simp only [hbig, decide_true]
      repeat refine mguard_no (by simp) ?_
      (repeat (first | (refine mop_c ?_ ?_; first | exact trivial | omega) | (refine dp_c ?_ ?_; first | exact trivial | omega)))
      exact ⟨true, rfl, by simp, h2⟩
    · simp only [hbig, decide_false]
      refine mguard_yes ?_
      (repeat (first | (refine mop_c ?_ ?_; first | exact trivial | omega) | (refine dp_c ?_ ?_; first | exact trivial | omega)))
      refine mguard_yes ?_
      (repeat (first | (refine mop_c ?_ ?_; first | exact trivial | omega) | (refine dp_c ?_ ?_; first | exact trivial | omega)))
      refine mguard_yes ?_
      (repeat (first | (refine mop_c ?_ ?_; first | exact trivial | omega) | (refine dp_c ?_ ?_; first | exact trivial | omega)))
      exact ⟨_, rfl, by simp; omega, h2⟩
  · clear h2
    rintro v u w2 ⟨q, rfl, hq, h2⟩
    refine mif_bool (fun ht => ?_) (fun hf => ?_)
    · refine mop_to (awake3_ok w2) ?_
      rintro e w5 ⟨rfl, h5⟩
      exact ⟨rfl, (h2.call0 h5).drop.drop⟩
    · obtain ⟨hl, hc⟩ := hq hf
      refine df_mop fun w3 hd3 => mop_to (awake3_ok w3) ?_
      rintro e w4 ⟨rfl, h4⟩
      have h4 := (h2.drawn hd3).call0 h4
      refine ⟨(fun e => by cases e), ?_⟩
      have cx := cells_of_row (h4.mem (k := 1) rfl)
      refine qguard_yes ?_
      refine dq_ldN cx lx rfl ?_
      refine qguard_yes ?_
      (repeat (first | (refine mop_c ?_ ?_; first | exact trivial | omega) | (refine dp_c ?_ ?_; first | exact trivial | omega)))
      refine qguard_yes ?_
      (repeat (first | (refine mop_c ?_ ?_; first | exact trivial | omega) | (refine dp_c ?_ ?_; first | exact trivial | omega)))
      refine mguard_yes ?_
      refine df_mop fun w5 hd5 => mop_to (derive_ok x l c w5 hx rx hl hc) ?_
      rintro e w6 ⟨rfl, h6⟩
      have x6 : Ext w4 w6 := hd5.ext.trans h6.ext0
      have h6 := (h4.drawn hd5).call0 h6
      refine ⟨fun _ => x6, ?_⟩
      refine qguard_yes ?_
      refine dq_ldN cx lx rfl ?_
      refine qguard_yes ?_
      (repeat (first | (refine mop_c ?_ ?_; first | exact trivial | omega) | (refine dp_c ?_ ?_; first | exact trivial | omega)))
      refine qguard_yes ?_
      (repeat (first | (refine mop_c ?_ ?_; first | exact trivial | omega) | (refine dp_c ?_ ?_; first | exact trivial | omega)))
      refine mguard_yes ?_
      refine df_mop fun w7 hd7 => mop_to (refderive_ok x l c w7 hx rx hl hc) ?_
      rintro e w8 ⟨rfl, h8⟩
      have h8 := (h6.drawn hd7).call0 h8
      refine ⟨(fun e => by cases e), ?_⟩
      refine qguard_yes ?_
      refine dp_pur (p_eql_hv _ _ _ (derived_length _ _ _) (derived_length _ _ _)) ?_
      simp only [decide_true]
      refine dp_c trivial ?_
      have cx := cells_of_row (h8.mem (k := 1) rfl)
      have cy := cells_of_row h8.head
      refine qguard_yes ?_
      refine dq_ldN cy ly rfl ?_
      refine qguard_yes ?_
      refine dq_ldN cx lx rfl ?_
      refine mguard_yes ?_
      refine df_mop fun w9 hd9 => mop_to (mix_ok y x w9 hy hx ry rx) ?_
      rintro e w10 ⟨rfl, h10⟩
      have x10 : Ext w8 w10 := hd9.ext.trans h10.ext0
      have h10 := (h8.drawn hd9).call0 h10
      refine ⟨fun _ => x10, ?_⟩
      refine qguard_yes ?_
      refine dq_ldN cy ly rfl ?_
      refine qguard_yes ?_
      refine dq_ldN cx lx rfl ?_
      refine mguard_yes ?_
      refine df_mop fun w11 hd11 => mop_to (refmix_ok y x w11 hy hx ry rx) ?_
      rintro e w12 ⟨rfl, h12⟩
      have h12 := (h10.drawn hd11).call0 h12
      refine ⟨(fun e => by cases e), ?_⟩
      refine qguard_yes ?_
      refine dp_pur (p_eql_hv _ _ _ (hmac_length _ _) (hmac_length _ _)) ?_
      simp only [decide_true]
      refine dp_c trivial ?_
      refine dend_intro fun w13 hd13 => ?_
      exact ⟨rfl, (h12.drawn hd13).drop.drop⟩
end Go.Proofs.Ytdefecbaineneaa
