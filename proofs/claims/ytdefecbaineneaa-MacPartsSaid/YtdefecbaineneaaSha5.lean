/- The law ShaOne, and how one text is handed to Sum. -/
import Derived.Test.YtdefecbaineneaaSha4
namespace Go.Proofs.Ytdefecbaineneaa
open Go.RowKit

theorem buildstr (s : ByteArray) (w : World) : (o_buildSlice 27 1 [(0, .string s)]).run Try.prog w = .ok (.value (.slice (some ⟨w.heap.size, 0, none⟩) 1 1)) (w.alloc (.cells [Value.string s].toArray 9)) := by kernel_rfl
theorem sum_one (s : ByteArray) (w : World) (hsz : s.size < 4611686018427387904) : Calls Try.prog 14 #[.slice (some ⟨w.heap.size, 0, none⟩) 1 1] (w.alloc (.cells [Value.string s].toArray 9)) fun e w' => e = .returned (hv (shaSum (ints s))) ∧ St w [] w' := by
  have h := sum_ok (some ⟨w.heap.size, 0, none⟩) [s] 1 (w.alloc (.cells [Value.string s].toArray 9)) (rd_new w [Value.string s] 9) (by simp) (by simpa [cat, ints_length] using hsz)
  refine h.mono ?_
  rintro e w' ⟨rfl, h'⟩
  refine ⟨by simp [cat], ?_⟩
  have := (St.nil w).alloc 9 [.string s]
  exact this.drop.call0 h'
theorem p_eql_hv (q : Bool) (xs ys : List Int) (hx : xs.length = 32) (hy : ys.length = 32) : Pur Try.prog (o_bin .eql 23 q (hv xs) (hv ys)) (.bool (decide (xs = ys))) :=
  p_eql_ints 23 5 32 q .u8 xs ys (by kernel_rfl) (by kernel_rfl) (by kernel_rfl) (by kernel_rfl) hx hy

theorem shaOne_ok (s : ByteArray) (w : World) : Calls Try.prog 3 #[.string s] w fun e w' => e = .returned (.bool true) ∧ St w [] w' := by
  refine C_bevylaw02_ShaOne ?_
  unfold F_bevylaw02_ShaOne
  (repeat (first | (refine mop_c ?_ ?_; first | exact trivial | omega) | (refine dp_c ?_ ?_; first | exact trivial | omega)))
  by_cases hl : (20000 : Int) < (s.size : Int)
  · simp only [hl, decide_true]
    repeat refine mguard_no (by simp) ?_
    (repeat (first | (refine mop_c ?_ ?_; first | exact trivial | omega) | (refine dp_c ?_ ?_; first | exact trivial | omega)))
    exact ⟨rfl, St.nil w⟩
  · simp only [hl, decide_false]
    refine mguard_yes ?_
    (repeat (first | (refine mop_c ?_ ?_; first | exact trivial | omega) | (refine dp_c ?_ ?_; first | exact trivial | omega)))
    refine mguard_yes ?_
    refine mop_run (buildstr s w) ?_
    refine mguard_yes ?_
    refine mop_to (sum_one s w (by omega)) ?_
    rintro e w1 ⟨rfl, h1⟩
    refine mguard_yes ?_
    (repeat (first | (refine mop_c ?_ ?_; first | exact trivial | omega) | (refine dp_c ?_ ?_; first | exact trivial | omega)))
    refine mguard_yes ?_
    refine mop_to (refsum_ok s w1 (by omega)) ?_
    rintro e w2 ⟨rfl, h2⟩
    refine mguard_yes ?_
    refine mop_pur (p_eql_hv _ _ _ (shaSum_length _) (shaSum_length _)) ?_
    (repeat (first | (refine mop_c ?_ ?_; first | exact trivial | omega) | (refine dp_c ?_ ?_; first | exact trivial | omega)))
    exact ⟨by simp, h1.call0 h2⟩
end Go.Proofs.Ytdefecbaineneaa
