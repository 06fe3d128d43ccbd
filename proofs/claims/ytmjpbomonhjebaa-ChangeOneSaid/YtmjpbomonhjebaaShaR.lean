/- The walks of the turns: bits.RotateLeft32 at the program's own counts, and the reference's turned and word. -/
import Derived.Test.YtmjpbomonhjebaaF
import Derived.Test.YtmjpbomonhjebaaSha0
namespace Go.Proofs.Ytmjpbomonhjebaa
@[simp] theorem kd_lit (n : Nat) : (OfNat.ofNat n : Kd) = Kd.ty n := rfl
theorem rot_k (x : Int) (k : Int) (c : Nat) (w : World) (h : Wd x) (hc : 0 < c ∧ c < 32) (hk : bits .and .u64 (k % 18446744073709551616) 31 = ((32 - c : Nat) : Int)) :
    Calls Try.prog 152 #[.int .u32 x, .int .i64 k] w fun e w' => e = .returned (.int .u32 (rotr x c)) ∧ w = w' := by
  obtain ⟨h0, h1⟩ := h
  refine C_math_bits_RotateLeft32 ?_
  unfold F_math_bits_RotateLeft32
  refine mop_c trivial ?_
  refine mop_c trivial ?_
  rw [hk]
  (repeat (first | (refine mop_c ?_ ?_; first | exact trivial | omega) | (refine dp_c ?_ ?_; first | exact trivial | omega)))
  refine ⟨?_, rfl⟩
  have e1 : ((32 - c : Nat) : Int).toNat = 32 - c := by omega
  have e2 : ((32 - ((32 - c : Nat) : Int)) % 18446744073709551616).toNat = c := by omega
  rw [e1, e2, bits_or_comm]
  rfl
theorem turned_k (x : Int) (c : Nat) (w : World) (h : Wd x) (hc : 0 < c ∧ c < 32) :
    Calls Try.prog 118 #[.int .u32 x, .int .u64 (c : Int)] w fun e w' => e = .returned (.int .u32 (rotr x c)) ∧ w = w' := by
  obtain ⟨h0, h1⟩ := h
  refine C_bevyref02_turned ?_
  unfold F_bevyref02_turned
  (repeat (first | (refine mop_c ?_ ?_; first | exact trivial | omega) | (refine dp_c ?_ ?_; first | exact trivial | omega)))
  refine ⟨?_, rfl⟩
  have e1 : ((c : Nat) : Int).toNat = c := by omega
  have e2 : ((32 - (c : Int)) % 18446744073709551616).toNat = 32 - c := by omega
  rw [e1, e2]
  rfl
end Go.Proofs.Ytmjpbomonhjebaa
