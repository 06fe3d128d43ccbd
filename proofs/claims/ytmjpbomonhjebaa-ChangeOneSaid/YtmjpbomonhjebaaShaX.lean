/- Of the texts on digests: what others use. (Taken out of XSha5, XSha6, XSha7.) -/
import Derived.Test.YtmjpbomonhjebaaSha4
namespace Go.Proofs.Ytmjpbomonhjebaa
open Go.RowKit

theorem buildstr (s : ByteArray) (w : World) : (o_buildSlice 147 1 [(0, .string s)]).run Try.prog w = .ok (.value (.slice (some ⟨w.heap.size, 0, none⟩) 1 1)) (w.alloc (.cells [Value.string s].toArray 9)) := by kernel_rfl
theorem sum_one (s : ByteArray) (w : World) (hsz : s.size < 4611686018427387904) : Calls Try.prog 68 #[.slice (some ⟨w.heap.size, 0, none⟩) 1 1] (w.alloc (.cells [Value.string s].toArray 9)) fun e w' => e = .returned (hv (shaSum (ints s))) ∧ St w [] w' := by
  have h := sum_ok (some ⟨w.heap.size, 0, none⟩) [s] 1 (w.alloc (.cells [Value.string s].toArray 9)) (rd_new w [Value.string s] 9) (by simp) (by simpa [cat, ints_length] using hsz)
  refine h.mono ?_
  rintro e w' ⟨rfl, h'⟩
  refine ⟨by simp [cat], ?_⟩
  have := (St.nil w).alloc 9 [.string s]
  exact this.drop.call0 h'
theorem p_eql_hv (q : Bool) (xs ys : List Int) (hx : xs.length = 32) (hy : ys.length = 32) : Pur Try.prog (o_bin .eql 23 q (hv xs) (hv ys)) (.bool (decide (xs = ys))) :=
  p_eql_ints 23 5 32 q .u8 xs ys (by kernel_rfl) (by kernel_rfl) (by kernel_rfl) (by kernel_rfl) hx hy
theorem strOfNums_append (a b : List Int) : strOfNums a ++ strOfNums b = strOfNums (a ++ b) := by
  apply ByteArray.ext
  simp [strOfNums]
theorem St.ext {w w' : World} {L : List Bk} (h : St w L w') (hn : ∀ b ∈ L, b.nw = true) : Ext w w' :=
  h.only.mono (fun i _ hi => by
    obtain ⟨b, hb, h2, _⟩ := hi
    rw [hn b hb] at h2
    cases h2)
theorem St.ext0 {w w' : World} (h : St w [] w') : Ext w w' := h.ext (fun _ h => by cases h)
theorem build1b (a : Int) (w : World) : (o_buildSlice 86 1 [(0, .int .u8 a)]).run Try.prog w = .ok (.value (.slice (some ⟨w.heap.size, 0, none⟩) 1 1)) (w.alloc (.cells (u8s [a]).toArray 5)) := by kernel_rfl
theorem p_index_str (s : ByteArray) (i : Int) (h0 : 0 ≤ i) (h1 : i < s.size) : Pur Try.prog (o_index 9 (.string s) (.int .i64 i)) (.int .u8 ((ints s).getD i.toNat 0)) := p_index_string (P := Try.prog) 9 s .i64 i (by kernel_rfl) h0 h1
theorem conv1 (a : Int) (w : World) {w0 : World} {L : List Bk} (h : St w0 L w) :
    PurW Try.prog (w.alloc (.cells (u8s [a]).toArray 5)) (o_conv 86 9 (.slice (some ⟨w.heap.size, 0, none⟩) 1 1)) (.string (strOfNums [a])) :=
  pw_conv_bytes 86 9 5 w.heap.size 0 1 _ [a] (by kernel_rfl) (by kernel_rfl) (by kernel_rfl) rfl (fun i hi => by
    rw [Nat.zero_add, (h.alloc 5 (u8s [a])).cell 0 rfl i]
    have : i = 0 := by omega
    subst this
    rfl)
end Go.Proofs.Ytmjpbomonhjebaa
