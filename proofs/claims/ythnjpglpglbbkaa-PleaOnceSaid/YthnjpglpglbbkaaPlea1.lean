/- Plea: pleas, what is asked of them, the list. -/
import Derived.Test.YthnjpglpglbbkaaF
import Derived.Test.YthnjpglpglbbkaaMgn
namespace Go.Proofs.Ythnjpglpglbbkaa
open Go.RowKit

structure Chg where
  kind : Int
  name : Int
  pub : H32
  deriving DecidableEq
abbrev Chg.fds (x : Chg) : List Fd := [.one (.int .i64 x.kind), .one (.int .i64 x.name), .arr 32 (u8s x.pub.1)]
abbrev cv (x : Chg) : Value := .agg (fl x.fds).toArray
structure Ple where
  seq : Int
  chg : Chg
  epoch : H32
  why : Int
  deriving DecidableEq
abbrev Ple.fds (x : Ple) : List Fd := [.one (.int .i64 x.seq), .one (.int .i64 x.chg.kind), .one (.int .i64 x.chg.name), .arr 32 (u8s x.chg.pub.1), .arr 32 (u8s x.epoch.1), .one (.int .i64 x.why)]
abbrev pv (x : Ple) : Value := .agg (fl x.fds).toArray
abbrev i64s (l : List Int) : List (List Fd) := l.map fun z => [.one (.int .i64 z)]
section
variable {H : Hp} {w0 w : World} {L R : List Res}
theorem index_ok (A : Option Addr) (c n : Nat) (l : List Int) (x : Int) (hn : n = l.length) (hb : l.length < 1000000) (hs : Sl H 1 A (i64s l)) (hf : Fz H w) :
    Calls Try.prog 100 #[.slice A n c, .int .i64 x] w fun e w' => ∃ k : Int, e = .returned (.int .i64 k) ∧ (0 ≤ k ↔ x ∈ l) ∧ St w [] w' := by
  subst hn
  have hM := Mem.start hf
  refine C_slices_Index_int_int ?_
  unfold F_slices_Index_int_int
  ((with_reducible (refine mop_c trivial ?_)))
  refine ⟨fun y w' => ∃ i : Nat, y = .int .i64 i ∧ i ≤ l.length ∧ (∀ j (hj : j < l.length), j < i → x ≠ l[j]) ∧ hM.now w', fun y _ => match y with | .int _ i => l.length - i.toNat | _ => 0, ⟨0, rfl, by omega, by intro j hj h; omega, hM⟩, ?_⟩
  rintro y u w2 ⟨i, rfl, hi, hne, hM⟩
  ((with_reducible (refine mop_cS trivial ?_ ?_)))
  · intro hlt
    have hlt' : i < l.length := by omega
    ((with_reducible (refine mif_true ?_)); (with_reducible refine mm_ixs ‹_› ?_ ?_ ?_); (focus (simp only [List.length_map]; omega)); (focus (simp only [List.length_map]; first | done | omega)); (with_reducible (intro _ _ hA)); (cases hA); (with_reducible refine mm_lds0 hM ‹_› (map_atI ?_) ?_); (focus omega))
    ((with_reducible (refine mop_cS trivial ?_ ?_)))
    · intro he
      ((with_reducible (refine mif_true ?_)))
      exact ⟨i, rfl, ⟨fun _ => by rw [he]; exact List.getElem_mem _, fun _ => by omega⟩, hM.st⟩
    · intro he
      ((with_reducible (refine mif_false ?_; refine mop_c ?_ ?_)); (focus omega))
      exact ⟨⟨i + 1, by simp, by omega, fun j hj hji => by
        rcases Nat.lt_or_ge j i with h | h
        · exact hne j hj h
        · have : j = i := by omega
          subst this
          exact he, hM⟩, by simp; omega⟩
  · intro hge
    ((with_reducible (refine mif_false ?_)))
    exact ⟨-1, rfl, ⟨fun h => by omega, fun h => by
      obtain ⟨j, hj, rfl⟩ := List.mem_iff_getElem.1 h
      exact absurd rfl (hne j hj (by omega))⟩, hM.st⟩
theorem isin_ok (A : Option Addr) (c n : Nat) (l : List Int) (x : Int) (hn : n = l.length) (hb : l.length < 1000000) (hs : Sl H 1 A (i64s l)) (hf : Fz H w) :
    Calls Try.prog 90 #[.slice A n c, .int .i64 x] w fun e w' => e = .returned (.bool (decide (x ∈ l))) ∧ St w [] w' := by
  have hM := Mem.start hf
  refine C_slices_Contains_int_int ?_
  unfold F_slices_Contains_int_int
  refine mop_to (index_ok A c n l x hn hb hs hf) ?_
  rintro e w2 ⟨k, rfl, hk, hst⟩
  refine mop_c trivial ?_
  exact ⟨by rw [show decide (0 ≤ k) = decide (x ∈ l) by rw [decide_eq_decide]; exact hk], hst⟩
/-- What fits, by eight answers. -/
def slot (x : Chg) : Nat := (x.name % 18446744073709551616 % 8).toNat
theorem slot_ok (x : Chg) (hf : Fz H w) : Calls Try.prog 94 #[cv x] w fun e w' => e = .returned (.int .i64 (slot x)) ∧ St w [] w' := by
  have hM := Mem.start hf
  refine C_bevyref17_Slot ?_
  unfold F_bevyref17_Slot
  ((with_reducible (refine mm_box hM ?_; clear hM; intro _ _ hM; refine mop_c trivial ?_; refine mm_ld hM ?_; refine mop_c trivial ?_; refine mop_c ?_ ?_)); (focus omega); (with_reducible (refine mop_c ?_ ?_)); (focus omega))
  refine ⟨?_, hM.st⟩
  unfold slot
  congr 2
  omega
abbrev tv (t : List Int) : Value := .agg (t.map (Value.int .i64)).toArray
theorem fits_ok (t : List Int) (ht : t.length = 8) (x : Chg) (hf : Fz H w) : Calls Try.prog 91 #[tv t, cv x] w fun e w' => e = .returned (.int .i64 (t.getD (slot x) 0)) ∧ St w [] w' := by
  have hM := Mem.start hf
  have : FdOk (.arr 8 (t.map (Value.int .i64))) := ⟨by simp [Fd.cells, Fd.size, ht], fun u hu => by
    simp only [Fd.cells, List.mem_map] at hu
    obtain ⟨_, _, rfl⟩ := hu
    rfl⟩
  have hsl : slot x < 8 := by unfold slot; omega
  refine C_bevylaw17_Table_Fits ?_
  unfold F_bevylaw17_Table_Fits
  ((with_reducible (refine mm_box hM ?_; clear hM; intro _ _ hM; refine mm_box hM ?_; clear hM; intro _ _ hM; refine mm_ld hM ?_)))
  refine mm_pure hM (slot_ok x hM.fz) (fun w2 hM => ?_)
  ((with_reducible (refine mop_c trivial ?_; refine mop_c ?_ ?_)); (focus omega))
  refine mm_lda hM (j := slot x) (v := .int .i64 (t.getD (slot x) 0)) (by simp [List.getD, ht, hsl]) ?_
  skip
  exact ⟨rfl, hM.st⟩
end
end Go.Proofs.Ythnjpglpglbbkaa
