/- Hold: the hold itself. -/
import Derived.Test.YthnjpglpglbbkaaHold1
namespace Go.Proofs.Ythnjpglpglbbkaa
open Go.RowKit

section
variable {H : Hp} {w0 w : World} {L R : List Res}
theorem find_ok {A : Option Addr} {n cap e : Nat} {r : Res} {c : Value} {f : Item → Bool} (xs : List Item) (hn : xs.length = n) (hc : Clo Try.prog H w0 r c iv f) (hM : Mem H w0 (r :: rowR e 66 A n cap (xs.map Item.fds) :: R) w) (hb : n < 1000000) :
    Calls Try.prog 95 #[.slice A n cap, c] w fun en w' => ∃ v, en = .returned v ∧ v = .int .i64 (idxOf f xs) ∧ Mem H w0 (r :: rowR e 66 A n cap (xs.map Item.fds) :: R) w' := by
  refine C_slices_IndexFunc_hold_Item_hold_Item ?_
  unfold F_slices_IndexFunc_hold_Item_hold_Item
  ((with_reducible (refine mop_c trivial ?_)))
  refine ⟨fun x w => ∃ i : Nat, x = .int .i64 i ∧ i ≤ n ∧ (∀ j (hj : j < xs.length), j < i → f xs[j] = false) ∧ Mem H w0 (r :: rowR e 66 A n cap (xs.map Item.fds) :: R) w, fun x _ => match x with | .int _ i => n - i.toNat | _ => 0, ⟨0, rfl, by omega, by intro j hj h; omega, hM⟩, ?_⟩
  rintro x u w ⟨i, rfl, hi, hf, hM⟩
  ((with_reducible (refine mop_cS trivial ?_ ?_)))
  · intro hlt
    ((with_reducible (refine mif_true ?_; refine mm_ixr hM ?_ ?_)); (focus omega); (with_reducible (intro _ hA)); (cases hA); (with_reducible (refine mm_ldr0 hM (map_atI ?_) ?_)); (focus omega))
    refine hc _ _ _ _ _ hM (fun w hM => ?_)
    cases hfi : f (xs[i]'(by omega))
    · ((with_reducible (refine mif_false ?_; refine mop_c ?_ ?_)); (focus omega))
      exact ⟨⟨i + 1, by simp, by omega, fun j hj hji => by
        rcases Nat.lt_or_ge j i with h | h
        · exact hf j hj h
        · have : j = i := by omega
          subst this
          exact hfi, hM⟩, by simp; omega⟩
    · ((with_reducible (refine mif_true ?_)))
      exact ⟨_, rfl, by rw [idxOf_at (i := i) (by omega) (fun j hj => hf j (by omega) hj) hfi], hM⟩
  · intro hge
    ((with_reducible (refine mif_false ?_)))
    exact ⟨_, rfl, by rw [idxOf_none fun j hj => hf j hj (by omega)], hM⟩
theorem contains_ok {A : Option Addr} {n cap e : Nat} {r : Res} {c : Value} {f : Item → Bool} (xs : List Item) (hn : xs.length = n) (hc : Clo Try.prog H w0 r c iv f) (hM : Mem H w0 (r :: rowR e 66 A n cap (xs.map Item.fds) :: R) w) (hb : n < 1000000) :
    Calls Try.prog 77 #[.slice A n cap, c] w fun en w' => ∃ v, en = .returned v ∧ v = .bool (xs.any f) ∧ Mem H w0 (r :: rowR e 66 A n cap (xs.map Item.fds) :: R) w' := by
  refine C_slices_ContainsFunc_hold_Item_hold_Item ?_
  unfold F_slices_ContainsFunc_hold_Item_hold_Item
  refine mm_own (find_ok xs hn hc hM hb) ?_
  rintro v w ⟨rfl, hM⟩
  refine mop_c trivial ?_
  refine ⟨_, rfl, ?_, hM⟩
  congr 1
  rw [Bool.eq_iff_iff]
  simp only [decide_eq_true_eq, List.any_eq_true]
  exact idxOf_nonneg f xs
theorem findS_ok {A : Option Addr} {n cap : Nat} {r : Res} {c : Value} {f : Item → Bool} (xs : List Item) (hn : xs.length = n) (hc : Clo Try.prog H w0 r c iv f) (hs : Sl H 66 A (xs.map Item.fds)) (hM : Mem H w0 (r :: R) w) (hb : n < 1000000) :
    Calls Try.prog 95 #[.slice A n cap, c] w fun en w' => ∃ v, en = .returned v ∧ v = .int .i64 (idxOf f xs) ∧ Mem H w0 (r :: R) w' := by
  refine C_slices_IndexFunc_hold_Item_hold_Item ?_
  unfold F_slices_IndexFunc_hold_Item_hold_Item
  ((with_reducible (refine mop_c trivial ?_)))
  refine ⟨fun x w => ∃ i : Nat, x = .int .i64 i ∧ i ≤ n ∧ (∀ j (hj : j < xs.length), j < i → f xs[j] = false) ∧ Mem H w0 (r :: R) w, fun x _ => match x with | .int _ i => n - i.toNat | _ => 0, ⟨0, rfl, by omega, by intro j hj h; omega, hM⟩, ?_⟩
  rintro x u w ⟨i, rfl, hi, hf, hM⟩
  ((with_reducible (refine mop_cS trivial ?_ ?_)))
  · intro hlt
    ((with_reducible (refine mif_true ?_)); (with_reducible refine mm_ixs ‹_› ?_ ?_ ?_); (focus (simp only [List.length_map]; omega)); (focus (simp only [List.length_map]; first | done | omega)); (with_reducible (intro _ _ hA)); (cases hA); (with_reducible refine mm_lds0 hM ‹_› (map_atI ?_) ?_); (focus omega))
    refine hc _ _ _ _ _ hM (fun w hM => ?_)
    cases hfi : f (xs[i]'(by omega))
    · ((with_reducible (refine mif_false ?_; refine mop_c ?_ ?_)); (focus omega))
      exact ⟨⟨i + 1, by simp, by omega, fun j hj hji => by
        rcases Nat.lt_or_ge j i with h | h
        · exact hf j hj h
        · have : j = i := by omega
          subst this
          exact hfi, hM⟩, by simp; omega⟩
    · ((with_reducible (refine mif_true ?_)))
      exact ⟨_, rfl, by rw [idxOf_at (i := i) (by omega) (fun j hj => hf j (by omega) hj) hfi], hM⟩
  · intro hge
    ((with_reducible (refine mif_false ?_)))
    exact ⟨_, rfl, by rw [idxOf_none fun j hj => hf j hj (by omega)], hM⟩
theorem containsS_ok {A : Option Addr} {n cap : Nat} {r : Res} {c : Value} {f : Item → Bool} (xs : List Item) (hn : xs.length = n) (hc : Clo Try.prog H w0 r c iv f) (hs : Sl H 66 A (xs.map Item.fds)) (hM : Mem H w0 (r :: R) w) (hb : n < 1000000) :
    Calls Try.prog 77 #[.slice A n cap, c] w fun en w' => ∃ v, en = .returned v ∧ v = .bool (xs.any f) ∧ Mem H w0 (r :: R) w' := by
  refine C_slices_ContainsFunc_hold_Item_hold_Item ?_
  unfold F_slices_ContainsFunc_hold_Item_hold_Item
  refine mm_own (findS_ok xs hn hc hs hM hb) ?_
  rintro v w ⟨rfl, hM⟩
  refine mop_c trivial ?_
  refine ⟨_, rfl, ?_, hM⟩
  congr 1
  rw [Bool.eq_iff_iff]
  simp only [decide_eq_true_eq, List.any_eq_true]
  exact idxOf_nonneg f xs
/-- A hold: its room, its items. -/
def holdR (g : Nat) (room : Int) (xs : List Item) : Res := exR fun p : Option Addr × Nat => [fb g 145 [.one (.int .i64 room), .one (.slice p.1 xs.length p.2)], rowR 32 66 p.1 xs.length p.2 (xs.map Item.fds)]
theorem Mem.hold {g : Nat} {room : Int} {xs : List Item} (h : Mem H w0 (holdR g room xs :: L) w) : ∃ A cap, Mem H w0 (fb g 145 [.one (.int .i64 room), .one (.slice A xs.length cap)] :: rowR 32 66 A xs.length cap (xs.map Item.fds) :: L) w := by
  obtain ⟨p, h⟩ := h.unex
  exact ⟨p.1, p.2, h⟩
theorem Mem.unhold {g : Nat} {room : Int} {xs : List Item} {A : Option Addr} {cap n : Nat} (h : Mem H w0 (fb g 145 [.one (.int .i64 room), .one (.slice A n cap)] :: rowR 32 66 A n cap (xs.map Item.fds) :: L) w) (hn : n = xs.length) : Mem H w0 (holdR g room xs :: L) w := by
  subst hn
  exact Mem.toex (R := fun p : Option Addr × Nat => [fb g 145 [.one (.int .i64 room), .one (.slice p.1 xs.length p.2)], rowR 32 66 p.1 xs.length p.2 (xs.map Item.fds)]) (A, cap) h
theorem new_ok (room : Int) (hr : 0 ≤ room ∧ room ≤ 256) (hM : Mem H w0 L w) : Calls Try.prog 15 #[.int .i64 room] w fun en w' => ∃ v, en = .returned v ∧ ∃ g, v = .tuple #[.pointer (some ⟨g, 0, none⟩), .int .i64 0] ∧ Mem H w0 (holdR g room [] :: L) w' := by
  refine C_hold_New ?_
  unfold F_hold_New
  refine ⟨fun x w => x = .bool false ∧ Mem H w0 L w, ?_, ?_⟩
  · ((with_reducible (refine mop_cF trivial ?_ ?_)); (focus (first | assumption | omega)); (with_reducible (refine mguard_yes ?_; refine mop_c trivial ?_; refine mguard_yes ?_; refine mop_cF trivial ?_ ?_)); (focus (first | assumption | omega)); (with_reducible (refine mop_c trivial ?_)))
    exact ⟨rfl, hM⟩
  · rintro x u w ⟨rfl, hM⟩
    ((with_reducible (refine mif_false ?_; refine mop_c trivial ?_; refine mm_box hM ?_; clear hM; intro _ _ hM)))
    exact ⟨_, rfl, _, rfl, Mem.unhold (A := none) (cap := 0) (xs := []) ((hM.row0 32 66).perm (.swap ..)) rfl⟩
theorem newno_ok (room : Int) (hr : ¬ (0 ≤ room ∧ room ≤ 256)) (hf : Fz H w) : Calls Try.prog 15 #[.int .i64 room] w fun en w' => en = .returned (.tuple #[.pointer none, .int .i64 1]) ∧ St w [] w' := by
  have hM := Mem.start hf
  refine C_hold_New ?_
  unfold F_hold_New
  refine ⟨fun x w2 => x = .bool true ∧ Mem H w [] w2, ?_, ?_⟩
  · ((with_reducible (refine mop_cS trivial ?_ ?_))) <;>
    · intro h
      (first | ((with_reducible (refine mguard_yes ?_; refine mop_c trivial ?_; refine mguard_yes ?_; refine mop_cT trivial ?_ ?_)); (focus (first | assumption | omega)); (with_reducible (refine mop_c trivial ?_))) | ((with_reducible (refine mguard_n1 ?_; refine mguard_n1 ?_; refine mop_c trivial ?_))))
      exact ⟨rfl, hM⟩
  · rintro x u w ⟨rfl, hM⟩
    ((with_reducible (refine mif_true ?_)))
    exact ⟨rfl, hM.st⟩
/-- What Put makes of items; its answer. -/
def putL (room : Int) (xs : List Item) (x : Item) : List Item × Int :=
  if xs.any fun y => decide (y.id = x.id) && decide (y.text = x.text) then (xs, 8) else if room ≤ xs.length then (xs, 9) else (xs ++ [x], 0)
theorem put_ok (g : Nat) (room : Int) (xs : List Item) (x : Item) (hb : xs.length < 100000) (hM : Mem H w0 (holdR g room xs :: L) w) : Calls Try.prog 16 #[.pointer (some ⟨g, 0, none⟩), iv x] w fun en w' => ∃ v, en = .returned v ∧ v = .int .i64 (putL room xs x).2 ∧ Mem H w0 (holdR g room (putL room xs x).1 :: L) w' := by
  obtain ⟨A, cap, hM⟩ := hM.hold
  refine C_hold_Hold_Put ?_
  unfold F_hold_Hold_Put
  ((with_reducible (refine mm_box hM ?_; clear hM; intro _ _ hM; refine mop_c trivial ?_; refine mif_false ?_; refine mop_c trivial ?_; refine mop_c trivial ?_; refine mm_ld hM ?_; refine mop_c trivial ?_)))
  rename_i b _
  have hM := hM.at_ (rowR 32 66 A xs.length cap (xs.map Item.fds))
  refine mm_own (contains_ok xs rfl (clo_put b x) (hM.perm (.swap ..)) (by omega)) ?_
  rintro v w ⟨rfl, hM⟩
  unfold putL
  cases ha : xs.any fun y => decide (y.id = x.id) && decide (y.text = x.text)
  · ((with_reducible (refine mif_false ?_; refine dp_c trivial ?_; refine dp_c trivial ?_; refine dm_ld hM ?_; (iterate 3 refine dp_c trivial ?_); refine dm_ld hM ?_)))
    refine dp_cS trivial ?_ ?_
    · intro hr
      ((with_reducible (refine mm_end hM ?_; clear hM; intro _ hM; refine mif_true ?_)))
      exact ⟨_, rfl, by simp [show room ≤ xs.length by omega], by simpa [show room ≤ xs.length by omega] using Mem.unhold (hM.drop.perm (.swap ..)) rfl⟩
    · intro hr
      ((with_reducible (refine mm_end hM ?_; clear hM; intro _ hM; refine mif_false ?_; refine dp_c trivial ?_; refine dp_c trivial ?_; refine dm_ld hM ?_; refine dm_ld hM ?_; refine dS_bsl hM ?_ ?_ ?_)); (focus rfl); (focus (constructor <;> simp)); (with_reducible (clear hM; intro _ _ hM; refine df_no hM ?_; clear hM; intro _ hM; refine mm_appo hM ?_ ?_)); (focus omega); (with_reducible (clear hM; intro _ _ _ hM; refine dp_c trivial ?_; refine dp_c trivial ?_; refine dS_st hM ?_; clear hM; intro _ hM; refine mm_end hM ?_; clear hM; intro _ hM)))
      rename_i A' cap' _ _ _
      have hM := (hM.at_ (fb b 32 x.fds)).drop
      exact ⟨_, rfl, by simp [show ¬ room ≤ xs.length by omega], by simpa [show ¬ room ≤ xs.length by omega] using Mem.unhold (xs := xs ++ [x]) (A := A') (cap := cap') (n := xs.length + 1) (by simpa using hM.perm (.swap ..)) (by simp)⟩
  · ((with_reducible (refine mif_true ?_)))
    exact ⟨_, rfl, by simp, by simpa using Mem.unhold (hM.drop.perm (.swap ..)) rfl⟩
end
end Go.Proofs.Ythnjpglpglbbkaa
