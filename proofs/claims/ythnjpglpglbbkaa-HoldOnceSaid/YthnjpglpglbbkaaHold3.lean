/- Hold: what is taken, dropped, asked; a nil hold. -/
import Derived.Test.YthnjpglpglbbkaaHold2
namespace Go.Proofs.Ythnjpglpglbbkaa
open Go.RowKit

section
variable {H : Hp} {w0 w : World} {L R : List Res}
theorem filter_take_succ {α : Type} (f : α → Bool) (xs : List α) (i : Nat) (h : i < xs.length) : (xs.take (i + 1)).filter f = (xs.take i).filter f ++ if f xs[i] then [xs[i]] else [] := by
  rw [List.take_succ_eq_append_getElem h, List.filter_append]
  simp [List.filter_cons]
theorem part_ok (g : Nat) (room : Int) (xs : List Item) {r : Res} {c : Value} {f : Item → Bool} (hb : xs.length < 100000) (hc : Clo Try.prog H w0 r c iv f) (hM : Mem H w0 (r :: holdR g room xs :: L) w) :
    Calls Try.prog 79 #[.pointer (some ⟨g, 0, none⟩), c] w fun en w' => ∃ v, en = .returned v ∧ ∃ H' A cap, v = .slice A (xs.filter f).length cap ∧ Le w0 H H' ∧ Sl H' 66 A ((xs.filter f).map Item.fds) ∧ Mem H' w0 (r :: holdR g room (xs.filter fun x => !f x) :: L) w' := by
  obtain ⟨A, cap, hM⟩ := (hM.perm (.swap ..)).hold
  refine C_hold_Hold_part ?_
  unfold F_hold_Hold_part
  ((with_reducible (refine mop_c trivial ?_; refine mif_false ?_; refine mop_c trivial ?_; refine mop_c trivial ?_; refine mm_ld hM ?_; refine mop_c trivial ?_)))
  refine ⟨fun x y z w => ∃ (i : Nat) (A1 : Option Addr) (c1 : Nat) (A2 : Option Addr) (c2 : Nat), x = .slice A1 ((xs.take i).filter f).length c1 ∧ y = .slice A2 ((xs.take i).filter fun x => !f x).length c2 ∧ z = .int .i64 i ∧ i ≤ xs.length ∧
    Mem H w0 (rowR 32 66 A1 ((xs.take i).filter f).length c1 (((xs.take i).filter f).map Item.fds) :: rowR 32 66 A2 ((xs.take i).filter fun x => !f x).length c2 (((xs.take i).filter fun x => !f x).map Item.fds) ::
      r :: fb g 145 [.one (.int .i64 room), .one (.slice A xs.length cap)] :: rowR 32 66 A xs.length cap (xs.map Item.fds) :: L) w,
    fun _ _ z _ => match z with | .int _ i => xs.length - i.toNat | _ => 0, ⟨0, none, 0, none, 0, rfl, rfl, rfl, by omega, (((hM.at_ r).row0 32 66).row0 32 66)⟩, ?_⟩
  rintro x y z u w ⟨i, A1, c1, A2, c2, rfl, rfl, rfl, hi, hM⟩
  have l1 : ((xs.take i).filter f).length ≤ i := Nat.le_trans (List.length_filter_le _ _) (by simp; omega)
  have l2 : ((xs.take i).filter fun x => !f x).length ≤ i := Nat.le_trans (List.length_filter_le _ _) (by simp; omega)
  ((with_reducible (refine mop_cS trivial ?_ ?_)))
  · intro hlt
    have hlt' : i < xs.length := by omega
    ((with_reducible (refine mif_true ?_)))
    refine ⟨fun x y w => ∃ (A1 : Option Addr) (c1 : Nat) (A2 : Option Addr) (c2 : Nat), x = .slice A1 ((xs.take (i + 1)).filter f).length c1 ∧ y = .slice A2 ((xs.take (i + 1)).filter fun x => !f x).length c2 ∧
      Mem H w0 (rowR 32 66 A1 ((xs.take (i + 1)).filter f).length c1 (((xs.take (i + 1)).filter f).map Item.fds) :: rowR 32 66 A2 ((xs.take (i + 1)).filter fun x => !f x).length c2 (((xs.take (i + 1)).filter fun x => !f x).map Item.fds) ::
      r :: fb g 145 [.one (.int .i64 room), .one (.slice A xs.length cap)] :: rowR 32 66 A xs.length cap (xs.map Item.fds) :: L) w, ?_, ?_⟩
    · ((with_reducible (refine mm_ixr hM ?_ ?_)); (focus omega); (with_reducible (intro _ hA)); (cases hA); (with_reducible (refine mm_ldr0 hM (map_atI ?_) ?_)); (focus omega); (with_reducible (refine mm_new hM ?_; clear hM; intro _ _ hM; refine mm_st hM ?_; clear hM; intro _ hM; refine mm_ld hM ?_)))
      rename_i b2 _ _
      refine hc _ _ _ _ _ (hM.at_ r) (fun w hM => ?_)
      rw [filter_take_succ f xs i hlt', filter_take_succ (fun x => !f x) xs i hlt']
      cases hfi : f xs[i]
      all_goals
        simp only [Bool.not_true, Bool.not_false, if_true, Bool.false_eq_true, if_false, List.append_nil, List.length_append, List.length_cons, List.length_nil, Nat.zero_add, List.map_append, List.map_cons, List.map_nil]
        (first | ((with_reducible (refine mif_false ?_; refine mm_ld hM ?_; refine mm_bsl hM ?_ ?_ ?_)); (focus rfl); (focus (constructor <;> simp)); (with_reducible (clear hM; intro _ _ hM; refine mm_appo hM ?_ ?_)); (focus omega); (with_reducible (clear hM; intro _ _ _ hM))) | ((with_reducible (refine mif_true ?_; refine mm_ld hM ?_; refine mm_bsl hM ?_ ?_ ?_)); (focus rfl); (focus (constructor <;> simp)); (with_reducible (clear hM; intro _ _ hM; refine mm_appo hM ?_ ?_)); (focus omega); (with_reducible (clear hM; intro _ _ _ hM))))
        exact ⟨_, _, _, _, rfl, rfl, (hM.rm b2).same⟩
    · rintro x y u w ⟨A1, c1, A2, c2, rfl, rfl, hM⟩
      ((with_reducible (refine mop_c ?_ ?_)); (focus omega))
      exact ⟨⟨i + 1, A1, c1, A2, c2, rfl, rfl, by simp, by omega, hM⟩, by simp; omega⟩
  · intro hge
    have : i = xs.length := by omega
    subst this
    simp only [List.take_length] at hM l1 l2 ⊢
    ((with_reducible (refine mif_false ?_; refine mop_c trivial ?_; refine mop_c trivial ?_; refine mm_st hM ?_; clear hM; intro _ hM)))
    obtain ⟨H', hl, hM, hs, _⟩ := hM.fz1 A1
    refine ⟨_, rfl, H', A1, c1, rfl, hl, hs, ?_⟩
    have hM := (hM.up A).drop
    refine Mem.perm (L := holdR g room (xs.filter fun x => !f x) :: r :: L) ?_ (.swap ..)
    exact Mem.unhold (hM.upB g) rfl
theorem take_ok (g : Nat) (room : Int) (xs : List Item) (a : H32) (hb : xs.length < 100000) (hM : Mem H w0 (holdR g room xs :: L) w) :
    Calls Try.prog 20 #[.pointer (some ⟨g, 0, none⟩), ha a] w fun en w' => ∃ v, en = .returned v ∧ ∃ H' A cap, v = .slice A (xs.filter fun y => decide (y.wait = a)).length cap ∧ Le w0 H H' ∧ Sl H' 66 A ((xs.filter fun y => decide (y.wait = a)).map Item.fds) ∧ Mem H' w0 (holdR g room (xs.filter fun y => !decide (y.wait = a)) :: L) w' := by
  refine C_hold_Hold_Take ?_
  unfold F_hold_Hold_Take
  ((with_reducible (refine mm_box hM ?_; clear hM; intro _ _ hM; refine mop_c trivial ?_)))
  rename_i b w1
  refine mm_own (part_ok g room xs hb (clo_take b a) hM) ?_
  rintro v w ⟨H', A, cap, rfl, hl, hs, hM⟩
  exact ⟨_, rfl, H', A, cap, rfl, hl, hs, hM.drop⟩
theorem drop_ok (g : Nat) (room : Int) (xs : List Item) (a : Int) (hb : xs.length < 100000) (hM : Mem H w0 (holdR g room xs :: L) w) :
    Calls Try.prog 43 #[.pointer (some ⟨g, 0, none⟩), .int .i64 a] w fun en w' => ∃ v, en = .returned v ∧ v = .int .i64 (xs.filter fun y => decide (y.depth < a)).length ∧ ∃ H', Le w0 H H' ∧ Mem H' w0 (holdR g room (xs.filter fun y => !decide (y.depth < a)) :: L) w' := by
  refine C_hold_Hold_Drop ?_
  unfold F_hold_Hold_Drop
  ((with_reducible (refine mm_box hM ?_; clear hM; intro _ _ hM; refine mop_c trivial ?_)))
  rename_i b w1
  refine mm_own (part_ok g room xs hb (clo_drop b a) hM) ?_
  rintro v w ⟨H', A, cap, rfl, hl, hs, hM⟩
  ((with_reducible (refine mop_c trivial ?_)))
  exact ⟨_, rfl, rfl, H', hl, hM.drop⟩
theorem has_ok (g : Nat) (room : Int) (xs : List Item) (a : H32) (hb : xs.length < 100000) (hM : Mem H w0 (holdR g room xs :: L) w) :
    Calls Try.prog 44 #[.pointer (some ⟨g, 0, none⟩), ha a] w fun en w' => ∃ v, en = .returned v ∧ v = .bool (xs.any fun y => decide (y.id = a)) ∧ Mem H w0 (holdR g room xs :: L) w' := by
  obtain ⟨A, cap, hM⟩ := hM.hold
  refine C_hold_Hold_Has ?_
  unfold F_hold_Hold_Has
  ((with_reducible (refine mm_box hM ?_; clear hM; intro _ _ hM; refine mop_c trivial ?_; refine mguard_yes ?_; refine mop_c trivial ?_; refine mguard_yes ?_; refine mop_c trivial ?_; refine mguard_yes ?_; refine mop_c trivial ?_; refine mguard_yes ?_; refine mm_ld hM ?_; refine mguard_yes ?_; refine mop_c trivial ?_; refine mguard_yes ?_)))
  rename_i b w1
  refine mm_own (contains_ok xs rfl (clo_has b a) ((hM.up A).perm (.swap ..)) (by omega)) ?_
  rintro v w ⟨rfl, hM⟩
  ((with_reducible (refine mop_c trivial ?_)))
  exact ⟨_, rfl, rfl, Mem.unhold (hM.drop.perm (.swap ..)) rfl⟩
theorem len_ok (g : Nat) (room : Int) (xs : List Item) (hM : Mem H w0 (holdR g room xs :: L) w) :
    Calls Try.prog 18 #[.pointer (some ⟨g, 0, none⟩)] w fun en w' => en = .returned (.int .i64 xs.length) ∧ w = w' := by
  obtain ⟨A, cap, hM⟩ := hM.hold
  refine C_hold_Hold_Len ?_
  unfold F_hold_Hold_Len
  ((with_reducible (refine mop_c trivial ?_; refine mif_false ?_; refine mop_c trivial ?_; refine mop_c trivial ?_; refine mm_ld hM ?_; refine mop_c trivial ?_)))
  exact ⟨rfl, rfl⟩
theorem hasF_ok (g : Nat) (room : Int) (A : Option Addr) (cap : Nat) (xs : List Item) (a : H32) (hb : xs.length < 100000) (hg : FbF H g [.one (.int .i64 room), .one (.slice A xs.length cap)]) (hs : Sl H 66 A (xs.map Item.fds)) (hf : Fz H w) :
    Calls Try.prog 44 #[.pointer (some ⟨g, 0, none⟩), ha a] w fun en w' => en = .returned (.bool (xs.any fun y => decide (y.id = a))) ∧ St w [] w' := by
  have hM := Mem.start hf
  refine C_hold_Hold_Has ?_
  unfold F_hold_Hold_Has
  ((with_reducible (refine mm_box hM ?_; clear hM; intro _ _ hM; refine mop_c trivial ?_; refine mguard_yes ?_; refine mop_c trivial ?_; refine mguard_yes ?_; refine mop_c trivial ?_; refine mguard_yes ?_; refine mop_c trivial ?_; refine mguard_yes ?_)); (with_reducible refine mm_ldf hM ‹_› ?_); (with_reducible (refine mguard_yes ?_; refine mop_c trivial ?_; refine mguard_yes ?_)))
  rename_i b w1
  refine mm_own (containsS_ok xs rfl (clo_has b a) hs hM (by omega)) ?_
  rintro v w ⟨rfl, hM⟩
  ((with_reducible (refine mop_c trivial ?_)))
  exact ⟨rfl, hM.st⟩
theorem hasR_ok (g : Nat) (room : Int) (xs : List Item) (a : H32) (hb : xs.length < 100000) (hM : Mem H w0 (holdR g room xs :: L) w) :
    Calls Try.prog 44 #[.pointer (some ⟨g, 0, none⟩), ha a] w fun en w' => en = .returned (.bool (xs.any fun y => decide (y.id = a))) ∧ St w [] w' := by
  obtain ⟨A, cap, hM⟩ := hM.hold
  exact hasF_ok g room A cap xs a hb hM.readsB (hM.reads (A := A)) (Fz.of w)
end
end Go.Proofs.Ythnjpglpglbbkaa
