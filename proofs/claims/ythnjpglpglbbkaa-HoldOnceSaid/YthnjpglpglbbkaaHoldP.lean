/- Hold: the walk of HoldPlays. -/
import Derived.Test.YthnjpglpglbbkaaHoldL
namespace Go.Proofs.Ythnjpglpglbbkaa
open Go.RowKit

structure HAct where
  op : Int
  item : Item
abbrev HAct.fds (x : HAct) : List Fd := [.one (.int .u8 x.op), .arr 32 (u8s x.item.id.1), .arr 32 (u8s x.item.wait.1), .one (.int .i64 x.item.depth), .one (.string x.item.text)]
theorem putL_len (room : Int) (xs : List Item) (x : Item) : (putL room xs x).1.length ≤ xs.length + 1 := by
  unfold putL
  split
  · simp
  · split <;> simp
section
variable {H : Hp} {w0 w : World} {L R : List Res}
theorem holdPlays_ok (room : Int) (acts : List HAct) (hop : ∀ x ∈ acts, 0 ≤ x.op ∧ x.op < 256) (A : Option Addr) (cap : Nat) (hs : Sl H 67 A (acts.map HAct.fds)) (hf : Fz H w) :
    Calls Try.prog 7 #[.int .i64 room, .slice A acts.length cap] w fun en w' => en = .returned (.bool true) ∧ St w [] w' := by
  have hM := Mem.start hf
  refine C_bevylaw16_HoldPlays ?_
  unfold F_bevylaw16_HoldPlays
  refine ⟨fun x w' => ∃ b : Bool, x = .bool b ∧ (b = false → acts.length ≤ 400) ∧ hM.now w', ?_, ?_⟩
  · refine mm_pure hM (hawake_ok hM.fz) (fun w1 hM => ?_)
    ((with_reducible (refine mop_c trivial ?_; refine mguard_yes ?_; refine mop_c trivial ?_; refine mguard_yes ?_; refine mop_c trivial ?_; refine mguard_yes ?_)))
    ((with_reducible (refine mop_cS trivial ?_ ?_))) <;>
    · intro h
      ((with_reducible (refine mop_c trivial ?_)))
      exact ⟨_, rfl, by simp; try omega, hM⟩
  rintro x u w2 ⟨b, rfl, hb, hM⟩
  cases b with
  | true =>
    ((with_reducible (refine mif_true ?_)))
    refine mm_pure hM (hawake_ok hM.fz) (fun w1 hM => ?_)
    exact ⟨rfl, hM.st⟩
  | false =>
    have hb := hb rfl
    ((with_reducible (refine mif_false ?_)))
    by_cases hr : 0 ≤ room ∧ room ≤ 256
    · refine mm_own (new_ok room hr hM) ?_
      rintro v w3 ⟨g, rfl, hM⟩
      ((with_reducible (refine mop_c trivial ?_; refine mop_c trivial ?_)))
      refine ⟨fun x w' => x = .bool false ∧ hM.now w', ?_, ?_⟩
      · ((with_reducible (refine mop_cF trivial ?_ ?_)); (focus (first | assumption | omega)); (with_reducible (refine mguard_yes ?_; refine mop_c trivial ?_; refine mguard_yes ?_; refine mop_cF trivial ?_ ?_)); (focus (first | assumption | omega)); (with_reducible (refine mop_c trivial ?_)))
        exact ⟨rfl, hM⟩
      rintro x u w2 ⟨rfl, hM⟩
      ((with_reducible (refine mif_false ?_; refine mop_c trivial ?_; refine mm_new hM ?_; clear hM; intro _ _ hM; refine mm_st hM ?_; clear hM; intro _ hM)))
      rename_i g7 _ _
      refine ⟨fun x w' => ∃ (i : Nat) (xs : List Item) (H' : Hp) (A' : Option Addr) (c' : Nat), x = .int .i64 i ∧ i ≤ acts.length ∧ xs.length ≤ i ∧ Le w H H' ∧ ISl H' A' xs ∧
        Mem H' w [fb g7 77 [.one (.int .i64 room), .one (.slice A' xs.length c')], holdR g room xs] w', fun x _ => match x with | .int _ i => acts.length - i.toNat | _ => 0,
        ⟨0, [], H, none, 0, rfl, by omega, by simp, Le.refl _ _, Sl.nil _ _ _, hM⟩, ?_⟩
      rintro x u w3 ⟨i, xs, H1, A1, c1, rfl, hi, hxs, hl, hs1, hM⟩
      ((with_reducible (refine mop_c trivial ?_)))
      ((with_reducible (refine mop_cS trivial ?_ ?_)))
      · intro hlt
        have hlt' : i < acts.length := by omega
        have hs2 := hs.mono hl.le
        have hbx : xs.length < 100000 := by omega
        have hop' := hop acts[i] (List.getElem_mem _)
        ((with_reducible (refine mif_true ?_)); (with_reducible refine mm_ixs ‹_› ?_ ?_ ?_); (focus (simp only [List.length_map]; omega)); (focus (simp only [List.length_map]; first | done | omega)); (with_reducible (intro _ _ hA)); (cases hA); (with_reducible (refine mop_c trivial ?_)); (with_reducible refine mm_lds hM ‹_› (map_atI ?_) ?_); (focus omega); (with_reducible (refine mm_new hM ?_; clear hM; intro _ _ hM; refine mm_st hM ?_; clear hM; intro _ hM)))
        refine ⟨fun x w' => x = .bool true ∧ ∃ (xs' : List Item) (H' : Hp) (A' : Option Addr) (c' : Nat), xs'.length ≤ i + 1 ∧ Le w H H' ∧ ISl H' A' xs' ∧ Mem H' w [fb g7 77 [.one (.int .i64 room), .one (.slice A' xs'.length c')], holdR g room xs'] w', ?_, ?_⟩
        · ((with_reducible refine mm_ixs ‹_› ?_ ?_ ?_); (focus (simp only [List.length_map]; omega)); (focus (simp only [List.length_map]; first | done | omega)); (with_reducible (intro _ _ hA)); (cases hA); (with_reducible (refine mop_c trivial ?_)); (with_reducible refine mm_lds hM ‹_› (map_atI ?_) ?_); (focus omega); (with_reducible (refine mop_c ?_ ?_)); (focus omega))
          ((with_reducible (refine mop_cS trivial ?_ ?_)))
          · intro h0
            ((with_reducible (refine mif_true ?_; refine mm_ld hM ?_; refine mm_ld hM ?_)))
            refine mm_call hM (rput_ok room A1 c1 xs acts[i].item hbx hs1 hM.fz) ?_
            rintro H2 v w4 hl2 hM ⟨A2, c2, n2, y, rfl, rfl, hs3, rfl⟩
            ((with_reducible (refine mop_c trivial ?_; refine mop_c trivial ?_; refine mm_new hM ?_; clear hM; intro _ _ hM; refine mm_st hM ?_; clear hM; intro _ hM; refine mm_ld hM ?_)))
            refine mm_pure hM (item_ok _ hM.fz) (fun w5 hM => ?_)
            refine mm_own (put_ok g room xs acts[i].item hbx (hM.at_ (holdR g room xs))) ?_
            rintro v w6 ⟨rfl, hM⟩
            ((with_reducible (refine mop_cT trivial ?_ ?_)); (focus (first | assumption | omega)); (with_reducible (refine mm_ld hM ?_; refine mm_st hM ?_; clear hM; intro _ hM)))
            have := putL_len room xs acts[i].item
            exact ⟨rfl, _, H2, A2, c2, by omega, hl.trans hl2, hs3, hM.sub⟩
          · intro h0
            ((with_reducible (refine mif_false ?_)))
            ((with_reducible (refine mop_cS trivial ?_ ?_)))
            · intro h1
              ((with_reducible (refine mif_true ?_; refine mm_ld hM ?_; refine mop_c trivial ?_; refine mm_ld hM ?_)))
              refine mm_call hM (rtake_ok room A1 c1 xs acts[i].item.wait hbx hs1 hM.fz) ?_
              rintro H2 v w4 hl2 hM ⟨A2, c2, n2, y, rfl, rfl, hs3, A3, c3, n3, rfl, rfl, hs4⟩
              ((with_reducible (refine mop_c trivial ?_; refine mop_c trivial ?_; refine mm_new hM ?_; clear hM; intro _ _ hM; refine mm_st hM ?_; clear hM; intro _ hM; refine mop_c trivial ?_; refine mm_ld hM ?_)))
              refine mm_own (take_ok g room xs acts[i].item.wait hbx (hM.at_ (holdR g room xs))) ?_
              rintro v w6 ⟨H3, A4, c4, rfl, hl3, hs5, hM⟩
              have lf : (xs.filter fun y => decide (y.wait = acts[i].item.wait)).length ≤ xs.length := List.length_filter_le _ _
              have lf2 : (xs.filter fun y => !decide (y.wait = acts[i].item.wait)).length ≤ xs.length := List.length_filter_le _ _
              refine mm_call hM (plain_ok A4 c4 _ _ rfl (by omega) hs5 hM.fz) ?_
              rintro H4 v w7 hl4 hM ⟨A5, c5, n5, rfl, rfl, hs6⟩
              refine mm_pure hM (rsame_ok A5 A3 c5 c3 _ _ (by omega) hs6 (hs4.mono (hl3.trans hl4).le) hM.fz) (fun w8 hM => ?_)
              rw [decide_eq_true rfl]
              ((with_reducible (refine mm_ld hM ?_; refine mm_st hM ?_; clear hM; intro _ hM)))
              exact ⟨rfl, _, H4, A2, c2, by omega, hl.trans (hl2.trans (hl3.trans hl4)), hs3.mono (hl3.trans hl4).le, hM.sub⟩
            · intro h1
              ((with_reducible (refine mif_false ?_)))
              ((with_reducible (refine mop_cS trivial ?_ ?_)))
              · intro h2
                ((with_reducible (refine mif_true ?_; refine mm_ld hM ?_; refine mop_c trivial ?_; refine mm_ld hM ?_)))
                refine mm_call hM (rdrop_ok room A1 c1 xs acts[i].item.depth hbx hs1 hM.fz) ?_
                rintro H2 v w4 hl2 hM ⟨A2, c2, n2, y, rfl, rfl, hs3, rfl⟩
                ((with_reducible (refine mop_c trivial ?_; refine mop_c trivial ?_; refine mm_new hM ?_; clear hM; intro _ _ hM; refine mm_st hM ?_; clear hM; intro _ hM; refine mop_c trivial ?_; refine mm_ld hM ?_)))
                refine mm_own (drop_ok g room xs acts[i].item.depth hbx (hM.at_ (holdR g room xs))) ?_
                rintro v w6 ⟨rfl, H3, hl3, hM⟩
                have lf2 : (xs.filter fun y => !decide (y.depth < acts[i].item.depth)).length ≤ xs.length := List.length_filter_le _ _
                ((with_reducible (refine mop_cT trivial ?_ ?_)); (focus (first | assumption | omega)); (with_reducible (refine mm_ld hM ?_; refine mm_st hM ?_; clear hM; intro _ hM)))
                exact ⟨rfl, _, H3, A2, c2, by omega, hl.trans (hl2.trans hl3), hs3.mono hl3.le, hM.sub⟩
              · intro h2
                ((with_reducible (refine mif_false ?_; refine mop_cT trivial ?_ ?_)); (focus (first | assumption | omega)); (with_reducible (refine mif_true ?_; refine dp_c trivial ?_; refine dm_ld hM ?_)))
                have hM0 := hM
                refine dm_pure hM (fun w hM => hasR_ok g room xs acts[i].item.id hbx (hM.at_ (holdR g room xs))) (fun w4 _ hM => ?_)
                refine dm_ld hM0 ?_
                ((with_reducible (refine dp_c trivial ?_)))
                refine dm_ld hM0 ?_
                refine dm_pure hM (fun w hM => rhas_ok room A1 c1 xs acts[i].item.id hbx hs1 hM.fz) (fun w5 _ hM => ?_)
                refine dp_cT trivial rfl ?_
                ((with_reducible (refine mm_end hM ?_; clear hM; intro _ hM)))
                exact ⟨rfl, _, H1, A1, c1, by omega, hl, hs1, hM.sub⟩
        · rintro x u w4 ⟨rfl, xs, H2, A2, c2, hxs, hl, hs1, hM⟩
          skip
          refine ⟨fun x w' => x = .bool false ∧ ∃ H' : Hp, Le w H2 H' ∧ Mem H' w [fb g7 77 [.one (.int .i64 room), .one (.slice A2 xs.length c2)], holdR g room xs] w', ?_, ?_⟩
          · ((with_reducible (refine dp_c trivial ?_; refine qguard_yes ?_; refine dp_c trivial ?_; refine mguard_yes ?_)))
            have hM0 := hM
            refine dm_eq hM (fun w hM => len_ok g room xs (hM.at_ (holdR g room xs))) (fun w5 _ hM => ?_)
            ((with_reducible (refine qguard_yes ?_; refine dp_c trivial ?_; refine qguard_yes ?_)))
            refine dm_ld hM0 ?_
            ((with_reducible (refine qguard_yes ?_; refine dp_c trivial ?_; refine qguard_yes ?_; refine dp_cF trivial ?_ ?_)); (focus (first | assumption | omega)); (with_reducible (refine dp_c trivial ?_; refine qguard_yes ?_; refine dp_c trivial ?_; refine mguard_yes ?_)))
            have hM1 := hM
            refine dm_ownE hM (fun w hM => all_ok g room xs (by omega) (hM.at_ (holdR g room xs))) ?_
            rintro v w6 _ ⟨H3, A3, c3, n3, rfl, rfl, hl3, hs3, hM⟩
            ((with_reducible (refine mguard_yes ?_)))
            refine dm_call hM (fun w hM => plain_ok A3 c3 _ _ rfl (by omega) hs3 hM.fz) ?_
            rintro H4 v w7 _ hl4 hM ⟨A5, c5, n5, rfl, rfl, hs6⟩
            ((with_reducible (refine qguard_yes ?_; refine dp_c trivial ?_; refine qguard_yes ?_)))
            refine dm_ld hM1 ?_
            ((with_reducible (refine mguard_yes ?_)))
            refine dm_pure hM (fun w hM => rsame_ok A5 A2 c5 c2 _ _ (by omega) hs6 (hs1.mono (hl3.trans hl4).le) hM.fz) (fun w8 _ hM => ?_)
            rw [decide_eq_true rfl]
            ((with_reducible (refine qguard_yes ?_; refine dp_c trivial ?_; refine dp_c trivial ?_; refine mm_end hM ?_; clear hM; intro _ hM)))
            exact ⟨rfl, H4, hl3.trans hl4, hM.sub⟩
          · rintro x u w4 ⟨rfl, H3, hl3, hM⟩
            ((with_reducible (refine mif_false ?_; refine mop_c ?_ ?_)); (focus omega))
            exact ⟨⟨i + 1, xs, H3, A2, c2, by simp, by omega, hxs, hl.trans hl3, hs1.mono hl3.le, hM⟩, by simp; omega⟩
      · intro hge
        ((with_reducible (refine mif_false ?_)))
        exact ⟨rfl, hM.st⟩
    · refine mm_pure hM (newno_ok room hr hM.fz) (fun w1 hM => ?_)
      ((with_reducible (refine mop_c trivial ?_; refine mop_c trivial ?_)))
      refine ⟨fun x w' => x = .bool true ∧ hM.now w', ?_, ?_⟩
      · ((with_reducible (refine mop_cS trivial ?_ ?_))) <;>
        · intro h
          (first | ((with_reducible (refine mguard_yes ?_; refine mop_c trivial ?_; refine mguard_yes ?_; refine mop_cT trivial ?_ ?_)); (focus (first | assumption | omega)); (with_reducible (refine mop_c trivial ?_))) | ((with_reducible (refine mguard_n1 ?_; refine mguard_n1 ?_; refine mop_c trivial ?_))))
          exact ⟨rfl, hM⟩
      rintro x u w2 ⟨rfl, hM⟩
      ((with_reducible (refine mif_true ?_; refine mop_cT trivial ?_ ?_)); (focus (first | assumption | omega)); (with_reducible (refine mguard_yes ?_; refine mop_c trivial ?_; refine mguard_yes ?_; refine mop_c trivial ?_; refine mop_c trivial ?_)))
      exact ⟨rfl, hM.st⟩
end
end Go.Proofs.Ythnjpglpglbbkaa
