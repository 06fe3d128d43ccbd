/- The laws on trees: what is right, what is put in, taken out, given another key. -/
import Derived.Test.YtmjpbomonhjebaaTr11
namespace Go.Proofs.Ytmjpbomonhjebaa
open Go.RowKit Go.Lib

abbrev leafN (x : Int) : Lf := ⟨x, hzero, hzero, hzero⟩
def aw1 : Tr := ((Tr.none).addP (leafN 5)).1
def aw2 : Tr := (aw1.addP (leafN 2)).1
def aw3 : Tr := (aw2.addP (leafN 9)).1
def aw4 : Tr := (aw3.remP 1).1
def aw5 : Tr := (aw4.addP (leafN 7)).1
def aw6 : Tr := (aw5.remP 2).1
def aw : Nat → Tr
  | 0 => Tr.none
  | 1 => aw1
  | 2 => aw2
  | 3 => aw3
  | 4 => aw4
  | 5 => aw5
  | _ => aw6
def awN : Nat → Int
  | 0 => 5
  | 1 => 2
  | _ => 9
theorem aw_facts : (((aw 0).addP (leafN 5)).2 = (0, 0) ∧ ((aw 1).addP (leafN 2)).2 = (1, 0) ∧ ((aw 2).addP (leafN 9)).2 = (2, 0)) ∧ ((aw 3).remP 1).2 = 0 ∧ (((aw 4).addP (leafN 7)).2.1 = 1 ∧ ((aw 4).addP (leafN 7)).2.2 = 0) ∧ ((aw 5).remP 2).2 = 0 ∧ (aw 6).ls.length = 2 ∧ (aw 6).right = true := by decide +kernel
theorem aw_step {i : Nat} (h : i < 3) : (aw i).addP (leafN (awN i)) = (aw (i + 1), (i : Int), 0) := by
  obtain ⟨⟨h0, h1, h2⟩, -⟩ := aw_facts
  have hcase : i = 0 ∨ i = 1 ∨ i = 2 := by omega
  rcases hcase with rfl | rfl | rfl
  · exact Prod.ext rfl h0
  · exact Prod.ext rfl h1
  · exact Prod.ext rfl h2
section
variable {H : Hp} {w0 w : World} {L R : List Res} {v : Value} {t : Tr}
theorem few_c (h : TrF H v t) (hf : Fz H w) : Calls Try.prog 31 #[v] w fun en w' => en = .returned (.bool (decide t.few)) ∧ St w [] w' := by
  obtain ⟨A, a, B, b, q, rfl, h1, h2, h3⟩ := h.ex
  exact few_ok h1 h2 h3 h.len.1 h.len.2 hf
theorem right_c (h : TrF H v t) (hf : Fz H w) : Calls Try.prog 33 #[v] w fun en w' => en = .returned (.bool t.right) ∧ St w [] w' := by
  obtain ⟨A, a, B, b, q, rfl, h1, h2, h3⟩ := h.ex
  exact right_ok h1 h2 h3 h.len.1 h.len.2 hf
theorem tright_c (h : TrF H v t) (hf : Fz H w) : Calls Try.prog 34 #[v] w fun en w' => en = .returned (.bool t.right) ∧ St w [] w' := by
  obtain ⟨A, a, B, b, q, rfl, h1, h2, h3⟩ := h.ex
  exact tright_ok h1 h2 h3 h.len.1 h.len.2 hf
theorem add_c (l : Lf) (h : TrF H v t) (hf : Fz H w) : Calls Try.prog 35 #[v, lv l] w (Outp H w fun H' r => ∃ v1, r = .tuple #[v1, .int .i64 (t.addP l).2.1, .int .i64 (t.addP l).2.2] ∧ TrF H' v1 (t.addP l).1) := by
  obtain ⟨A, a, B, b, q, rfl, h1, h2, h3⟩ := h.ex
  exact add_q l (fun H' v1 r e k => by rw [e]; exact ⟨v1, rfl, k⟩) h1 h2 h3 h.len.1 h.len.2 hf
theorem remove_c (p : Int) (h : TrF H v t) (hf : Fz H w) : Calls Try.prog 38 #[v, .int .i64 p] w (Outp H w fun H' r => ∃ v1, r = .tuple #[v1, .int .i64 (t.remP p).2] ∧ TrF H' v1 (t.remP p).1) := by
  obtain ⟨A, a, B, b, q, rfl, h1, h2, h3⟩ := h.ex
  exact remove_q p (fun H' v1 r e k => by rw [e]; exact ⟨v1, rfl, k⟩) h1 h2 h3 h.len.1 h.len.2 hf
theorem renew_c (p : Int) (pub : H32) (h : TrF H v t) (hf : Fz H w) : Calls Try.prog 40 #[v, .int .i64 p, ha pub] w (Outp H w fun H' r => ∃ v1, r = .tuple #[v1, .int .i64 (t.renP p pub).2] ∧ TrF H' v1 (t.renP p pub).1) := by
  obtain ⟨A, a, B, b, q, rfl, h1, h2, h3⟩ := h.ex
  exact renew_q p pub (fun H' v1 r e k => by rw [e]; exact ⟨v1, rfl, k⟩) h1 h2 h3 h.len.1 h.len.2 hf
theorem radd_c (l : Lf) (hR : t.Rt) (h : TrF H v t) (hf : Fz H w) : Calls Try.prog 36 #[v, lv l] w (Outp H w fun H' r => ∃ v1, r = .tuple #[v1, .int .i64 (t.addR l).2.1, .int .i64 (t.addR l).2.2] ∧ TrF H' v1 (t.addR l).1) := by
  obtain ⟨A, a, B, b, q, rfl, h1, h2, h3⟩ := h.ex
  exact radd_q l (fun H' v1 r e k => by rw [e]; exact ⟨v1, rfl, k⟩) hR h1 h2 h3 hf
theorem rremove_c (p : Int) (hR : t.Rt) (h : TrF H v t) (hf : Fz H w) : Calls Try.prog 39 #[v, .int .i64 p] w (Outp H w fun H' r => ∃ v1, r = .tuple #[v1, .int .i64 (t.remR p).2] ∧ TrF H' v1 (t.remR p).1) := by
  obtain ⟨A, a, B, b, q, rfl, h1, h2, h3⟩ := h.ex
  exact rremove_q p (fun H' v1 r e k => by rw [e]; exact ⟨v1, rfl, k⟩) hR h1 h2 h3 hf
theorem rrenew_c (p : Int) (pub : H32) (hR : t.Rt) (h : TrF H v t) (hf : Fz H w) : Calls Try.prog 41 #[v, .int .i64 p, ha pub] w (Outp H w fun H' r => ∃ v1, r = .tuple #[v1, .int .i64 (t.renR p pub).2] ∧ TrF H' v1 (t.renR p pub).1) := by
  obtain ⟨A, a, B, b, q, rfl, h1, h2, h3⟩ := h.ex
  exact rrenew_q p pub (fun H' v1 r e k => by rw [e]; exact ⟨v1, rfl, k⟩) hR h1 h2 h3 hf
theorem tawake_ok (w : World) : Calls Try.prog 32 #[] w fun en w' => en = .returned (.bool true) ∧ St w [] w' := by
  have hM := Mem.start (Fz.of w)
  obtain ⟨H, hH⟩ : ∃ H, H = Hp.of w := ⟨_, rfl⟩
  rw [← hH] at hM
  refine C_bevylaw08_awake ?_
  unfold F_bevylaw08_awake
  ((with_reducible (refine mm_new hM ?_; clear hM; intro _ _ hM; refine mop_c trivial ?_)))
  rename_i g1 _
  refine ⟨fun v w' => ∃ (i : Nat) (H1 : Hp) (A : Option Addr) (a : Nat) (B : Option Addr) (b : Nat), v = .int .i64 i ∧ i ≤ 3 ∧ TrF H1 (tv A (aw i).ls.length a B (aw i).ps.length b) (aw i) ∧ Mem H1 w [fb g1 49 (tfd A (aw i).ls.length a B (aw i).ps.length b)] w', fun v _ => match v with | .int _ k => 3 - k.toNat | _ => 0, ⟨0, H, none, 0, none, 0, rfl, by omega, trF_none _, hM⟩, ?_⟩
  clear hM
  rintro v u w3 ⟨i, H1, A, a, B, b, rfl, hi, hT, hM⟩
  ((with_reducible (refine mop_cS trivial ?_ ?_)))
  · intro hlt
    have hlt' : i < 3 := by omega
    ((with_reducible (refine mif_true ?_)))
    have hix : Pur Try.prog (o_index 105 (.agg (fl [Fd.one (.int .i64 5), .one (.int .i64 2), .one (.int .i64 9)]).toArray) (.int .i64 i)) (.int .i64 (awN i)) := by
      have hcase : i = 0 ∨ i = 1 ∨ i = 2 := by omega
      rcases hcase with rfl | rfl | rfl <;> exact p_index_array _ 3 3 _ _ _ _ Try.underlying105 (by kernel_rfl) (by omega) (by omega) rfl
    refine mop_pur hix ?_
    ((with_reducible (refine mm_ld hM ?_; refine mop_c trivial ?_)))
    refine mm_call hM (add_c (leafN (awN i)) hT hM.fz) ?_
    rintro H2 v w4 l2 hM ⟨v1, rfl, hT2⟩
    obtain ⟨e1, e2, e3⟩ : ((aw i).addP (leafN (awN i))).1 = aw (i + 1) ∧ ((aw i).addP (leafN (awN i))).2.1 = i ∧ ((aw i).addP (leafN (awN i))).2.2 = 0 := by
      rw [aw_step hlt']
      exact ⟨rfl, rfl, rfl⟩
    rw [e1] at hT2
    rw [e2, e3]
    obtain ⟨A2, a2, B2, b2, q2, rfl, -⟩ := hT2.ex
    ((with_reducible ((iterate 3 refine mop_c trivial ?_); refine mm_st hM ?_; clear hM; intro _ hM)))
    refine ⟨fun v w' => v = .bool false ∧ hM.now w', ?_, ?_⟩
    · ((with_reducible (refine mop_cF trivial ?_ ?_)); (focus (first | assumption | omega | with_reducible rfl | exact fun h => Bool.noConfusion h)); (with_reducible (refine mguard_yes ?_; refine mop_c trivial ?_; refine mguard_yes ?_; refine mop_c trivial ?_; refine mguard_yes ?_; refine mop_cF trivial ?_ ?_)); (focus (first | assumption | omega | with_reducible rfl | exact fun h => Bool.noConfusion h)); (with_reducible (refine mop_c trivial ?_)))
      exact ⟨rfl, hM⟩
    rintro v u5 w5 ⟨rfl, hM⟩
    ((with_reducible (refine mif_false ?_; refine mop_c ?_ ?_)); (focus omega))
    exact ⟨⟨i + 1, H2, A2, a2, B2, b2, rfl, by omega, hT2, hM⟩, by simp only; omega⟩
  · intro hge
    obtain rfl : i = 3 := by omega
    obtain ⟨-, f4, ⟨f5, f5b⟩, f6, f7, f8⟩ := aw_facts
    ((with_reducible (refine mif_false ?_; refine mm_ld hM ?_)))
    refine mm_call hM (remove_c 1 hT hM.fz) ?_
    rintro H2 v w4 l2 hM ⟨v1, rfl, hT2⟩
    rw [f4]
    rw [show ((aw 3).remP 1).1 = aw 4 from rfl] at hT2
    obtain ⟨A2, a2, B2, b2, q2, rfl, -⟩ := hT2.ex
    ((with_reducible (refine mop_c trivial ?_; refine mop_c trivial ?_; refine mm_st hM ?_; clear hM; intro _ hM; refine mm_ld hM ?_; refine mop_c trivial ?_)))
    refine mm_call hM (add_c (leafN 7) hT2 hM.fz) ?_
    rintro H3 v w5 l3 hM ⟨v1, rfl, hT3⟩
    rw [f5, f5b]
    rw [show ((aw 4).addP (leafN 7)).1 = aw 5 from rfl] at hT3
    obtain ⟨A3, a3, B3, b3, q3, rfl, -⟩ := hT3.ex
    ((with_reducible ((iterate 3 refine mop_c trivial ?_); refine mm_new hM ?_; clear hM; intro _ _ hM; refine mm_st hM ?_; clear hM; intro _ hM; refine mm_ld hM ?_)))
    refine mm_call hM (remove_c 2 hT3 hM.fz) ?_
    rintro H4 v w6 l4 hM ⟨v1, rfl, hT4⟩
    rw [f6]
    rw [show ((aw 5).remP 2).1 = aw 6 from rfl] at hT4
    obtain ⟨A4, a4, B4, b4, q4, rfl, -⟩ := hT4.ex
    ((with_reducible (refine mop_c trivial ?_; refine mop_c trivial ?_; refine mm_new hM ?_; clear hM; intro _ _ hM; refine mm_st hM ?_; clear hM; intro _ hM; refine mop_cT trivial ?_ ?_)); (focus (first | assumption | omega | with_reducible rfl | exact fun h => Bool.noConfusion h)); (with_reducible (refine mguard_yes ?_; refine mop_c trivial ?_; refine mguard_yes ?_; refine mop_cT trivial ?_ ?_)); (focus (first | assumption | omega | with_reducible rfl | exact fun h => Bool.noConfusion h)); (with_reducible (refine mop_c trivial ?_; refine mguard_yes ?_; refine mop_c trivial ?_; refine mguard_yes ?_; refine mop_cT trivial ?_ ?_)); (focus (first | assumption | omega | with_reducible rfl | exact fun h => Bool.noConfusion h)); (with_reducible (refine mop_c trivial ?_; refine mguard_yes ?_; refine mop_c trivial ?_; refine mguard_yes ?_; refine mop_cT trivial ?_ ?_)); (focus (first | assumption | omega | with_reducible rfl | exact fun h => Bool.noConfusion h)); (with_reducible (refine mop_c trivial ?_; refine mguard_yes ?_; refine mop_c trivial ?_; refine mguard_yes ?_; refine mm_ld hM ?_; refine mguard_yes ?_; refine mop_c trivial ?_; refine mguard_yes ?_; refine mop_cT trivial ?_ ?_)); (focus (first | assumption | omega | with_reducible rfl | exact fun h => Bool.noConfusion h)); (with_reducible (refine mop_c trivial ?_; refine mguard_yes ?_; refine mm_ld hM ?_; refine mguard_yes ?_)))
    refine mm_pure hM (right_c hT4 hM.fz) (fun w hM => ?_)
    rw [f8]
    ((with_reducible (refine mop_c trivial ?_)))
    exact ⟨rfl, hM.st⟩
instance : PurC Try.prog 32 [] True (.bool true) := ⟨fun _ w => tawake_ok w⟩
theorem treeRights_ok (h : TrF H v t) (hf : Fz H w) : Calls Try.prog 8 #[v] w fun en w' => en = .returned (.bool true) ∧ St w [] w' := by
  obtain ⟨A, a, B, b, q, rfl, -⟩ := h.ex
  have hM := Mem.start hf
  refine C_bevylaw08_TreeRights ?_
  unfold F_bevylaw08_TreeRights
  ((with_reducible (refine mm_box hM ?_; clear hM; intro _ _ hM; refine dm_ld hM ?_)))
  refine dm_pure hM (fun w hM => few_c h hM.fz) (fun w' hx hM => ?_)
  ((with_reducible (refine dp_c trivial ?_)))
  by_cases hc : t.few
  · rw [decide_eq_true hc, show (!true) = false from rfl]
    ((with_reducible (refine mguard_yes ?_; refine dm_purC hM ?_ (fun _ _ hM => ?_))); (focus (first | exact trivial | assumption | omega)); (with_reducible (refine qguard_yes ?_; refine dp_c trivial ?_; refine qguard_yes ?_; refine dm_ld hM ?_; refine mguard_yes ?_)))
    refine dm_pure hM (fun w hM => right_c h hM.fz) (fun w' hx hM => ?_)
    ((with_reducible (refine qguard_yes ?_)); (with_reducible refine dm_ld ‹Mem _ _ _ _› ?_); (with_reducible (refine mguard_yes ?_)))
    refine dm_pure hM (fun w hM => tright_c h hM.fz) (fun w' hx hM => ?_)
    ((with_reducible (refine qguard_yes ?_; refine dp_cT trivial ?_ ?_)); (focus (first | assumption | omega | with_reducible rfl | exact fun h => Bool.noConfusion h)); (with_reducible (refine qguard_yes ?_; refine dp_c trivial ?_; refine dp_c trivial ?_; refine mm_end hM ?_; clear hM; intro _ hM)))
    exact ⟨rfl, hM.st⟩
  · rw [decide_eq_false hc, show (!false) = true from rfl]
    ((with_reducible (refine mguard_n1 ?_; refine qguard_n1 ?_; refine qguard_un ?_; refine mguard_un ?_; refine qguard_un ?_; refine mguard_un ?_; refine qguard_un ?_; refine qguard_n1 ?_; refine dp_c trivial ?_; refine mm_end hM ?_; clear hM; intro _ hM)))
    exact ⟨rfl, hM.st⟩
theorem treeAdds_ok (l : Lf) (h : TrF H v t) (hf : Fz H w) : Calls Try.prog 9 #[v, lv l] w fun en w' => en = .returned (.bool true) ∧ St w [] w' := by
  obtain ⟨A, a, B, b, q, rfl, -⟩ := h.ex
  have hM := Mem.start hf
  refine C_bevylaw08_TreeAdds ?_
  unfold F_bevylaw08_TreeAdds
  ((with_reducible (refine mm_box hM ?_; clear hM; intro _ _ hM; refine mm_box hM ?_; clear hM; intro _ _ hM)))
  refine ⟨fun v w' => v = .bool (decide (¬ t.few ∨ ¬ t.right = true)) ∧ hM.now w', ?_, ?_⟩
  · ((with_reducible (refine mm_ld hM ?_)))
    refine mm_pure hM (few_c h hM.fz) (fun w hM => ?_)
    by_cases hc : t.few
    · rw [decide_eq_true hc]
      ((with_reducible (refine mop_c trivial ?_; refine mguard_yes ?_; refine mm_ld hM ?_; refine mguard_yes ?_)))
      refine mm_pure hM (tright_c h hM.fz) (fun w hM => ?_)
      cases hr : t.right
      · ((with_reducible (refine mguard_yes ?_; refine mop_c trivial ?_; refine mop_c trivial ?_)))
        exact ⟨by simp, hM⟩
      · ((with_reducible (refine mguard_yes ?_; refine mop_c trivial ?_; refine mop_c trivial ?_)))
        exact ⟨by simp [hc], hM⟩
    · rw [decide_eq_false hc]
      ((with_reducible (refine mop_c trivial ?_; (iterate 3 refine mguard_n1 ?_); refine mop_c trivial ?_)))
      exact ⟨by simp [hc], hM⟩
  rintro v u w2 ⟨rfl, hM⟩
  by_cases hc : ¬ t.few ∨ ¬ t.right = true
  · rw [decide_eq_true hc]
    ((with_reducible (refine mif_true ?_; refine mm_purC hM ?_ ?_)); (focus (first | exact trivial | assumption | omega)); (with_reducible (clear hM; intro _ hM)))
    exact ⟨rfl, hM.st⟩
  rw [decide_eq_false hc]
  have hr : t.right = true := Decidable.byContradiction fun h => hc (.inr h)
  have hR := Tr.rt.1 hr
  ((with_reducible (refine mif_false ?_; refine mm_ld hM ?_; refine mm_ld hM ?_)))
  refine mm_call hM (add_c l h hM.fz) ?_
  rintro H2 v w4 l2 hM ⟨v1, rfl, hT2⟩
  rw [add_same hR l] at hT2
  rw [add_same hR l]
  obtain ⟨A2, a2, B2, b2, q2, rfl, -⟩ := hT2.ex
  ((with_reducible ((iterate 3 refine mop_c trivial ?_); refine mm_new hM ?_; clear hM; intro _ _ hM; refine mm_st hM ?_; clear hM; intro _ hM; refine mm_ld hM ?_; refine mm_ld hM ?_)))
  refine mm_call hM (radd_c l hR (h.mono l2.le) hM.fz) ?_
  rintro H3 v w5 l3 hM ⟨v1, rfl, hT3⟩
  obtain ⟨A3, a3, B3, b3, q3, rfl, -⟩ := hT3.ex
  ((with_reducible ((iterate 3 refine mop_c trivial ?_); refine mm_new hM ?_; clear hM; intro _ _ hM; refine mm_st hM ?_; clear hM; intro _ hM; refine mm_purC hM ?_ ?_)); (focus (first | exact trivial | assumption | omega)); (with_reducible (clear hM; intro _ hM; refine mguard_yes ?_; refine mop_c trivial ?_; refine mguard_yes ?_; refine mop_c trivial ?_; refine mguard_yes ?_; refine mop_cT trivial ?_ ?_)); (focus (first | assumption | omega | with_reducible rfl | exact fun h => Bool.noConfusion h)); (with_reducible (refine mop_c trivial ?_; refine mguard_yes ?_; refine mop_c trivial ?_; refine mguard_yes ?_; refine mop_c trivial ?_; refine mguard_yes ?_; refine mop_cT trivial ?_ ?_)); (focus (first | assumption | omega | with_reducible rfl | exact fun h => Bool.noConfusion h)); (with_reducible (refine mop_c trivial ?_; refine mguard_yes ?_; refine mm_ld hM ?_; refine mguard_yes ?_; refine mm_ld hM ?_; refine mguard_yes ?_)))
  refine mm_pure hM (tsame_ok (hT2.mono l3.le) hT3 hM.fz) (fun w hM => ?_)
  rw [decide_eq_true rfl]
  ((with_reducible (refine mop_c trivial ?_)))
  exact ⟨rfl, hM.st⟩
theorem treeRemoves_ok (p : Int) (h : TrF H v t) (hf : Fz H w) : Calls Try.prog 10 #[v, .int .i64 p] w fun en w' => en = .returned (.bool true) ∧ St w [] w' := by
  obtain ⟨A, a, B, b, q, rfl, -⟩ := h.ex
  have hM := Mem.start hf
  refine C_bevylaw08_TreeRemoves ?_
  unfold F_bevylaw08_TreeRemoves
  ((with_reducible (refine mm_box hM ?_; clear hM; intro _ _ hM)))
  refine ⟨fun v w' => v = .bool (decide (¬ t.few ∨ ¬ t.right = true)) ∧ hM.now w', ?_, ?_⟩
  · ((with_reducible (refine mm_ld hM ?_)))
    refine mm_pure hM (few_c h hM.fz) (fun w hM => ?_)
    by_cases hc : t.few
    · rw [decide_eq_true hc]
      ((with_reducible (refine mop_c trivial ?_; refine mguard_yes ?_; refine mm_ld hM ?_; refine mguard_yes ?_)))
      refine mm_pure hM (tright_c h hM.fz) (fun w hM => ?_)
      cases hr : t.right
      · ((with_reducible (refine mguard_yes ?_; refine mop_c trivial ?_; refine mop_c trivial ?_)))
        exact ⟨by simp, hM⟩
      · ((with_reducible (refine mguard_yes ?_; refine mop_c trivial ?_; refine mop_c trivial ?_)))
        exact ⟨by simp [hc], hM⟩
    · rw [decide_eq_false hc]
      ((with_reducible (refine mop_c trivial ?_; (iterate 3 refine mguard_n1 ?_); refine mop_c trivial ?_)))
      exact ⟨by simp [hc], hM⟩
  rintro v u w2 ⟨rfl, hM⟩
  by_cases hc : ¬ t.few ∨ ¬ t.right = true
  · rw [decide_eq_true hc]
    ((with_reducible (refine mif_true ?_; refine mm_purC hM ?_ ?_)); (focus (first | exact trivial | assumption | omega)); (with_reducible (clear hM; intro _ hM)))
    exact ⟨rfl, hM.st⟩
  rw [decide_eq_false hc]
  have hr : t.right = true := Decidable.byContradiction fun h => hc (.inr h)
  have hR := Tr.rt.1 hr
  ((with_reducible (refine mif_false ?_; refine mm_ld hM ?_)))
  refine mm_call hM (remove_c p h hM.fz) ?_
  rintro H2 v w4 l2 hM ⟨v1, rfl, hT2⟩
  rw [rem_same hR p] at hT2
  rw [rem_same hR p]
  obtain ⟨A2, a2, B2, b2, q2, rfl, -⟩ := hT2.ex
  ((with_reducible (refine mop_c trivial ?_; refine mop_c trivial ?_; refine mm_new hM ?_; clear hM; intro _ _ hM; refine mm_st hM ?_; clear hM; intro _ hM; refine mm_ld hM ?_)))
  refine mm_call hM (rremove_c p hR (h.mono l2.le) hM.fz) ?_
  rintro H3 v w5 l3 hM ⟨v1, rfl, hT3⟩
  obtain ⟨A3, a3, B3, b3, q3, rfl, -⟩ := hT3.ex
  ((with_reducible (refine mop_c trivial ?_; refine mop_c trivial ?_; refine mm_new hM ?_; clear hM; intro _ _ hM; refine mm_st hM ?_; clear hM; intro _ hM; refine mm_purC hM ?_ ?_)); (focus (first | exact trivial | assumption | omega)); (with_reducible (clear hM; intro _ hM; refine mguard_yes ?_; refine mop_c trivial ?_; refine mguard_yes ?_; refine mop_c trivial ?_; refine mguard_yes ?_; refine mop_cT trivial ?_ ?_)); (focus (first | assumption | omega | with_reducible rfl | exact fun h => Bool.noConfusion h)); (with_reducible (refine mop_c trivial ?_; refine mguard_yes ?_; refine mm_ld hM ?_; refine mguard_yes ?_; refine mm_ld hM ?_; refine mguard_yes ?_)))
  refine mm_pure hM (tsame_ok (hT2.mono l3.le) hT3 hM.fz) (fun w hM => ?_)
  rw [decide_eq_true rfl]
  ((with_reducible (refine mop_c trivial ?_)))
  exact ⟨rfl, hM.st⟩
theorem treeRenews_ok (p : Int) (pub : H32) (h : TrF H v t) (hf : Fz H w) : Calls Try.prog 11 #[v, .int .i64 p, ha pub] w fun en w' => en = .returned (.bool true) ∧ St w [] w' := by
  obtain ⟨A, a, B, b, q, rfl, -⟩ := h.ex
  have hM := Mem.start hf
  refine C_bevylaw08_TreeRenews ?_
  unfold F_bevylaw08_TreeRenews
  ((with_reducible (refine mm_box hM ?_; clear hM; intro _ _ hM; refine mm_box hM ?_; clear hM; intro _ _ hM)))
  refine ⟨fun v w' => v = .bool (decide (¬ t.few ∨ ¬ t.right = true)) ∧ hM.now w', ?_, ?_⟩
  · ((with_reducible (refine mm_ld hM ?_)))
    refine mm_pure hM (few_c h hM.fz) (fun w hM => ?_)
    by_cases hc : t.few
    · rw [decide_eq_true hc]
      ((with_reducible (refine mop_c trivial ?_; refine mguard_yes ?_; refine mm_ld hM ?_; refine mguard_yes ?_)))
      refine mm_pure hM (tright_c h hM.fz) (fun w hM => ?_)
      cases hr : t.right
      · ((with_reducible (refine mguard_yes ?_; refine mop_c trivial ?_; refine mop_c trivial ?_)))
        exact ⟨by simp, hM⟩
      · ((with_reducible (refine mguard_yes ?_; refine mop_c trivial ?_; refine mop_c trivial ?_)))
        exact ⟨by simp [hc], hM⟩
    · rw [decide_eq_false hc]
      ((with_reducible (refine mop_c trivial ?_; (iterate 3 refine mguard_n1 ?_); refine mop_c trivial ?_)))
      exact ⟨by simp [hc], hM⟩
  rintro v u w2 ⟨rfl, hM⟩
  by_cases hc : ¬ t.few ∨ ¬ t.right = true
  · rw [decide_eq_true hc]
    ((with_reducible (refine mif_true ?_; refine mm_purC hM ?_ ?_)); (focus (first | exact trivial | assumption | omega)); (with_reducible (clear hM; intro _ hM)))
    exact ⟨rfl, hM.st⟩
  rw [decide_eq_false hc]
  have hr : t.right = true := Decidable.byContradiction fun h => hc (.inr h)
  have hR := Tr.rt.1 hr
  ((with_reducible (refine mif_false ?_; refine mm_ld hM ?_; refine mm_ld hM ?_)))
  refine mm_call hM (renew_c p pub h hM.fz) ?_
  rintro H2 v w4 l2 hM ⟨v1, rfl, hT2⟩
  rw [ren_same hR p pub] at hT2
  rw [ren_same hR p pub]
  obtain ⟨A2, a2, B2, b2, q2, rfl, -⟩ := hT2.ex
  ((with_reducible (refine mop_c trivial ?_; refine mop_c trivial ?_; refine mm_new hM ?_; clear hM; intro _ _ hM; refine mm_st hM ?_; clear hM; intro _ hM; refine mm_ld hM ?_; refine mm_ld hM ?_)))
  refine mm_call hM (rrenew_c p pub hR (h.mono l2.le) hM.fz) ?_
  rintro H3 v w5 l3 hM ⟨v1, rfl, hT3⟩
  obtain ⟨A3, a3, B3, b3, q3, rfl, -⟩ := hT3.ex
  ((with_reducible (refine mop_c trivial ?_; refine mop_c trivial ?_; refine mm_new hM ?_; clear hM; intro _ _ hM; refine mm_st hM ?_; clear hM; intro _ hM; refine mm_purC hM ?_ ?_)); (focus (first | exact trivial | assumption | omega)); (with_reducible (clear hM; intro _ hM; refine mguard_yes ?_; refine mop_c trivial ?_; refine mguard_yes ?_; refine mop_c trivial ?_; refine mguard_yes ?_; refine mop_cT trivial ?_ ?_)); (focus (first | assumption | omega | with_reducible rfl | exact fun h => Bool.noConfusion h)); (with_reducible (refine mop_c trivial ?_; refine mguard_yes ?_; refine mm_ld hM ?_; refine mguard_yes ?_; refine mm_ld hM ?_; refine mguard_yes ?_)))
  refine mm_pure hM (tsame_ok (hT2.mono l3.le) hT3 hM.fz) (fun w hM => ?_)
  rw [decide_eq_true rfl]
  ((with_reducible (refine mop_c trivial ?_)))
  exact ⟨rfl, hM.st⟩
end
end Go.Proofs.Ytmjpbomonhjebaa
