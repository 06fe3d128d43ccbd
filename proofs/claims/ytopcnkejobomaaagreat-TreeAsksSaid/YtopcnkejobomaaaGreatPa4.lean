/- TreeAsks holds for every input. (The end of the proof.) -/
import Derived.Test.YtopcnkejobomaaaGreatPa3
import Derived.Shelf.Sort.Plain
import Derived.Shelf.Slices.In.SortNone
import Derived.Test.YtopcnkejobomaaaGreatProg
import Derived.Test.YtopcnkejobomaaaGreatRows
import Derived.Carry
set_option linter.unusedVariables false
namespace Go.Proofs.YtopcnkejobomaaaGreat
open Go.RowKit Go.Lib
theorem Mem.join {H H' : Hp} {w0 w w' : World} {L L' : List Res} (h : Mem H w0 L w) (hc : Mem H' w L' w') (hn : ∀ b, b < w.heap.size → H b = none → H' b = none) : Mem H' w0 (L' ++ L) w' := by
  obtain ⟨B, hl, hs, hb⟩ := h.own
  obtain ⟨B1, hl1, hs1, hb1⟩ := hc.own
  refine ⟨⟨B1 ++ B, Hl.app.2 ⟨B1, B, rfl, hl1, hl⟩, ?_, fun b hm => ?_⟩, hc.fz⟩
  · exact St.call (A := []) (B' := B1) hs hs1 rfl rfl rfl (fun b hm => .inl (hb1 b hm).1) (fun b hm hn => .inr ⟨b, hm, hn, rfl⟩) (fun _ hm => by cases hm)
  · rcases List.mem_append.1 hm with hm | hm
    · exact hb1 b hm
    · exact ⟨(hb b hm).1, hn _ (hs.own b hm).lt (hb b hm).2⟩
section
variable {H : Hp} {w0 w : World} {L R : List Res} {A B C : Option Addr} {a b c n : Nat} {t : Tr} {qs ps : List (List Fd)}
theorem rplace_ok (x : Int) (h1 : Sl H 97 A (t.ls.map Lf.fds)) (hl : t.ls.length ≤ maxLen) (hf : Fz H w) :
    Calls Tryz.prog 16 #[tv A t.ls.length a B n b, .int .i64 x] w fun en w' => en = .returned (.int .i64 (t.place x)) ∧ St w [] w' := by
  have hM := Mem.start hf
  have hl' : t.ls.length ≤ 9223372036854775807 := hl
  refine C_bevyref08_Place ?_
  unfold F_bevyref08_Place
  ((with_reducible (refine mm_box hM ?_; clear hM; intro _ _ hM)))
  refine ⟨fun v w' => ∃ i : Nat, v = .int .i64 i ∧ i ≤ t.ls.length ∧ (∀ j (hj : j < t.ls.length), j < i → decide (t.ls[j].name = x) = false) ∧ hM.now w', fun v _ => match v with | .int _ k => t.ls.length - k.toNat | _ => 0, ⟨0, rfl, by omega, fun j _ h => by omega, hM⟩, ?_⟩
  rintro v u w3 ⟨i, rfl, hi, hlo, hM⟩
  unfold Tr.place
  refine ⟨fun w' => i < t.ls.length ∧ 0 < x ∧ hM.now w', ?_, ?_⟩
  · ((with_reducible (refine mop_c trivial ?_; refine mm_ld hM ?_; refine mop_c trivial ?_)))
    ((with_reducible (refine mop_cS trivial ?_ ?_)))
    · intro hlt
      ((with_reducible (refine mguard_yes ?_; refine mop_c trivial ?_; refine mguard_yes ?_)))
      ((with_reducible (refine mop_cS trivial ?_ ?_)))
      · intro hx
        ((with_reducible (refine mop_c trivial ?_; refine mif_true ?_)))
        exact ⟨by omega, by omega, hM⟩
      · intro hx
        ((with_reducible (refine mop_c trivial ?_; refine mif_false ?_)))
        exact ⟨by rw [if_pos (by omega)], hM.st⟩
    · intro hge
      ((with_reducible (refine mguard_n2 ?_; refine mguard_n2 ?_; refine mop_c trivial ?_; refine mif_false ?_)))
      refine ⟨?_, hM.st⟩
      rw [fix_none fun j hj => hlo j hj (by omega)]
      split <;> rfl
  rintro u4 w4 ⟨hlt, hx, hM⟩
  ((with_reducible (refine mop_c trivial ?_; refine mm_ld hM ?_)); (with_reducible refine mm_ixs ‹_› ?_ ?_ ?_); (focus (simp only [List.length_map]; omega)); (focus (simp only [List.length_map]; first | done | omega)); (with_reducible (intro _ _ hA)); (cases hA); (with_reducible (refine mop_c trivial ?_)); (with_reducible refine mm_lds hM ‹_› (map_atI ?_) ?_); (focus omega))
  ((with_reducible (refine mop_cS trivial ?_ ?_)))
  · intro h
    ((with_reducible (refine mif_true ?_)))
    exact ⟨by rw [if_neg (by omega), fix_at hlt hlo (decide_eq_true h)], hM.st⟩
  · intro h
    ((with_reducible (refine mif_false ?_; refine mop_c ?_ ?_)); (focus omega))
    refine ⟨⟨i + 1, rfl, by omega, fun j hj hji => ?_, hM⟩, by simp only; omega⟩
    rcases Nat.lt_or_ge j i with h2 | h2
    · exact hlo j hj h2
    · obtain rfl : j = i := by omega
      exact decide_eq_false h
end
end Go.Proofs.YtopcnkejobomaaaGreat
namespace Go.Proofs.YtopcnkejobomaaaGreat
open Go.RowKit Go.Lib
end Go.Proofs.YtopcnkejobomaaaGreat
namespace Go.Proofs.YtopcnkejobomaaaGreat
open Go.RowKit Go.Lib
end Go.Proofs.YtopcnkejobomaaaGreat
namespace Go.Proofs.YtopcnkejobomaaaGreat
open Go.RowKit Go.Lib
section
variable {H : Hp} {w0 w : World} {L R : List Res} {v : Value} {t : Tr}
theorem right_c (h : TrF H v t) (hf : Fz H w) : Calls Tryz.prog 8 #[v] w fun en w' => en = .returned (.bool t.right) ∧ St w [] w' := by
  obtain ⟨A, a, B, b, q, rfl, h1, h2, h3⟩ := h.ex
  exact right_ok h1 h2 h3 h.len.1 h.len.2 hf
theorem tright_c (h : TrF H v t) (hf : Fz H w) : Calls Tryz.prog 7 #[v] w fun en w' => en = .returned (.bool t.right) ∧ St w [] w' := by
  obtain ⟨A, a, B, b, q, rfl, h1, h2, h3⟩ := h.ex
  exact tright_ok h1 h2 h3 h.len.1 h.len.2 hf
theorem add_c (l : Lf) (h : TrF H v t) (hf : Fz H w) : Calls Tryz.prog 28 #[v, lv l] w (Outp H w fun H' r => ∃ v1, r = .tuple #[v1, .int .i64 (t.addP l).2.1, .int .i64 (t.addP l).2.2] ∧ TrF H' v1 (t.addP l).1) := by
  obtain ⟨A, a, B, b, q, rfl, h1, h2, h3⟩ := h.ex
  exact add_q l (fun H' v1 r e k => by rw [e]; exact ⟨v1, rfl, k⟩) h1 h2 h3 h.len.1 h.len.2 hf
theorem remove_c (p : Int) (h : TrF H v t) (hf : Fz H w) : Calls Tryz.prog 29 #[v, .int .i64 p] w (Outp H w fun H' r => ∃ v1, r = .tuple #[v1, .int .i64 (t.remP p).2] ∧ TrF H' v1 (t.remP p).1) := by
  obtain ⟨A, a, B, b, q, rfl, h1, h2, h3⟩ := h.ex
  exact remove_q p (fun H' v1 r e k => by rw [e]; exact ⟨v1, rfl, k⟩) h1 h2 h3 h.len.1 h.len.2 hf
end
end Go.Proofs.YtopcnkejobomaaaGreat
namespace Go.Proofs.YtopcnkejobomaaaGreat
open Go.RowKit Go.Lib
abbrev leafN (x : Int) : Lf := ⟨x, hzero, hzero, hzero⟩
def aw1 : Tr := ((Tr.none).addP (leafN 5)).1
def aw2 : Tr := (aw1.addP (leafN 2)).1
def aw3 : Tr := (aw2.addP (leafN 9)).1
def aw4 : Tr := (aw3.remP 1).1
def aw5 : Tr := (aw4.addP (leafN 7)).1
def aw6 : Tr := (aw5.remP 2).1
def aw : Nat → Tr
  | 0 => Tr.none
  | 1 => aw1
  | 2 => aw2
  | 3 => aw3
  | 4 => aw4
  | 5 => aw5
  | _ => aw6
def awN : Nat → Int
  | 0 => 5
  | 1 => 2
  | _ => 9
theorem aw_facts : (((aw 0).addP (leafN 5)).2 = (0, 0) ∧ ((aw 1).addP (leafN 2)).2 = (1, 0) ∧ ((aw 2).addP (leafN 9)).2 = (2, 0)) ∧ ((aw 3).remP 1).2 = 0 ∧ (((aw 4).addP (leafN 7)).2.1 = 1 ∧ ((aw 4).addP (leafN 7)).2.2 = 0) ∧ ((aw 5).remP 2).2 = 0 ∧ (aw 6).ls.length = 2 ∧ (aw 6).right = true := by decide +kernel
theorem aw_step {i : Nat} (h : i < 3) : (aw i).addP (leafN (awN i)) = (aw (i + 1), (i : Int), 0) := by
  obtain ⟨⟨h0, h1, h2⟩, -⟩ := aw_facts
  have hcase : i = 0 ∨ i = 1 ∨ i = 2 := by omega
  rcases hcase with rfl | rfl | rfl
  · exact Prod.ext rfl h0
  · exact Prod.ext rfl h1
  · exact Prod.ext rfl h2
section
variable {H : Hp} {w0 w : World} {L R : List Res} {A B C : Option Addr} {a b c n : Nat} {t : Tr} {qs ps : List (List Fd)}
theorem few_ok (h1 : Sl H 97 A (t.ls.map Lf.fds)) (h2 : Sl H 66 B qs) (h3 : All2 (PnF H) qs t.ps) (hl : t.ls.length ≤ maxLen) (hp : t.ps.length ≤ maxLen) (hf : Fz H w) :
    Calls Tryz.prog 6 #[tv A t.ls.length a B t.ps.length b] w fun en w' => en = .returned (.bool (decide t.few)) ∧ St w [] w' := by
  have hl' : t.ls.length ≤ 9223372036854775807 := hl
  have hp' : t.ps.length ≤ 9223372036854775807 := hp
  have hq : qs.length = t.ps.length := h3.len
  have hM := Mem.start hf
  refine C_bevylaw08_few ?_
  unfold F_bevylaw08_few
  ((with_reducible (refine mm_box hM ?_; clear hM; intro _ _ hM)))
  refine ⟨fun v w' => v = .bool (!decide (t.ls.length ≤ 100 ∧ t.ps.length ≤ 100)) ∧ hM.now w', ?_, ?_⟩
  · ((with_reducible (refine mop_c trivial ?_; refine mm_ld hM ?_; refine mop_c trivial ?_)))
    ((with_reducible (refine mop_cS trivial ?_ ?_)))
    · intro h
      ((with_reducible ((iterate 4 refine mguard_n1 ?_); refine mop_c trivial ?_)))
      exact ⟨by rw [decide_eq_false (by omega)]; rfl, hM⟩
    · intro h
      ((with_reducible (refine mguard_yes ?_; refine mop_c trivial ?_; refine mguard_yes ?_; refine mm_ld hM ?_; refine mguard_yes ?_; refine mop_c trivial ?_; refine mguard_yes ?_)))
      ((with_reducible (refine mop_cS trivial ?_ ?_)))
      · intro h4
        ((with_reducible (refine mop_c trivial ?_)))
        exact ⟨by rw [decide_eq_false (by omega)]; rfl, hM⟩
      · intro h4
        ((with_reducible (refine mop_c trivial ?_)))
        exact ⟨by rw [decide_eq_true (by omega)]; rfl, hM⟩
  rintro v u w2 ⟨rfl, hM⟩
  by_cases hc : t.ls.length ≤ 100 ∧ t.ps.length ≤ 100
  case neg =>
    rw [decide_eq_false hc]
    ((with_reducible (refine mif_nf ?_)))
    exact ⟨by rw [decide_eq_false (show ¬ t.few from fun h => hc ⟨h.1, h.2.1⟩)], hM.st⟩
  rw [decide_eq_true hc]
  ((with_reducible (refine mif_nt ?_)))
  refine ⟨fun v w' => ∃ i : Nat, v = .int .i64 i ∧ i ≤ t.ps.length ∧ (∀ j (hj : j < t.ps.length), j < i → t.ps[j].loose.length ≤ 100) ∧ hM.now w', fun v _ => match v with | .int _ k => t.ps.length - k.toNat | _ => 0, ⟨0, rfl, by omega, fun j _ h => by omega, hM⟩, ?_⟩
  rintro v u w3 ⟨i, rfl, hi, hlo, hM⟩
  ((with_reducible (refine mop_c trivial ?_; refine mm_ld hM ?_; refine mop_c trivial ?_)))
  ((with_reducible (refine mop_cS trivial ?_ ?_)))
  · intro hlt
    have hlt' : i < t.ps.length := by omega
    obtain ⟨q, hq1, C, c, rfl, hC, hcl⟩ := h3.at_ (i := i) hlt'
    simp only [maxLen] at hcl
    ((with_reducible (refine mif_true ?_; refine mop_c trivial ?_; refine mm_ld hM ?_)))
    refine mm_ixs h2 (by omega) hq.symm (fun bb oo hB => ?_)
    cases hB
    ((with_reducible (refine mop_c trivial ?_)))
    refine mm_lds hM h2 hq1 ?_
    ((with_reducible (refine mop_c trivial ?_)))
    ((with_reducible (refine mop_cS trivial ?_ ?_)))
    · intro h
      ((with_reducible (refine mif_true ?_)))
      exact ⟨by rw [decide_eq_false (show ¬ t.few from fun hh => by have := hh.2.2 _ (List.getElem_mem hlt'); omega)], hM.st⟩
    · intro h
      ((with_reducible (refine mif_false ?_; refine mop_c ?_ ?_)); (focus omega))
      refine ⟨⟨i + 1, rfl, by omega, fun j hj hji => ?_, hM⟩, by simp only; omega⟩
      rcases Nat.lt_or_ge j i with h2 | h2
      · exact hlo j hj h2
      · obtain rfl : j = i := by omega
        omega
  · intro hge
    ((with_reducible (refine mif_false ?_)))
    refine ⟨?_, hM.st⟩
    rw [decide_eq_true (show t.few from ⟨hc.1, hc.2, fun p hp => ?_⟩)]
    obtain ⟨j, hj, rfl⟩ := List.getElem_of_mem hp
    exact hlo j hj (by omega)
end
section
variable {H : Hp} {w0 w : World} {L R : List Res} {v : Value} {t : Tr}
theorem few_c (h : TrF H v t) (hf : Fz H w) : Calls Tryz.prog 6 #[v] w fun en w' => en = .returned (.bool (decide t.few)) ∧ St w [] w' := by
  obtain ⟨A, a, B, b, q, rfl, h1, h2, h3⟩ := h.ex
  exact few_ok h1 h2 h3 h.len.1 h.len.2 hf
theorem tawake_ok (w : World) : Calls Tryz.prog 5 #[] w fun en w' => en = .returned (.bool true) ∧ St w [] w' := by
  have hM := Mem.start (Fz.of w)
  obtain ⟨H, hH⟩ : ∃ H, H = Hp.of w := ⟨_, rfl⟩
  rw [← hH] at hM
  refine C_bevylaw08_awake ?_
  unfold F_bevylaw08_awake
  ((with_reducible (refine mm_new hM ?_; clear hM; intro _ _ hM; refine mop_c trivial ?_)))
  rename_i g1 _
  refine ⟨fun v w' => ∃ (i : Nat) (H1 : Hp) (A : Option Addr) (a : Nat) (B : Option Addr) (b : Nat), v = .int .i64 i ∧ i ≤ 3 ∧ TrF H1 (tv A (aw i).ls.length a B (aw i).ps.length b) (aw i) ∧ Mem H1 w [fb g1 25 (tfd A (aw i).ls.length a B (aw i).ps.length b)] w', fun v _ => match v with | .int _ k => 3 - k.toNat | _ => 0, ⟨0, H, none, 0, none, 0, rfl, by omega, trF_none _, hM⟩, ?_⟩
  clear hM
  rintro v u w3 ⟨i, H1, A, a, B, b, rfl, hi, hT, hM⟩
  ((with_reducible (refine mop_cS trivial ?_ ?_)))
  · intro hlt
    have hlt' : i < 3 := by omega
    ((with_reducible (refine mif_true ?_)))
    have hix : Pur Tryz.prog (o_index 53 (.agg (fl [Fd.one (.int .i64 5), .one (.int .i64 2), .one (.int .i64 9)]).toArray) (.int .i64 i)) (.int .i64 (awN i)) := by
      have hcase : i = 0 ∨ i = 1 ∨ i = 2 := by omega
      rcases hcase with rfl | rfl | rfl <;> exact p_index_array _ 3 3 _ _ _ _ Tryz.underlying53 (by kernel_rfl) (by omega) (by omega) rfl
    refine mop_pur hix ?_
    ((with_reducible (refine mm_ld hM ?_; refine mop_c trivial ?_)))
    refine mm_call hM (add_c (leafN (awN i)) hT hM.fz) ?_
    rintro H2 v w4 l2 hM ⟨v1, rfl, hT2⟩
    obtain ⟨e1, e2, e3⟩ : ((aw i).addP (leafN (awN i))).1 = aw (i + 1) ∧ ((aw i).addP (leafN (awN i))).2.1 = i ∧ ((aw i).addP (leafN (awN i))).2.2 = 0 := by
      rw [aw_step hlt']
      exact ⟨rfl, rfl, rfl⟩
    rw [e1] at hT2
    rw [e2, e3]
    obtain ⟨A2, a2, B2, b2, q2, rfl, -⟩ := hT2.ex
    ((with_reducible ((iterate 3 refine mop_c trivial ?_); refine mm_st hM ?_; clear hM; intro _ hM)))
    refine ⟨fun v w' => v = .bool false ∧ hM.now w', ?_, ?_⟩
    · ((with_reducible (refine mop_cF trivial ?_ ?_)); (focus (first | assumption | omega | with_reducible rfl | exact fun h => Bool.noConfusion h)); (with_reducible (refine mguard_yes ?_; refine mop_c trivial ?_; refine mguard_yes ?_; refine mop_c trivial ?_; refine mguard_yes ?_; refine mop_cF trivial ?_ ?_)); (focus (first | assumption | omega | with_reducible rfl | exact fun h => Bool.noConfusion h)); (with_reducible (refine mop_c trivial ?_)))
      exact ⟨rfl, hM⟩
    rintro v u5 w5 ⟨rfl, hM⟩
    ((with_reducible (refine mif_false ?_; refine mop_c ?_ ?_)); (focus omega))
    exact ⟨⟨i + 1, H2, A2, a2, B2, b2, rfl, by omega, hT2, hM⟩, by simp only; omega⟩
  · intro hge
    obtain rfl : i = 3 := by omega
    obtain ⟨-, f4, ⟨f5, f5b⟩, f6, f7, f8⟩ := aw_facts
    ((with_reducible (refine mif_false ?_; refine mm_ld hM ?_)))
    refine mm_call hM (remove_c 1 hT hM.fz) ?_
    rintro H2 v w4 l2 hM ⟨v1, rfl, hT2⟩
    rw [f4]
    rw [show ((aw 3).remP 1).1 = aw 4 from rfl] at hT2
    obtain ⟨A2, a2, B2, b2, q2, rfl, -⟩ := hT2.ex
    ((with_reducible (refine mop_c trivial ?_; refine mop_c trivial ?_; refine mm_st hM ?_; clear hM; intro _ hM; refine mm_ld hM ?_; refine mop_c trivial ?_)))
    refine mm_call hM (add_c (leafN 7) hT2 hM.fz) ?_
    rintro H3 v w5 l3 hM ⟨v1, rfl, hT3⟩
    rw [f5, f5b]
    rw [show ((aw 4).addP (leafN 7)).1 = aw 5 from rfl] at hT3
    obtain ⟨A3, a3, B3, b3, q3, rfl, -⟩ := hT3.ex
    ((with_reducible ((iterate 3 refine mop_c trivial ?_); refine mm_new hM ?_; clear hM; intro _ _ hM; refine mm_st hM ?_; clear hM; intro _ hM; refine mm_ld hM ?_)))
    refine mm_call hM (remove_c 2 hT3 hM.fz) ?_
    rintro H4 v w6 l4 hM ⟨v1, rfl, hT4⟩
    rw [f6]
    rw [show ((aw 5).remP 2).1 = aw 6 from rfl] at hT4
    obtain ⟨A4, a4, B4, b4, q4, rfl, -⟩ := hT4.ex
    ((with_reducible (refine mop_c trivial ?_; refine mop_c trivial ?_; refine mm_new hM ?_; clear hM; intro _ _ hM; refine mm_st hM ?_; clear hM; intro _ hM; refine mop_cT trivial ?_ ?_)); (focus (first | assumption | omega | with_reducible rfl | exact fun h => Bool.noConfusion h)); (with_reducible (refine mguard_yes ?_; refine mop_c trivial ?_; refine mguard_yes ?_; refine mop_cT trivial ?_ ?_)); (focus (first | assumption | omega | with_reducible rfl | exact fun h => Bool.noConfusion h)); (with_reducible (refine mop_c trivial ?_; refine mguard_yes ?_; refine mop_c trivial ?_; refine mguard_yes ?_; refine mop_cT trivial ?_ ?_)); (focus (first | assumption | omega | with_reducible rfl | exact fun h => Bool.noConfusion h)); (with_reducible (refine mop_c trivial ?_; refine mguard_yes ?_; refine mop_c trivial ?_; refine mguard_yes ?_; refine mop_cT trivial ?_ ?_)); (focus (first | assumption | omega | with_reducible rfl | exact fun h => Bool.noConfusion h)); (with_reducible (refine mop_c trivial ?_; refine mguard_yes ?_; refine mop_c trivial ?_; refine mguard_yes ?_; refine mm_ld hM ?_; refine mguard_yes ?_; refine mop_c trivial ?_; refine mguard_yes ?_; refine mop_cT trivial ?_ ?_)); (focus (first | assumption | omega | with_reducible rfl | exact fun h => Bool.noConfusion h)); (with_reducible (refine mop_c trivial ?_; refine mguard_yes ?_; refine mm_ld hM ?_; refine mguard_yes ?_)))
    refine mm_pure hM (right_c hT4 hM.fz) (fun w hM => ?_)
    rw [f8]
    ((with_reducible (refine mop_c trivial ?_)))
    exact ⟨rfl, hM.st⟩
instance : PurC Tryz.prog 5 [] True (.bool true) := ⟨fun _ w => tawake_ok w⟩
end
end Go.Proofs.YtopcnkejobomaaaGreat
namespace Go.Proofs.YtopcnkejobomaaaGreat
open Go.RowKit Go.Lib
def lvsOk (s : List Int) (ls : List Lf) : Prop := (∀ l ∈ ls, l = Lf.zero ∨ (1 ≤ l.name ∧ l.name ≤ 64)) ∧ (∀ l ∈ ls, l.name ≠ 0 → l.name ∉ s) ∧ ∀ i j (hi : i < ls.length) (hj : j < ls.length), i < j → ls[i].name ≠ 0 → ls[i].name ≠ ls[j].name
theorem lvsOk_cons {s : List Int} {l : Lf} {r : List Lf} : lvsOk s (l :: r) ↔ (l = Lf.zero ∧ lvsOk s r) ∨ ((1 ≤ l.name ∧ l.name ≤ 64) ∧ l.name ∉ s ∧ lvsOk (l.name :: s) r) := by
  constructor
  · rintro ⟨h1, h2, h3⟩
    have hr1 : ∀ x ∈ r, x = Lf.zero ∨ (1 ≤ x.name ∧ x.name ≤ 64) := fun x hx => h1 x (List.mem_cons_of_mem _ hx)
    have hr3 : ∀ i j (hi : i < r.length) (hj : j < r.length), i < j → r[i].name ≠ 0 → r[i].name ≠ r[j].name := fun i j hi hj hij hn => by
      have := h3 (i + 1) (j + 1) (by simpa using hi) (by simpa using hj) (by omega)
      simpa using this hn
    rcases h1 l (List.mem_cons_self ..) with hz | hz
    · exact .inl ⟨hz, hr1, fun x hx => h2 x (List.mem_cons_of_mem _ hx), hr3⟩
    · refine .inr ⟨hz, h2 l (List.mem_cons_self ..) (by omega), hr1, fun x hx hn hm => ?_, hr3⟩
      rcases List.mem_cons.1 hm with e | hm
      · obtain ⟨j, hj, rfl⟩ := List.getElem_of_mem hx
        have := h3 0 (j + 1) (by simp) (by simpa using hj) (by omega)
        simp only [List.getElem_cons_zero, List.getElem_cons_succ] at this
        exact this (by omega) e.symm
      · exact h2 x (List.mem_cons_of_mem _ hx) hn hm
  · rintro (⟨hz, h1, h2, h3⟩ | ⟨hz, hs, h1, h2, h3⟩)
    · refine ⟨fun x hx => ?_, fun x hx hn => ?_, fun i j hi hj hij hn => ?_⟩
      · rcases List.mem_cons.1 hx with rfl | hx
        · exact .inl hz
        · exact h1 x hx
      · rcases List.mem_cons.1 hx with rfl | hx
        · rw [hz] at hn
          exact absurd rfl hn
        · exact h2 x hx hn
      · cases i with
        | zero =>
          rw [List.getElem_cons_zero, hz] at hn
          exact absurd rfl hn
        | succ i =>
          obtain ⟨j, rfl⟩ : ∃ k, j = k + 1 := ⟨j - 1, by omega⟩
          simp only [List.getElem_cons_succ] at hn ⊢
          exact h3 i j (by simpa using hi) (by simpa using hj) (by omega) hn
    · refine ⟨fun x hx => ?_, fun x hx hn => ?_, fun i j hi hj hij hn => ?_⟩
      · rcases List.mem_cons.1 hx with rfl | hx
        · exact .inr hz
        · exact h1 x hx
      · rcases List.mem_cons.1 hx with rfl | hx
        · exact hs
        · exact fun hm => h2 x hx hn (List.mem_cons_of_mem _ hm)
      · obtain ⟨j, rfl⟩ : ∃ k, j = k + 1 := ⟨j - 1, by omega⟩
        have hj' : j < r.length := by simpa using hj
        cases i with
        | zero =>
          simp only [List.getElem_cons_zero, List.getElem_cons_succ] at hn ⊢
          intro e
          exact h2 r[j] (List.getElem_mem hj') (by omega) (by rw [← e]; exact List.mem_cons_self ..)
        | succ i =>
          simp only [List.getElem_cons_succ] at hn ⊢
          exact h3 i j (by simpa using hi) hj' (by omega) hn
theorem leavesB_iff : ∀ {s : List Int} {ls : List Lf}, leavesB s ls = true ↔ lvsOk s ls
  | s, [] => ⟨fun _ => ⟨fun _ h => (by cases h), fun _ h => (by cases h), fun i j hi => (by cases hi)⟩, fun _ => rfl⟩
  | s, l :: r => by
    rw [lvsOk_cons]
    unfold leavesB
    by_cases hz : l = Lf.zero
    · rw [if_pos hz, leavesB_iff]
      constructor
      · exact fun h => .inl ⟨hz, h⟩
      · rintro (⟨-, h⟩ | ⟨h, -⟩)
        · exact h
        · rw [hz] at h
          simp [Lf.zero] at h
    · rw [if_neg hz, Bool.and_eq_true, decide_eq_true_eq, leavesB_iff]
      constructor
      · exact fun ⟨⟨h1, h2⟩, h3⟩ => .inr ⟨h1, h2, h3⟩
      · rintro (⟨h, -⟩ | ⟨h1, h2, h3⟩)
        · exact absurd h hz
        · exact ⟨⟨h1, h2⟩, h3⟩
theorem Tr.Rt.parts {t : Tr} (h : t.Rt) : lvsOk [] t.ls ∧ ∀ i (hi : i < t.ps.length), (t.ps[i].set = true ∨ t.ps[i].isZero) ∧ (∀ p ∈ t.ps[i].loose, hld t.size (2 * i + 1) p ∧ nameAt t.ls p ≠ 0) ∧ t.ps[i].loose.Pairwise (· < ·) :=
  ⟨leavesB_iff.1 h.leaves, fun i hi => by
    obtain ⟨a, b⟩ := parB_spec h.par i hi
    obtain ⟨c, d⟩ := looseB_spec b
    rw [show (1 : Int) + 2 * i = 2 * i + 1 by omega] at c
    exact ⟨a, fun p hp => ⟨(c p hp).1, (c p hp).2.1⟩, d⟩⟩
end Go.Proofs.YtopcnkejobomaaaGreat
namespace Go.Proofs.YtopcnkejobomaaaGreat
open Go.RowKit Go.Lib
end Go.Proofs.YtopcnkejobomaaaGreat
namespace Go.Proofs.YtopcnkejobomaaaGreat
open Go.RowKit Go.Lib
theorem place_none {t : Tr} {x : Int} (h1 : 1 ≤ x) (h : ¬ 0 ≤ t.place x) : ∀ l ∈ t.ls, l.name ≠ x := fun l hl e => by
  unfold Tr.place fix at h
  rw [if_neg (by omega)] at h
  by_cases hf : t.ls.findIdx (fun l => decide (l.name = x)) < t.ls.length
  · rw [if_pos hf] at h
    omega
  · have := List.findIdx_eq_length.1 (show t.ls.findIdx (fun l => decide (l.name = x)) = t.ls.length by have := List.findIdx_le_length (p := fun l : Lf => decide (l.name = x)) (xs := t.ls); omega) l hl
    simp only [decide_eq_false_iff_not] at this
    exact this e
end Go.Proofs.YtopcnkejobomaaaGreat
namespace Go.Proofs.YtopcnkejobomaaaGreat
open Go.RowKit Go.Lib Go.Shelf
def sortI (l : List Int) : List Int := l.mergeSort fun x y => decide (x ≤ y)
theorem sortI_len (l : List Int) : (sortI l).length = l.length := List.length_mergeSort ..
abbrev intsR (l : List Int) : List (List Fd) := l.map fun x => [.one (.int .i64 x)]
theorem fls_intsR (l : List Int) : fls (intsR l) = l.map (Value.int .i64) := by
  induction l with
  | nil => rfl
  | cons x r ih =>
    rw [List.map_cons, ← ih]
    rfl
theorem intsR_els (l : List Int) : Els 1 (intsR l) := Els.map (f := fun x => [.one (.int .i64 x)]) l fun _ => ⟨inferInstance, rfl⟩
theorem St.grow (w : World) (os : Array Obj) : St w [] (Go.Sort.grow w os) := ⟨(fun _ h => by cases h), .nil, (fun _ h => by cases h), ⟨rfl, rfl, rfl, by simp [Go.Sort.grow], fun k hk _ => by simp [Go.Sort.grow, Array.getElem?_append_left hk]⟩⟩
theorem mapBlock_setRow {w : World} {g e : Nat} {cs : List Value} {f : Array Value → Array Value} (hb : Blf w g e cs) : Go.Sort.mapBlock w g f = w.setRow g (f cs.toArray) := by
  obtain ⟨fr, hh, -⟩ := hb
  unfold Go.Sort.mapBlock World.setRow
  congr 1
  apply Array.ext_getElem?
  intro i
  rw [Array.getElem?_modify, Array.getElem?_modify]
  by_cases hi : g = i
  · subst hi
    rw [if_pos rfl, if_pos rfl, hh]
    rfl
  · rw [if_neg hi, if_neg hi]
theorem putCells_ints (l l' : List Int) (sp : List Value) (hl : l'.length = l.length) : Go.Sort.putCells (Value.int .i64) 0 l'.toArray (l.map (Value.int .i64) ++ sp).toArray = (l'.map (Value.int .i64) ++ sp).toArray := by
  unfold Go.Sort.putCells
  apply Array.ext_getElem?
  intro i
  rw [Array.getElem?_mapIdx]
  simp only [List.getElem?_toArray, Nat.zero_le, true_and, Nat.zero_add, Nat.sub_zero, List.size_toArray]
  by_cases hi : i < l'.length
  · rw [List.getElem?_append_left (by simpa using (by omega : i < l.length)), List.getElem?_append_left (by simpa using hi), List.getElem?_map, List.getElem?_map, List.getElem?_eq_getElem hi, List.getElem?_eq_getElem (show i < l.length by omega)]
    simp [hi]
  · rw [List.getElem?_append_right (by simpa using (by omega : l.length ≤ i)), List.getElem?_append_right (by simpa using (by omega : l'.length ≤ i)), List.length_map, List.length_map, hl]
    have hi2 : ¬ i < l.length := by omega
    simp [hi2]
section
variable {P : Program} {ρ : Ren} {H : Hp} {w0 w : World} {L : List Res} {A : Option Addr} {cap : Nat}
theorem sort_own (Ly : Lays.n189 P ρ) (l : List Int) (hl : l.length ≤ 1000000) (hM : Mem H w0 (rowR 3 1 A l.length cap (intsR l) :: L) w) :
    Calls P (ρ.f 189) #[.slice A l.length cap] w fun en w' => ∃ v, en = .returned v ∧ v = .tuple #[] ∧ Mem H w0 (rowR 3 1 A l.length cap (intsR (sortI l)) :: L) w' := by
  by_cases h0 : l = []
  · subst h0
    refine (Any.slices_Sort_int_none Ly A cap w).mono ?_
    rintro e w' ⟨rfl, rfl⟩
    exact ⟨_, rfl, rfl, by simpa [sortI] using hM⟩
  have hl0 : 0 < l.length := List.length_pos_iff.2 h0
  obtain ⟨g, rfl⟩ : ∃ g, A = some ⟨g, 0, none⟩ := by
    obtain ⟨B, ⟨B1, B2, rfl, ⟨h1, h2, h3⟩, h4⟩, hs', hb⟩ := hM.own
    rcases h3 with ⟨hA, h5⟩ | ⟨g', sp, hA, -⟩
    · omega
    · exact ⟨g', hA⟩
  obtain ⟨sp, r1, r2, r3, r4, r5, hM⟩ := hM.raw (n := l.length) (cap := cap) (e := 3) (sz := 1) (ps := intsR l) (R := L) (g := g)
  rw [fls_intsR] at r1 hM
  have hb : Blf w g 3 _ := hM.bkBlf
  refine (Any.slices_Sort_int Ly g 0 cap l w (fun j hj => ?_) hb.lt (by omega)).mono ?_
  · have hj' : j < l.length := by simpa using hj
    rw [Nat.zero_add]
    refine ⟨?_, hb.frozen j (by simp; omega)⟩
    rw [hb.cell, List.getElem?_append_left (by simpa using hj'), List.getElem?_map, List.getElem?_eq_getElem hj']
    simp [hj']
  · rintro e w' ⟨rfl, n, os, rfl⟩
    have hM2 : Mem H w0 (bk g 3 (l.map (Value.int .i64) ++ sp) :: L) (Go.Sort.ahead w n) := hM.drawn ⟨n, rfl⟩
    have hb2 : Blf _ g 3 _ := hM2.bkBlf
    have hM3 := hM2.setBk (cs' := (sortI l).map (Value.int .i64) ++ sp) (by simp [sortI_len])
    have e : Go.Sort.putRow (Value.int .i64) (Go.Sort.ahead w n) g 0 (l.mergeSort fun x y => decide (x ≤ y)).toArray = (Go.Sort.ahead w n).setRow g ((sortI l).map (Value.int .i64) ++ sp).toArray := by
      unfold Go.Sort.putRow
      rw [mapBlock_setRow hb2]
      show (Go.Sort.ahead w n).setRow g (Go.Sort.putCells (Value.int .i64) 0 (sortI l).toArray _) = _
      rw [putCells_ints l _ sp (sortI_len l)]
    rw [e]
    have hM4 : Mem H w0 (bk g 3 (fls (intsR (sortI l)) ++ sp) :: L) (Go.Sort.grow ((Go.Sort.ahead w n).setRow g ((sortI l).map (Value.int .i64) ++ sp).toArray) os) := by
      rw [fls_intsR]
      exact hM3.call0 (St.grow _ os)
    refine ⟨_, rfl, rfl, hM4.unraw (intsR_els _) (by rw [List.length_map, sortI_len]) ?_ r2 r3⟩
    rw [fls_intsR, ← r1]
    simp [sortI_len]
end
end Go.Proofs.YtopcnkejobomaaaGreat
namespace Go.Proofs.YtopcnkejobomaaaGreat
open Go.RowKit Go.Lib
theorem sorted_ext : ∀ {a b : List Int}, a.Pairwise (· < ·) → b.Pairwise (· < ·) → (∀ x, x ∈ a ↔ x ∈ b) → a = b
  | [], [], _, _, _ => rfl
  | [], y :: b, _, _, h => by have := (h y).2 (List.mem_cons_self ..); cases this
  | x :: a, [], _, _, h => by have := (h x).1 (List.mem_cons_self ..); cases this
  | x :: a, y :: b, ha, hb, h => by
    obtain ⟨a1, a2⟩ := List.pairwise_cons.1 ha
    obtain ⟨b1, b2⟩ := List.pairwise_cons.1 hb
    have e : x = y := by
      rcases List.mem_cons.1 ((h x).1 (List.mem_cons_self ..)) with e | h1
      · exact e
      rcases List.mem_cons.1 ((h y).2 (List.mem_cons_self ..)) with e | h2
      · exact e.symm
      have := a1 y h2
      have := b1 x h1
      omega
    subst e
    rw [sorted_ext a2 b2 fun z => ⟨fun hz => ?_, fun hz => ?_⟩]
    · rcases List.mem_cons.1 ((h z).1 (List.mem_cons_of_mem _ hz)) with e | h1
      · have := a1 z hz
        omega
      · exact h1
    · rcases List.mem_cons.1 ((h z).2 (List.mem_cons_of_mem _ hz)) with e | h1
      · have := b1 z hz
        omega
      · exact h1
def nmL (ls : List Lf) : List Int := (ls.map (·.name)).filter fun x => decide (0 < x)
def rnmL (t : Tr) (k : Nat) : List Int := ((List.range k).map fun i : Nat => ((i : Int) + 1)).filter fun x => decide (0 ≤ t.place x)
theorem place_some {t : Tr} {x : Int} (h : 0 ≤ t.place x) : 1 ≤ x ∧ ∃ l ∈ t.ls, l.name = x := by
  unfold Tr.place at h
  by_cases h1 : x < 1
  · rw [if_pos h1] at h
    omega
  rw [if_neg h1] at h
  unfold fix at h
  by_cases h2 : t.ls.findIdx (fun l => decide (l.name = x)) < t.ls.length
  · refine ⟨by omega, _, List.getElem_mem h2, ?_⟩
    simpa using List.findIdx_getElem (w := h2)
  · rw [if_neg h2] at h
    omega
theorem sortI_mem {l : List Int} {x : Int} : x ∈ sortI l ↔ x ∈ l := (List.mergeSort_perm l _).mem_iff
theorem sortI_rise {l : List Int} (h : l.Pairwise (· ≠ ·)) : (sortI l).Pairwise (· < ·) := by
  have h1 : (sortI l).Pairwise (· ≤ ·) := by
    have := List.pairwise_mergeSort (le := fun x y : Int => decide (x ≤ y)) (fun a b c => by simp only [decide_eq_true_eq]; omega) (fun a b => by simp only [Bool.or_eq_true, decide_eq_true_eq]; omega) l
    exact this.imp fun h => of_decide_eq_true h
  have h2 : (sortI l).Pairwise (· ≠ ·) := (List.mergeSort_perm l _).symm.pairwise h fun h e => h e.symm
  exact (h1.and h2).imp fun ⟨a, b⟩ => by omega
theorem names_eq {t : Tr} (h : t.Rt) : sortI (nmL t.ls) = rnmL t 64 := by
  obtain ⟨⟨p1, -, p3⟩, -⟩ := h.parts
  refine sorted_ext (sortI_rise ?_) ?_ fun x => ?_
  · unfold nmL
    rw [List.pairwise_filter, List.pairwise_map, List.pairwise_iff_getElem]
    intro i j hi hj hij h1 h2
    exact p3 i j hi hj hij (by simp only [decide_eq_true_eq] at h1; omega)
  · unfold rnmL
    rw [List.pairwise_filter, List.pairwise_map]
    refine List.pairwise_lt_range.imp ?_
    intro a b hab _ _
    omega
  · rw [sortI_mem]
    unfold nmL rnmL
    simp only [List.mem_filter, List.mem_map, List.mem_range, decide_eq_true_eq]
    constructor
    · rintro ⟨⟨l, hl, rfl⟩, h0⟩
      refine ⟨⟨(l.name - 1).toNat, ?_, by omega⟩, Decidable.by_contra fun hn => place_none (by omega) hn l hl rfl⟩
      rcases p1 l hl with rfl | h2
      · exact absurd h0 (by decide)
      · omega
    · rintro ⟨-, hp⟩
      obtain ⟨h1, l, hl, e⟩ := place_some hp
      exact ⟨⟨l, hl, e⟩, by omega⟩
theorem nmL_len (ls : List Lf) : (nmL ls).length ≤ ls.length := by
  have := List.length_filter_le (fun x : Int => decide (0 < x)) (ls.map (·.name))
  rwa [List.length_map] at this
theorem rnmL_len (t : Tr) (k : Nat) : (rnmL t k).length ≤ k := by
  have := List.length_filter_le (fun x : Int => decide (0 ≤ t.place x)) ((List.range k).map fun i : Nat => ((i : Int) + 1))
  simpa [rnmL] using this
theorem nmL_take {ls : List Lf} {i : Nat} (h : i < ls.length) : nmL (ls.take (i + 1)) = nmL (ls.take i) ++ if 0 < ls[i].name then [ls[i].name] else [] := by
  unfold nmL
  rw [List.take_succ_eq_append_getElem h, List.map_append, List.filter_append]
  congr 1
  by_cases c : 0 < ls[i].name <;> simp [c]
theorem rnmL_succ (t : Tr) (k : Nat) : rnmL t (k + 1) = rnmL t k ++ if 0 ≤ t.place ((k : Int) + 1) then [(k : Int) + 1] else [] := by
  unfold rnmL
  rw [List.range_succ, List.map_append, List.filter_append]
  congr 1
  by_cases c : 0 ≤ t.place ((k : Int) + 1) <;> simp [c]
end Go.Proofs.YtopcnkejobomaaaGreat
namespace Go.Proofs.YtopcnkejobomaaaGreat
open Go.Shelf
def lays189_ren : Go.Shelf.Ren := ⟨fun | 189 => 36 | 125 => 82 | 257 => 81 | 128 => 127 | 129 => 128 | 294 => 119 | 295 => 120 | 296 => 121 | 297 => 122 | 298 => 123 | 299 => 124 | 216 => 115 | 300 => 125 | 301 => 126 | 328 => 146 | 329 => 147 | 330 => 148 | 331 => 149 | 332 => 150 | 215 => 144 | 343 => 161 | n => n, fun | 28 => 29 | 3 => 3 | 46 => 121 | 0 => 0 | 51 => 125 | 53 => 134 | 4 => 4 | 183 => 169 | 182 => 168 | 131 => 112 | 5 => 5 | 9 => 9 | 218 => 186 | 222 => 190 | 228 => 197 | 229 => 117 | n => n, fun | n => n⟩
theorem lays189 : Go.Proofs.Lays.n189 Tryz.prog lays189_ren := {
  mixed := by kernel_rfl
  f125 := Tryz.func82.trans (congrArg some (by kernel_rfl))
  f128 := Tryz.func127.trans (congrArg some (by kernel_rfl))
  f129 := Tryz.func128.trans (congrArg some (by kernel_rfl))
  f189 := Tryz.func36.trans (congrArg some (by kernel_rfl))
  f215 := Tryz.func144.trans (congrArg some (by kernel_rfl))
  f216 := Tryz.func115.trans (congrArg some (by kernel_rfl))
  f257 := Tryz.func81.trans (congrArg some (by kernel_rfl))
  f294 := Tryz.func119.trans (congrArg some (by kernel_rfl))
  f295 := Tryz.func120.trans (congrArg some (by kernel_rfl))
  f296 := Tryz.func121.trans (congrArg some (by kernel_rfl))
  f297 := Tryz.func122.trans (congrArg some (by kernel_rfl))
  f298 := Tryz.func123.trans (congrArg some (by kernel_rfl))
  f299 := Tryz.func124.trans (congrArg some (by kernel_rfl))
  f300 := Tryz.func125.trans (congrArg some (by kernel_rfl))
  f301 := Tryz.func126.trans (congrArg some (by kernel_rfl))
  f328 := Tryz.func146.trans (congrArg some (by kernel_rfl))
  f329 := Tryz.func147.trans (congrArg some (by kernel_rfl))
  f330 := Tryz.func148.trans (congrArg some (by kernel_rfl))
  f331 := Tryz.func149.trans (congrArg some (by kernel_rfl))
  f332 := Tryz.func150.trans (congrArg some (by kernel_rfl))
  f343 := Tryz.func161.trans (congrArg some (by kernel_rfl))
  t0 := Tryz.underlying0
  a0 := Tryz.isAgg0
  z0 := Tryz.sizeOf0
  v0 := Tryz.zeroValue0
  t3 := Tryz.underlying3
  a3 := Tryz.isAgg3
  z3 := Tryz.sizeOf3
  v3 := Tryz.zeroValue3
  t4 := Tryz.underlying4
  a4 := Tryz.isAgg4
  z4 := Tryz.sizeOf4
  v4 := Tryz.zeroValue4
  t5 := Tryz.underlying5
  a5 := Tryz.isAgg5
  z5 := Tryz.sizeOf5
  v5 := Tryz.zeroValue5
  t9 := Tryz.underlying9
  a9 := Tryz.isAgg9
  z9 := Tryz.sizeOf9
  v9 := Tryz.zeroValue9
  t28 := Tryz.underlying29
  a28 := Tryz.isAgg29
  z28 := Tryz.sizeOf29
  v28 := Tryz.zeroValue29
  t46 := Tryz.underlying121
  a46 := Tryz.isAgg121
  z46 := Tryz.sizeOf121
  v46 := Tryz.zeroValue121
  t51 := Tryz.underlying125
  a51 := Tryz.isAgg125
  z51 := Tryz.sizeOf125
  v51 := Tryz.zeroValue125
  t53 := Tryz.underlying134
  a53 := Tryz.isAgg134
  z53 := Tryz.sizeOf134
  v53 := Tryz.zeroValue134
  t131 := Tryz.underlying112
  a131 := Tryz.isAgg112
  z131 := Tryz.sizeOf112
  v131 := Tryz.zeroValue112
  t182 := Tryz.underlying168
  a182 := Tryz.isAgg168
  z182 := Tryz.sizeOf168
  v182 := Tryz.zeroValue168
  t183 := Tryz.underlying169
  a183 := Tryz.isAgg169
  z183 := Tryz.sizeOf169
  v183 := Tryz.zeroValue169
  t218 := Tryz.underlying186
  a218 := Tryz.isAgg186
  z218 := Tryz.sizeOf186
  v218 := Tryz.zeroValue186
  t222 := Tryz.underlying190
  a222 := Tryz.isAgg190
  z222 := Tryz.sizeOf190
  v222 := Tryz.zeroValue190
  t228 := Tryz.underlying197
  a228 := Tryz.isAgg197
  z228 := Tryz.sizeOf197
  v228 := Tryz.zeroValue197
  t229 := Tryz.underlying117
  a229 := Tryz.isAgg117
  z229 := Tryz.sizeOf117
  v229 := Tryz.zeroValue117 }
end Go.Proofs.YtopcnkejobomaaaGreat
namespace Go.Proofs.YtopcnkejobomaaaGreat
open Go.RowKit Go.Lib
section
variable {H : Hp} {w0 w : World} {L R : List Res} {A K : Option Addr} {a kc cap : Nat} {t : Tr} {v : Value}
theorem ssort_ok (l : List Int) (hl : l.length ≤ 1000000) (hM : Mem H w0 (rowR 3 1 A l.length cap (ints8 l) :: L) w) :
    Calls Tryz.prog 36 #[.slice A l.length cap] w fun en w' => ∃ v, en = .returned v ∧ v = .tuple #[] ∧ Mem H w0 (rowR 3 1 A l.length cap (ints8 (sortI l)) :: L) w' := sort_own lays189 l hl hM
theorem ints8_one (l : List Int) (x : Int) : ints8 (l ++ [x]) = ints8 l ++ [[.one (.int .i64 x)]] := by simp [ints8]
theorem names_ok (hR : t.Rt) (h : TrF H v t) (hf : Fz H w) : Calls Tryz.prog 10 #[v] w (Outp H w fun H' r => ∃ K kc, r = .slice K (rnmL t 64).length kc ∧ Sl H' 1 K (ints8 (rnmL t 64))) := by
  obtain ⟨A, a, B, b, q, rfl, h1, h2, h3⟩ := h.ex
  obtain ⟨w1, hw1⟩ : ∃ w1, w1 = w := ⟨_, rfl⟩
  rw [← hw1]
  rw [← hw1] at hf
  have hlen := hR.len
  have hM := Mem.start hf
  refine C_tree_Names ?_
  unfold F_tree_Names
  ((with_reducible (refine mm_box hM ?_; clear hM; intro _ _ hM; refine mm_ld hM ?_)))
  rename_i g1 _
  refine mm_pure hM (sound_ok h1 h2 h3 h.len.1 h.len.2 hM.fz) (fun w hM => ?_)
  rw [if_pos (Tr.rt.2 hR)]
  ((with_reducible (refine mop_c trivial ?_; refine mop_c trivial ?_)))
  have h0 : Mem H w1 (rowR 3 1 none 0 0 (ints8 []) :: _) _ := hM.row0 3 1
  refine ⟨fun v u w' => ∃ (i : Nat) (K : Option Addr) (kc : Nat), v = .slice K (nmL (t.ls.take i)).length kc ∧ u = .int .i64 i ∧ i ≤ t.ls.length ∧ Mem H w1 [rowR 3 1 K (nmL (t.ls.take i)).length kc (ints8 (nmL (t.ls.take i))), fb g1 25 (tfd A t.ls.length a B t.ps.length b)] w', fun _ u _ => match u with | .int _ k => t.ls.length - k.toNat | _ => 0, ⟨0, none, 0, rfl, rfl, by omega, h0⟩, ?_⟩
  clear hM h0
  rintro v u u2 w3 ⟨i, K, kc, rfl, rfl, hi, hM⟩
  have hnl := nmL_len (t.ls.take i)
  rw [List.length_take] at hnl
  ((with_reducible (refine mop_cS trivial ?_ ?_)))
  · intro hlt
    have hlt' : i < t.ls.length := by omega
    have e := nmL_take hlt'
    ((with_reducible (refine mif_true ?_)))
    refine ⟨fun v w' => ∃ (K : Option Addr) (kc : Nat), v = .slice K (nmL (t.ls.take (i + 1))).length kc ∧ Mem H w1 [rowR 3 1 K (nmL (t.ls.take (i + 1))).length kc (ints8 (nmL (t.ls.take (i + 1)))), fb g1 25 (tfd A t.ls.length a B t.ps.length b)] w', ?_, ?_⟩
    · ((with_reducible refine mm_ixs ‹_› ?_ ?_ ?_); (focus (simp only [List.length_map]; omega)); (focus (simp only [List.length_map]; first | done | omega)); (with_reducible (intro _ _ hA)); (cases hA); (with_reducible refine mm_lds0 hM ‹_› (map_atI ?_) ?_); (focus omega); (with_reducible (refine mm_new hM ?_; clear hM; intro _ _ hM; refine mm_st hM ?_; clear hM; intro _ hM; refine mop_c trivial ?_; refine mm_ld hM ?_)))
      ((with_reducible (refine mop_cS trivial ?_ ?_)))
      · intro c
        rw [if_pos c] at e
        rw [e, List.length_append, List.length_singleton, ints8_one]
        ((with_reducible (refine mif_true ?_; refine mop_c trivial ?_; refine mm_ld hM ?_; refine mm_bsl hM ?_ ?_ ?_)); (focus rfl); (focus (constructor <;> simp)); (with_reducible (clear hM; intro _ _ hM; refine mm_appo hM ?_ ?_)); (focus omega); (with_reducible (clear hM; intro _ _ _ hM)))
        rename_i A2 c2 _
        exact ⟨A2, c2, rfl, hM.sub⟩
      · intro c
        rw [if_neg c, List.append_nil] at e
        rw [e]
        ((with_reducible (refine mif_false ?_)))
        exact ⟨K, kc, rfl, hM.sub⟩
    clear hM
    rintro v u5 w5 ⟨K, kc, rfl, hM⟩
    ((with_reducible (refine mop_c ?_ ?_)); (focus omega))
    exact ⟨⟨i + 1, K, kc, rfl, rfl, by omega, hM⟩, by simp only; omega⟩
  · intro hge
    obtain rfl : i = t.ls.length := by omega
    rw [List.take_length] at hM hnl ⊢
    ((with_reducible (refine mif_false ?_)))
    refine mm_own (ssort_ok (nmL t.ls) (by omega) hM) ?_
    rintro v w6 ⟨rfl, hM⟩
    skip
    have el : (nmL t.ls).length = (rnmL t 64).length := by rw [← names_eq hR, sortI_len]
    rw [names_eq hR, el] at hM
    rw [el]
    obtain ⟨H4, l4, hM, hs, -⟩ := hM.fz0
    exact hM.out l4 ⟨K, kc, rfl, hs⟩
theorem rnames_ok (hR : t.Rt) (h : TrF H v t) (hf : Fz H w) : Calls Tryz.prog 18 #[v] w (Outp H w fun H' r => ∃ K kc, r = .slice K (rnmL t 64).length kc ∧ Sl H' 1 K (ints8 (rnmL t 64))) := by
  obtain ⟨A, a, B, b, q, rfl, h1, h2, h3⟩ := h.ex
  obtain ⟨w1, hw1⟩ : ∃ w1, w1 = w := ⟨_, rfl⟩
  rw [← hw1]
  rw [← hw1] at hf
  have hlen := hR.len
  have hM := Mem.start hf
  refine C_bevyref08_Names ?_
  unfold F_bevyref08_Names
  ((with_reducible (refine mm_box hM ?_; clear hM; intro _ _ hM)))
  rename_i g1 _
  have h0 : Mem H w1 (rowR 3 1 none 0 0 (ints8 []) :: _) _ := hM.row0 3 1
  refine ⟨fun v u w' => ∃ (i : Nat) (K : Option Addr) (kc : Nat), v = .slice K (rnmL t i).length kc ∧ u = .int .i64 ((i : Int) + 1) ∧ i ≤ 64 ∧ Mem H w1 [rowR 3 1 K (rnmL t i).length kc (ints8 (rnmL t i)), fb g1 25 (tfd A t.ls.length a B t.ps.length b)] w', fun _ u _ => match u with | .int _ k => 65 - k.toNat | _ => 0, ⟨0, none, 0, rfl, rfl, by omega, h0⟩, ?_⟩
  clear hM h0
  rintro v u u2 w3 ⟨i, K, kc, rfl, rfl, hi, hM⟩
  have hnl := rnmL_len t i
  ((with_reducible (refine mop_cS trivial ?_ ?_)))
  · intro hlt
    have e := rnmL_succ t i
    ((with_reducible (refine mif_true ?_)))
    refine ⟨fun v w' => ∃ (K : Option Addr) (kc : Nat), v = .slice K (rnmL t (i + 1)).length kc ∧ Mem H w1 [rowR 3 1 K (rnmL t (i + 1)).length kc (ints8 (rnmL t (i + 1))), fb g1 25 (tfd A t.ls.length a B t.ps.length b)] w', ?_, ?_⟩
    · ((with_reducible (refine mm_ld hM ?_)))
      refine mm_pure hM (rplace_ok ((i : Int) + 1) h1 h.len.1 hM.fz) (fun w hM => ?_)
      ((with_reducible (refine mop_cS trivial ?_ ?_)))
      · intro c
        rw [if_pos c] at e
        rw [e, List.length_append, List.length_singleton, ints8_one]
        ((with_reducible (refine mif_true ?_; refine mm_bsl hM ?_ ?_ ?_)); (focus rfl); (focus (constructor <;> simp)); (with_reducible (clear hM; intro _ _ hM; refine mm_appo hM ?_ ?_)); (focus omega); (with_reducible (clear hM; intro _ _ _ hM)))
        rename_i A2 c2 _
        exact ⟨A2, c2, rfl, hM.sub⟩
      · intro c
        rw [if_neg c, List.append_nil] at e
        rw [e]
        ((with_reducible (refine mif_false ?_)))
        exact ⟨K, kc, rfl, hM.sub⟩
    clear hM
    rintro v u5 w5 ⟨K, kc, rfl, hM⟩
    ((with_reducible (refine mop_c ?_ ?_)); (focus omega))
    exact ⟨⟨i + 1, K, kc, rfl, by push_cast; rfl, by omega, hM⟩, by simp only; omega⟩
  · intro hge
    obtain rfl : i = 64 := by omega
    ((with_reducible (refine mif_false ?_)))
    have hM : Mem H w1 [rowR 3 1 K (rnmL t 64).length kc (ints8 (rnmL t 64))] _ := hM.sub
    obtain ⟨H4, l4, hM, hs, -⟩ := hM.fz0
    exact hM.out l4 ⟨K, kc, rfl, hs⟩
end
end Go.Proofs.YtopcnkejobomaaaGreat
namespace Go.Proofs.YtopcnkejobomaaaGreat
open Go.RowKit
theorem bits_or_comm (a b : Int) : bits .or .u32 a b = bits .or .u32 b a := by
  show IntKind.u32.wrap ((BitVec.ofInt 32 a ||| BitVec.ofInt 32 b).toNat : Int) = IntKind.u32.wrap ((BitVec.ofInt 32 b ||| BitVec.ofInt 32 a).toNat : Int)
  rw [BitVec.or_comm]
theorem wrap_u32_bd (a : Int) : 0 ≤ IntKind.u32.wrap a ∧ IntKind.u32.wrap a < 4294967296 := by
  have : IntKind.u32.wrap a = a % 4294967296 := by simp [IntKind.wrap, IntKind.bits, IntKind.signed]
  rw [this]; omega
def Wd (x : Int) : Prop := 0 ≤ x ∧ x < 4294967296
theorem wd_or (a b : Int) : Wd (bits .or .u32 a b) := wrap_u32_bd _
theorem wd_mod (a : Int) : Wd (a % 4294967296) := ⟨by omega, by omega⟩
def rotr (x : Int) (k : Nat) : Int := bits .or .u32 (x / 2 ^ k) (x * 2 ^ (32 - k) % 4294967296)
def word4 (a b c d : Int) : Int := bits .or .u32 (bits .or .u32 (bits .or .u32 (a * 16777216 % 4294967296) (b * 65536 % 4294967296)) (c * 256 % 4294967296)) d
def sig0 (x : Int) : Int := bits .xor .u32 (bits .xor .u32 (rotr x 7) (rotr x 18)) (x / 8)
def sig1 (x : Int) : Int := bits .xor .u32 (bits .xor .u32 (rotr x 17) (rotr x 19)) (x / 1024)
def nextw (a b x y : Int) : Int := (((a + b) % 4294967296 + sig0 x) % 4294967296 + sig1 y) % 4294967296
def wl (bs : List Int) : Nat → List Int
  | 0 => []
  | i + 1 => wl bs i ++ [if i < 16 then word4 (bs.getD (4 * i) 0) (bs.getD (4 * i + 1) 0) (bs.getD (4 * i + 2) 0) (bs.getD (4 * i + 3) 0)
      else nextw ((wl bs i).getD (i - 16) 0) ((wl bs i).getD (i - 7) 0) ((wl bs i).getD (i - 15) 0) ((wl bs i).getD (i - 2) 0)]
structure S8 where
  a : Int
  b : Int
  c : Int
  d : Int
  e : Int
  f : Int
  g : Int
  h : Int
  deriving DecidableEq
def S8.t1 (s : S8) (k w : Int) : Int :=
  ((((s.h + bits .xor .u32 (bits .xor .u32 (rotr s.e 6) (rotr s.e 11)) (rotr s.e 25)) % 4294967296 + bits .xor .u32 (bits .and .u32 s.e s.f) (bits .and .u32 (bits .xor .u32 4294967295 s.e) s.g)) % 4294967296 + k) % 4294967296 + w) % 4294967296
def S8.t2 (s : S8) : Int :=
  (bits .xor .u32 (bits .xor .u32 (rotr s.a 2) (rotr s.a 13)) (rotr s.a 22) + bits .xor .u32 (bits .xor .u32 (bits .and .u32 s.a s.b) (bits .and .u32 s.a s.c)) (bits .and .u32 s.b s.c)) % 4294967296
def S8.rnd (s : S8) (k w : Int) : S8 := ⟨(s.t1 k w + s.t2) % 4294967296, s.a, s.b, s.c, (s.d + s.t1 k w) % 4294967296, s.e, s.f, s.g⟩
def kl : List Int := [1116352408, 1899447441, 3049323471, 3921009573, 961987163, 1508970993, 2453635748, 2870763221, 3624381080, 310598401, 607225278, 1426881987, 1925078388, 2162078206, 2614888103, 3248222580, 3835390401, 4022224774, 264347078, 604807628, 770255983, 1249150122, 1555081692, 1996064986, 2554220882, 2821834349, 2952996808, 3210313671, 3336571891, 3584528711, 113926993, 338241895, 666307205, 773529912, 1294757372, 1396182291, 1695183700, 1986661051, 2177026350, 2456956037, 2730485921, 2820302411, 3259730800, 3345764771, 3516065817, 3600352804, 4094571909, 275423344, 430227734, 506948616, 659060556, 883997877, 958139571, 1322822218, 1537002063, 1747873779, 1955562222, 2024104815, 2227730452, 2361852424, 2428436474, 2756734187, 3204031479, 3329325298]
def rl (ws : List Int) : Nat → S8 → S8
  | 0, s => s
  | i + 1, s => (rl ws i s).rnd (kl.getD i 0) (ws.getD i 0)
def S8.add (s t : S8) : S8 := ⟨(s.a + t.a) % 4294967296, (s.b + t.b) % 4294967296, (s.c + t.c) % 4294967296, (s.d + t.d) % 4294967296, (s.e + t.e) % 4294967296, (s.f + t.f) % 4294967296, (s.g + t.g) % 4294967296, (s.h + t.h) % 4294967296⟩
def compress (s : S8) (bs : List Int) : S8 := s.add (rl (wl bs 64) 64 s)
def h0 : S8 := ⟨1779033703, 3144134277, 1013904242, 2773480762, 1359893119, 2600822924, 528734635, 1541459225⟩
def feed (x : S8 × List Int) (b : Int) : S8 × List Int := if x.2.length = 63 then (compress x.1 (x.2 ++ [b]), []) else (x.1, x.2 ++ [b])
end Go.Proofs.YtopcnkejobomaaaGreat
namespace Go.Proofs.YtopcnkejobomaaaGreat
@[simp] theorem kd_lit (n : Nat) : (OfNat.ofNat n : Kd) = Kd.ty n := rfl
theorem rot_k (x : Int) (k : Int) (c : Nat) (w : World) (h : Wd x) (hc : 0 < c ∧ c < 32) (hk : bits .and .u64 (k % 18446744073709551616) 31 = ((32 - c : Nat) : Int)) :
    Calls Tryz.prog 151 #[.int .u32 x, .int .i64 k] w fun e w' => e = .returned (.int .u32 (rotr x c)) ∧ w = w' := by
  obtain ⟨h0, h1⟩ := h
  refine C_math_bits_RotateLeft32 ?_
  unfold F_math_bits_RotateLeft32
  refine mop_c trivial ?_
  refine mop_c trivial ?_
  rw [hk]
  (repeat (first | (refine mop_c ?_ ?_; first | exact trivial | omega) | (refine dp_c ?_ ?_; first | exact trivial | omega)))
  refine ⟨?_, rfl⟩
  have e1 : ((32 - c : Nat) : Int).toNat = 32 - c := by omega
  have e2 : ((32 - ((32 - c : Nat) : Int)) % 18446744073709551616).toNat = c := by omega
  rw [e1, e2, bits_or_comm]
  rfl
theorem turned_k (x : Int) (c : Nat) (w : World) (h : Wd x) (hc : 0 < c ∧ c < 32) :
    Calls Tryz.prog 89 #[.int .u32 x, .int .u64 (c : Int)] w fun e w' => e = .returned (.int .u32 (rotr x c)) ∧ w = w' := by
  obtain ⟨h0, h1⟩ := h
  refine C_bevyref02_turned ?_
  unfold F_bevyref02_turned
  (repeat (first | (refine mop_c ?_ ?_; first | exact trivial | omega) | (refine dp_c ?_ ?_; first | exact trivial | omega)))
  refine ⟨?_, rfl⟩
  have e1 : ((c : Nat) : Int).toNat = c := by omega
  have e2 : ((32 - (c : Int)) % 18446744073709551616).toNat = 32 - c := by omega
  rw [e1, e2]
  rfl
end Go.Proofs.YtopcnkejobomaaaGreat
namespace Go.Proofs.YtopcnkejobomaaaGreat
open Go.RowKit
theorem wl_len (bs : List Int) : ∀ i, (wl bs i).length = i
  | 0 => rfl
  | i + 1 => by rw [wl, List.length_append, wl_len bs i]; rfl
theorem wl_old (bs : List Int) (i j : Nat) (h : j < i) : (wl bs (i + 1)).getD j 0 = (wl bs i).getD j 0 := by
  rw [wl, List.getD_eq_getElem?_getD, List.getElem?_append_left (by rw [wl_len]; exact h)]
  rfl
theorem wl_new (bs : List Int) (i : Nat) : (wl bs (i + 1)).getD i 0 = if i < 16 then word4 (bs.getD (4 * i) 0) (bs.getD (4 * i + 1) 0) (bs.getD (4 * i + 2) 0) (bs.getD (4 * i + 3) 0)
      else nextw ((wl bs i).getD (i - 16) 0) ((wl bs i).getD (i - 7) 0) ((wl bs i).getD (i - 15) 0) ((wl bs i).getD (i - 2) 0) := by
  conv => lhs; rw [wl]
  rw [List.getD_eq_getElem?_getD, List.getElem?_append_right (by rw [wl_len]; exact Nat.le_refl _), wl_len, Nat.sub_self]
  rfl
theorem wl_wd (bs : List Int) : ∀ i j, Wd ((wl bs i).getD j 0)
  | 0, j => by simp [wl, Wd]
  | i + 1, j => by
    rcases Nat.lt_trichotomy j i with h | h | h
    · rw [wl_old bs i j h]; exact wl_wd bs i j
    · subst h
      rw [wl_new]
      split
      · exact wd_or _ _
      · exact wd_mod _
    · rw [List.getD_eq_getElem?_getD, List.getElem?_eq_none (by rw [wl_len]; omega)]
      simp [Wd]
def stCells (hs bl : List Int) (n : Int) : List Value := u32s hs ++ (u8s bl ++ (Value.int .i64 n :: u32s kl))
theorem kl_len : kl.length = 64 := by decide
section
variable {hs bl : List Int} {n : Int}
theorem st_len (hh : hs.length = 8) (hb : bl.length = 64) : (stCells hs bl n).length = 137 := by
  simp [stCells, u32s, u8s, hh, hb, kl_len]
theorem st_h (hh : hs.length = 8) (i : Nat) (hi : i < 8) : (stCells hs bl n)[i]? = some (.int .u32 (hs.getD i 0)) := by
  rw [stCells, List.getElem?_append_left (by simp [u32s]; omega), u32s_at _ _ (by omega)]
theorem st_b (hh : hs.length = 8) (hb : bl.length = 64) (i : Nat) (hi : i < 64) : (stCells hs bl n)[8 + i]? = some (.int .u8 (bl.getD i 0)) := by
  rw [stCells, List.getElem?_append_right (by simp [u32s]; omega), List.getElem?_append_left (by simp [u32s, u8s]; omega)]
  rw [show 8 + i - (u32s hs).length = i by simp [u32s]; omega, u8s_at _ _ (by omega)]
theorem st_n (hh : hs.length = 8) (hb : bl.length = 64) : (stCells hs bl n)[72]? = some (.int .i64 n) := by
  rw [stCells, List.getElem?_append_right (by simp [u32s]; omega), List.getElem?_append_right (by simp [u32s, u8s]; omega)]
  rw [show 72 - (u32s hs).length - (u8s bl).length = 0 by simp [u32s, u8s]; omega]
  rfl
theorem st_k (hh : hs.length = 8) (hb : bl.length = 64) (i : Nat) (hi : i < 64) : (stCells hs bl n)[73 + i]? = some (.int .u32 (kl.getD i 0)) := by
  rw [stCells, List.getElem?_append_right (by simp [u32s]; omega), List.getElem?_append_right (by simp [u32s, u8s]; omega)]
  rw [show 73 + i - (u32s hs).length - (u8s bl).length = i + 1 by simp [u32s, u8s]; omega, List.getElem?_cons_succ, u32s_at _ _ (by rw [kl_len]; exact hi)]
theorem st_set_h (hh : hs.length = 8) (i : Nat) (hi : i < 8) (v : Int) : (stCells hs bl n).set i (.int .u32 v) = stCells (hs.set i v) bl n := by
  rw [stCells, stCells, List.set_append, if_pos (by simp [u32s]; omega)]
  simp [u32s, List.map_set]
theorem st_set_n (hh : hs.length = 8) (hb : bl.length = 64) (v : Int) : (stCells hs bl n).set 72 (.int .i64 v) = stCells hs bl v := by
  rw [stCells, stCells, List.set_append, if_neg (by simp [u32s]; omega), List.set_append, if_neg (by simp [u32s, u8s]; omega)]
  rw [show 72 - (u32s hs).length - (u8s bl).length = 0 by simp [u32s, u8s]; omega]
  rfl
end
theorem getD_bd (l : List Int) (i : Nat) (h : ∀ x ∈ l, 0 ≤ x ∧ x < 256) : 0 ≤ l.getD i 0 ∧ l.getD i 0 < 256 := by
  rw [List.getD_eq_getElem?_getD]
  cases hx : l[i]? with
  | none => simp
  | some x => exact h x (List.mem_of_getElem? hx)
theorem getD_wd (l : List Int) (i : Nat) (h : ∀ x ∈ l, Wd x) : Wd (l.getD i 0) := by
  rw [List.getD_eq_getElem?_getD]
  cases hx : l[i]? with
  | none => simp [Wd]
  | some x => exact h x (List.mem_of_getElem? hx)
def wk (bl : List Int) (k : Nat) : List Int := wl bl k ++ List.replicate (64 - k) 0
theorem wk_len (bl : List Int) (k : Nat) (h : k ≤ 64) : (wk bl k).length = 64 := by simp [wk, wl_len]; omega
theorem wk_at (bl : List Int) (k j : Nat) (h : j < k) : (u32s (wk bl k))[j]? = some (.int .u32 ((wl bl k).getD j 0)) := by
  rw [u32s_at _ _ (by simp [wk, wl_len]; omega), wk]
  congr 2
  rw [List.getD_eq_getElem?_getD, List.getElem?_append_left (by rw [wl_len]; exact h)]
  rfl
theorem wk_set (bl : List Int) (k : Nat) (h : k < 64) (v : Int) (hv : (wl bl (k + 1)).getD k 0 = v) : (u32s (wk bl k)).set k (.int .u32 v) = u32s (wk bl (k + 1)) := by
  have e : wl bl (k + 1) = wl bl k ++ [v] := by
    rw [wl]
    rw [wl_new] at hv
    rw [hv]
  unfold u32s wk
  rw [← List.map_set, List.set_append, if_neg (by rw [wl_len]; omega), wl_len, Nat.sub_self, e, List.append_assoc]
  congr 2
  rw [show 64 - k = (64 - (k + 1)) + 1 by omega, List.replicate_succ]
  rfl
def s8 (hs : List Int) : S8 := ⟨hs.getD 0 0, hs.getD 1 0, hs.getD 2 0, hs.getD 3 0, hs.getD 4 0, hs.getD 5 0, hs.getD 6 0, hs.getD 7 0⟩
def S8.list (s : S8) : List Int := [s.a, s.b, s.c, s.d, s.e, s.f, s.g, s.h]
structure S8.Ok (s : S8) : Prop where
  a : Wd s.a
  b : Wd s.b
  c : Wd s.c
  d : Wd s.d
  e : Wd s.e
  f : Wd s.f
  g : Wd s.g
  h : Wd s.h
theorem rl_ok (ws : List Int) {s : S8} (h : s.Ok) : ∀ i, (rl ws i s).Ok
  | 0 => h
  | i + 1 => by
    have h := rl_ok ws h i
    exact ⟨wd_mod _, h.a, h.b, h.c, wd_mod _, h.e, h.f, h.g⟩
def addK (hs ts : List Int) : Nat → List Int
  | 0 => hs
  | i + 1 => (addK hs ts i).set i ((hs.getD i 0 + ts.getD i 0) % 4294967296)
theorem addK_len (hs ts : List Int) : ∀ i, (addK hs ts i).length = hs.length
  | 0 => rfl
  | i + 1 => by rw [addK, List.length_set, addK_len hs ts i]
theorem addK_at (hs ts : List Int) : ∀ i j, i ≤ j → (addK hs ts i).getD j 0 = hs.getD j 0
  | 0, j, _ => rfl
  | i + 1, j, h => by
    rw [addK, List.getD_eq_getElem?_getD, List.getElem?_set_ne (by omega), ← List.getD_eq_getElem?_getD]
    exact addK_at hs ts i j (by omega)
theorem addK_end (hs : List Int) (s : S8) (hh : hs.length = 8) : addK hs s.list 8 = ((s8 hs).add s).list := by
  match hs, hh with
  | [a, b, c, d, e, f, g, h], _ => rfl
theorem build8 (a b c d e f g h : Int) : Pur Tryz.prog (o_build 126 [(0, .int .u32 a), (1, .int .u32 b), (2, .int .u32 c), (3, .int .u32 d), (4, .int .u32 e), (5, .int .u32 f), (6, .int .u32 g), (7, .int .u32 h)])
  (.agg (u32s [a, b, c, d, e, f, g, h]).toArray) := fun w => by kernel_rfl
set_option maxRecDepth 100000 in
set_option maxHeartbeats 2000000 in
theorem turn_ok (b : Nat) (hs bl : List Int) (n : Int) (w : World) (hb : Blf w b 131 (stCells hs bl n)) (hh : hs.length = 8) (hbl : bl.length = 64) (hby : ∀ x ∈ bl, 0 ≤ x ∧ x < 256) (hhw : ∀ x ∈ hs, Wd x) :
    Calls Tryz.prog 129 #[.pointer (some ⟨b, 0, none⟩)] w fun e w' => e = .returned (.tuple #[]) ∧ St w [⟨b, 131, stCells (compress (s8 hs) bl).list bl n, false⟩] w' := by
  refine C_sha_state_turn ?_
  unfold F_sha_state_turn
  refine mop_new (St.oneF hb) (fun g w1 h1 => ?_)
  refine ⟨fun x w2 => ∃ k : Nat, k ≤ 16 ∧ x = .int .i64 k ∧ St w [⟨g, 127, u32s (wk bl k), true⟩, ⟨b, 131, stCells hs bl n, false⟩] w2, fun x _ => 16 - (intOf x).toNat, ⟨0, by omega, rfl, h1⟩, ?_⟩
  rintro x21 u w2 ⟨k, hk, rfl, h2⟩
  refine mop_c trivial ?_
  refine mif_dec (fun hlt => ?_) (fun hge => ?_)
  · have q0 := getD_bd bl (4 * k) hby
    have q1 := getD_bd bl (4 * k + 1) hby
    have q2 := getD_bd bl (4 * k + 2) hby
    have q3 := getD_bd bl (4 * k + 3) hby
    (repeat (first | (refine mop_c ?_ ?_; first | exact trivial | omega) | (refine dp_c ?_ ?_; first | exact trivial | omega)))
    refine dq_ld ((h2.cell 1 rfl (8 + 4 * k)).trans (st_b hh hbl (4 * k) (by omega))) (by omega) ?_
    (repeat (first | (refine mop_c ?_ ?_; first | exact trivial | omega) | (refine dp_c ?_ ?_; first | exact trivial | omega)))
    refine dq_ld ((h2.cell 1 rfl (8 + (4 * k + 1))).trans (st_b hh hbl (4 * k + 1) (by omega))) (by omega) ?_
    (repeat (first | (refine mop_c ?_ ?_; first | exact trivial | omega) | (refine dp_c ?_ ?_; first | exact trivial | omega)))
    refine dq_ld ((h2.cell 1 rfl (8 + (4 * k + 2))).trans (st_b hh hbl (4 * k + 2) (by omega))) (by omega) ?_
    (repeat (first | (refine mop_c ?_ ?_; first | exact trivial | omega) | (refine dp_c ?_ ?_; first | exact trivial | omega)))
    refine dq_ld ((h2.cell 1 rfl (8 + (4 * k + 3))).trans (st_b hh hbl (4 * k + 3) (by omega))) (by omega) ?_
    (repeat (first | (refine mop_c ?_ ?_; first | exact trivial | omega) | (refine dp_c ?_ ?_; first | exact trivial | omega)))
    refine df_st (j := k) h2 (by omega) (by simp [u32s, wk_len bl k (by omega)]; omega) rfl (fun w3 h3 => ?_)
    refine dend_intro fun w4 hd => ?_
    have h4 := h3.drawn hd
    (repeat (first | (refine mop_c ?_ ?_; first | exact trivial | omega) | (refine dp_c ?_ ?_; first | exact trivial | omega)))
    refine ⟨⟨k + 1, by omega, rfl, ?_⟩, by simp [intOf]; omega⟩
    rw [wk_set bl k (by omega)] at h4
    · exact h4
    · rw [wl_new, if_pos (by omega)]
      rfl
  · obtain rfl : k = 16 := by omega
    refine ⟨fun x w2 => ∃ k : Nat, 16 ≤ k ∧ k ≤ 64 ∧ x = .int .i64 k ∧ St w [⟨g, 127, u32s (wk bl k), true⟩, ⟨b, 131, stCells hs bl n, false⟩] w2, fun x _ => 64 - (intOf x).toNat, ⟨16, by omega, by omega, rfl, h2⟩, ?_⟩
    clear h1 h2
    rintro x5 u2 w3 ⟨k, hk0, hk, rfl, h3⟩
    refine mop_c trivial ?_
    refine mif_dec (fun hlt => ?_) (fun hge => ?_)
    · have d15 := wl_wd bl k (k - 15)
      have d2 := wl_wd bl k (k - 2)
      (repeat (first | (refine mop_c ?_ ?_; first | exact trivial | omega) | (refine dp_c ?_ ?_; first | exact trivial | omega)))
      refine dq_ld ((h3.cell 0 rfl (k - 15)).trans (wk_at bl k (k - 15) (by omega))) (by omega) ?_
      (repeat (first | (refine mop_c ?_ ?_; first | exact trivial | omega) | (refine dp_c ?_ ?_; first | exact trivial | omega)))
      refine dq_ld ((h3.cell 0 rfl (k - 2)).trans (wk_at bl k (k - 2) (by omega))) (by omega) ?_
      refine dend_intro fun w4 hd => ?_
      have h4 := h3.drawn hd
      (repeat (first | (refine mop_c ?_ ?_; first | exact trivial | omega) | (refine dp_c ?_ ?_; first | exact trivial | omega)))
      refine dq_ld ((h4.cell 0 rfl (k - 16)).trans (wk_at bl k (k - 16) (by omega))) (by omega) ?_
      (repeat (first | (refine mop_c ?_ ?_; first | exact trivial | omega) | (refine dp_c ?_ ?_; first | exact trivial | omega)))
      refine dq_ld ((h4.cell 0 rfl (k - 7)).trans (wk_at bl k (k - 7) (by omega))) (by omega) ?_
      (repeat (first | (refine mop_c ?_ ?_; first | exact trivial | omega) | (refine dp_c ?_ ?_; first | exact trivial | omega)))
      refine df_eq (fun w => rot_k _ (-7) 7 w d15 (by decide) (by decide)) fun w5 hd5 => ?_
      refine df_eq (fun w => rot_k _ (-18) 18 w d15 (by decide) (by decide)) fun w6 hd6 => ?_
      (repeat (first | (refine mop_c ?_ ?_; first | exact trivial | omega) | (refine dp_c ?_ ?_; first | exact trivial | omega)))
      refine df_eq (fun w => rot_k _ (-17) 17 w d2 (by decide) (by decide)) fun w7 hd7 => ?_
      refine df_eq (fun w => rot_k _ (-19) 19 w d2 (by decide) (by decide)) fun w8 hd8 => ?_
      (repeat (first | (refine mop_c ?_ ?_; first | exact trivial | omega) | (refine dp_c ?_ ?_; first | exact trivial | omega)))
      have h8 := h4.drawn (((hd5.trans hd6).trans hd7).trans hd8)
      refine df_st (j := k) h8 (by omega) (by simp [u32s, wk_len bl k hk]; omega) rfl (fun w9 h9 => ?_)
      refine dend_intro fun w10 hd10 => ?_
      have h10 := h9.drawn hd10
      (repeat (first | (refine mop_c ?_ ?_; first | exact trivial | omega) | (refine dp_c ?_ ?_; first | exact trivial | omega)))
      refine ⟨⟨k + 1, by omega, by omega, rfl, ?_⟩, by simp [intOf]; omega⟩
      rw [wk_set bl k (by omega)] at h10
      · exact h10
      · rw [wl_new, if_neg (by omega)]
        rfl
    · obtain rfl : k = 64 := by omega
      have hw : wk bl 64 = wl bl 64 := by simp [wk]
      have hWl : (wl bl 64).length = 64 := wl_len bl 64
      have hcomp : compress (s8 hs) bl = (s8 hs).add (rl (wl bl 64) 64 (s8 hs)) := rfl
      rw [hw] at h3
      rw [hcomp]
      clear hw hcomp
      generalize wl bl 64 = W at h3 hWl ⊢
      (repeat (first | (refine mop_c ?_ ?_; first | exact trivial | omega) | (refine dp_c ?_ ?_; first | exact trivial | omega)))
      refine dq_ld ((h3.cell 1 rfl 0).trans (st_h hh 0 (by omega))) rfl ?_
      (repeat (first | (refine mop_c ?_ ?_; first | exact trivial | omega) | (refine dp_c ?_ ?_; first | exact trivial | omega)))
      refine dq_ld ((h3.cell 1 rfl 1).trans (st_h hh 1 (by omega))) rfl ?_
      (repeat (first | (refine mop_c ?_ ?_; first | exact trivial | omega) | (refine dp_c ?_ ?_; first | exact trivial | omega)))
      refine dq_ld ((h3.cell 1 rfl 2).trans (st_h hh 2 (by omega))) rfl ?_
      (repeat (first | (refine mop_c ?_ ?_; first | exact trivial | omega) | (refine dp_c ?_ ?_; first | exact trivial | omega)))
      refine dq_ld ((h3.cell 1 rfl 3).trans (st_h hh 3 (by omega))) rfl ?_
      (repeat (first | (refine mop_c ?_ ?_; first | exact trivial | omega) | (refine dp_c ?_ ?_; first | exact trivial | omega)))
      refine dq_ld ((h3.cell 1 rfl 4).trans (st_h hh 4 (by omega))) rfl ?_
      (repeat (first | (refine mop_c ?_ ?_; first | exact trivial | omega) | (refine dp_c ?_ ?_; first | exact trivial | omega)))
      refine dq_ld ((h3.cell 1 rfl 5).trans (st_h hh 5 (by omega))) rfl ?_
      (repeat (first | (refine mop_c ?_ ?_; first | exact trivial | omega) | (refine dp_c ?_ ?_; first | exact trivial | omega)))
      refine dq_ld ((h3.cell 1 rfl 6).trans (st_h hh 6 (by omega))) rfl ?_
      (repeat (first | (refine mop_c ?_ ?_; first | exact trivial | omega) | (refine dp_c ?_ ?_; first | exact trivial | omega)))
      refine dq_ld ((h3.cell 1 rfl 7).trans (st_h hh 7 (by omega))) rfl ?_
      refine dend_intro fun w4 hd => ?_
      have h4 := h3.drawn hd
      clear h3
      have hok : (s8 hs).Ok := ⟨getD_wd _ _ hhw, getD_wd _ _ hhw, getD_wd _ _ hhw, getD_wd _ _ hhw, getD_wd _ _ hhw, getD_wd _ _ hhw, getD_wd _ _ hhw, getD_wd _ _ hhw⟩
      refine ⟨fun xa xb xc xd xe xf xg xh x w2 => ∃ i : Nat, i ≤ 64 ∧ x = .int .i64 i ∧ xa = .int .u32 (rl W i (s8 hs)).a ∧ xb = .int .u32 (rl W i (s8 hs)).b ∧ xc = .int .u32 (rl W i (s8 hs)).c ∧ xd = .int .u32 (rl W i (s8 hs)).d ∧
          xe = .int .u32 (rl W i (s8 hs)).e ∧ xf = .int .u32 (rl W i (s8 hs)).f ∧ xg = .int .u32 (rl W i (s8 hs)).g ∧ xh = .int .u32 (rl W i (s8 hs)).h ∧
          St w [⟨g, 127, u32s W, true⟩, ⟨b, 131, stCells hs bl n, false⟩] w2, fun _ _ _ _ _ _ _ _ x _ => 64 - (intOf x).toNat, ⟨0, by omega, rfl, rfl, rfl, rfl, rfl, rfl, rfl, rfl, rfl, h4⟩, ?_⟩
      clear h4 hd
      rintro xa xb xc xd xe xf xg xh x u3 w5 ⟨i, hi, rfl, rfl, rfl, rfl, rfl, rfl, rfl, rfl, rfl, h5⟩
      have hr := rl_ok W hok i
      have hrs : rl W (i + 1) (s8 hs) = (rl W i (s8 hs)).rnd (kl.getD i 0) (W.getD i 0) := rfl
      obtain ⟨s', hs'⟩ : ∃ s', s' = rl W (i + 1) (s8 hs) := ⟨_, rfl⟩
      obtain ⟨s, hs64⟩ : ∃ s, rl W i (s8 hs) = s := ⟨_, rfl⟩
      rw [← hs'] at hrs
      rw [hs64] at hr hrs
      rw [hs64]
      refine mop_c trivial ?_
      refine mif_dec (fun hlt => ?_) (fun hge => ?_)
      · refine df_eq (fun w => rot_k _ (-6) 6 w hr.e (by decide) (by decide)) fun w6 hd6 => ?_
        refine df_eq (fun w => rot_k _ (-11) 11 w hr.e (by decide) (by decide)) fun w7 hd7 => ?_
        (repeat (first | (refine mop_c ?_ ?_; first | exact trivial | omega) | (refine dp_c ?_ ?_; first | exact trivial | omega)))
        refine df_eq (fun w => rot_k _ (-25) 25 w hr.e (by decide) (by decide)) fun w8 hd8 => ?_
        (repeat (first | (refine mop_c ?_ ?_; first | exact trivial | omega) | (refine dp_c ?_ ?_; first | exact trivial | omega)))
        refine dq_ld ((h5.cell 1 rfl (73 + i)).trans (st_k hh hbl i (by omega))) (by omega) ?_
        (repeat (first | (refine mop_c ?_ ?_; first | exact trivial | omega) | (refine dp_c ?_ ?_; first | exact trivial | omega)))
        refine dq_ld ((h5.cell 0 rfl i).trans (u32s_at W i (by omega))) (by omega) ?_
        (repeat (first | (refine mop_c ?_ ?_; first | exact trivial | omega) | (refine dp_c ?_ ?_; first | exact trivial | omega)))
        refine dend_intro fun w9 hd9 => ?_
        have h9 := h5.drawn (((hd6.trans hd7).trans hd8).trans hd9)
        refine mop_eq (rot_k _ (-2) 2 _ hr.a (by decide) (by decide)) ?_
        refine mop_eq (rot_k _ (-13) 13 _ hr.a (by decide) (by decide)) ?_
        (repeat (first | (refine mop_c ?_ ?_; first | exact trivial | omega) | (refine dp_c ?_ ?_; first | exact trivial | omega)))
        refine mop_eq (rot_k _ (-22) 22 _ hr.a (by decide) (by decide)) ?_
        (repeat (first | (refine mop_c ?_ ?_; first | exact trivial | omega) | (refine dp_c ?_ ?_; first | exact trivial | omega)))
        refine ⟨⟨i + 1, by omega, rfl, ?_, ?_, ?_, ?_, ?_, ?_, ?_, ?_, h9⟩, by simp [intOf]; omega⟩
        all_goals (rw [← hs', hrs]; rfl)
      · obtain rfl : i = 64 := by omega
        refine mop_pur (build8 _ _ _ _ _ _ _ _) ?_
        have hrs : rl W 64 (s8 hs) = s := hs64
        refine ⟨fun x w2 => ∃ i : Nat, i ≤ 8 ∧ x = .int .i64 i ∧ St w [⟨b, 131, stCells (addK hs s.list i) bl n, false⟩, ⟨g, 127, u32s W, true⟩] w2, fun x _ => 8 - (intOf x).toNat, ⟨0, by omega, rfl, h5.swap⟩, ?_⟩
        clear h5
        rintro x u4 w6 ⟨i, hi, rfl, h6⟩
        refine mop_c trivial ?_
        refine mif_dec (fun hlt => ?_) (fun hge => ?_)
        · refine mop_pur (p_index_array _ 125 8 _ _ _ (.int .u32 (s.list.getD i 0)) (by kernel_rfl) (by kernel_rfl) (by omega) (by omega) ?_) ?_
          · have := u32s_at s.list i (by simp [S8.list]; omega)
            have e : ((i : Nat) : Int).toNat = i := by omega
            rw [e, List.getElem?_toArray]
            exact this
          have hal := addK_len hs s.list i
          (repeat (first | (refine mop_c ?_ ?_; first | exact trivial | omega) | (refine dp_c ?_ ?_; first | exact trivial | omega)))
          refine dq_ld ((h6.cell 0 rfl i).trans (st_h (by omega) i (by omega))) (by omega) ?_
          (repeat (first | (refine mop_c ?_ ?_; first | exact trivial | omega) | (refine dp_c ?_ ?_; first | exact trivial | omega)))
          refine df_st (j := i) h6 (by omega) (by rw [st_len (by omega) hbl]; omega) rfl (fun w7 h7 => ?_)
          refine dend_intro fun w8 hd8 => ?_
          have h8 := h7.drawn hd8
          (repeat (first | (refine mop_c ?_ ?_; first | exact trivial | omega) | (refine dp_c ?_ ?_; first | exact trivial | omega)))
          refine ⟨⟨i + 1, by omega, rfl, ?_⟩, by simp [intOf]; omega⟩
          rw [st_set_h (by omega) i (by omega), addK_at hs s.list i i (Nat.le_refl i)] at h8
          exact h8
        · obtain rfl : i = 8 := by omega
          refine ⟨rfl, ?_⟩
          rw [hrs, ← addK_end hs s hh]
          exact h6.swap.drop
end Go.Proofs.YtopcnkejobomaaaGreat
namespace Go.Proofs.YtopcnkejobomaaaGreat
open Go.RowKit
def feedAll (x : S8 × List Int) (bs : List Int) : S8 × List Int := bs.foldl feed x
theorem feedAll_append (x : S8 × List Int) (a b : List Int) : feedAll x (a ++ b) = feedAll (feedAll x a) b := by simp [feedAll]
theorem feedAll_short (s : S8) : ∀ (bs p : List Int), p.length + bs.length < 64 → feedAll (s, p) bs = (s, p ++ bs)
  | [], p, _ => by simp [feedAll]
  | b :: bs, p, h => by
    have h1 : feed (s, p) b = (s, p ++ [b]) := by
      unfold feed
      rw [if_neg (by simp at h ⊢; omega)]
    show feedAll (feed (s, p) b) bs = _
    rw [h1, feedAll_short s bs (p ++ [b]) (by simp at h ⊢; omega)]
    simp
theorem feedAll_full (s : S8) (bs p : List Int) (hb : 0 < bs.length) (h : p.length + bs.length = 64) : feedAll (s, p) bs = (compress s (p ++ bs), []) := by
  obtain ⟨cs, c, rfl⟩ : ∃ cs c, bs = cs ++ [c] := ⟨bs.dropLast, bs.getLast (by intro e; simp [e] at hb), (List.dropLast_concat_getLast _).symm⟩
  rw [feedAll_append, feedAll_short s cs p (by simp at h; omega)]
  show feed (s, p ++ cs) c = _
  unfold feed
  rw [if_pos (by simp at h ⊢; omega)]
  simp
theorem compress_ok {s : S8} (bs : List Int) : (compress s bs).Ok := ⟨wd_mod _, wd_mod _, wd_mod _, wd_mod _, wd_mod _, wd_mod _, wd_mod _, wd_mod _⟩
structure Dig (x : S8 × List Int) (n : Nat) (bl : List Int) : Prop where
  ok : x.1.Ok
  len : bl.length = 64
  by_ : ∀ c ∈ bl, 0 ≤ c ∧ c < 256
  pend : x.2.length = n % 64
  has : bl.take x.2.length = x.2
theorem s8_list (s : S8) : s8 s.list = s := rfl
theorem list_wd {s : S8} (h : s.Ok) : ∀ x ∈ s.list, Wd x := by
  intro x hx
  simp only [S8.list, List.mem_cons, List.not_mem_nil, or_false] at hx
  rcases hx with rfl | rfl | rfl | rfl | rfl | rfl | rfl | rfl
  · exact h.a
  · exact h.b
  · exact h.c
  · exact h.d
  · exact h.e
  · exact h.f
  · exact h.g
  · exact h.h
def blCopy (bl bs : List Int) (i : Nat) : List Int := bl.take i ++ bs ++ bl.drop (i + bs.length)
theorem st_lay (hs bl bs : List Int) (n : Int) (i : Nat) (hh : hs.length = 8) (hb : bl.length = 64) (hi : i + bs.length ≤ 64) : lay (stCells hs bl n) (u8s bs) (8 + i) = stCells hs (blCopy bl bs i) n := by
  have e8 : (u32s hs).length = 8 := by simp [u32s, hh]
  have ebs : (u8s bs).length = bs.length := by simp [u8s]
  unfold lay stCells
  rw [List.take_append, List.take_of_length_le (by omega), List.drop_append, List.drop_eq_nil_of_le (by omega), e8, ebs]
  rw [show 8 + i - 8 = i by omega, show 8 + i + bs.length - 8 = i + bs.length by omega]
  rw [List.take_append_of_le_length (by simp [u8s]; omega), List.drop_append_of_le_length (by simp [u8s]; omega)]
  simp [u8s, blCopy]
theorem put_step {x : S8 × List Int} {n : Nat} {bl bs : List Int} (h : Dig x n bl) (hbs : ∀ c ∈ bs, 0 ≤ c ∧ c < 256) (hl : n % 64 + bs.length ≤ 64) (h0 : 0 < bs.length) :
    let bl' := blCopy bl bs (n % 64)
    (∀ c ∈ bl', 0 ≤ c ∧ c < 256) ∧ bl'.length = 64 ∧ (n % 64 + bs.length < 64 → Dig (feedAll x bs) (n + bs.length) bl' ∧ (feedAll x bs).1 = x.1) ∧ (n % 64 + bs.length = 64 → (feedAll x bs).1 = compress x.1 bl' ∧ Dig (feedAll x bs) (n + bs.length) bl') := by
  obtain ⟨s, p⟩ := x
  obtain ⟨hok, hlen, hby, hp, hhas⟩ := h
  simp only [] at hp hhas hok
  have hpn : p.length ≤ 64 := by omega
  have hb1 : ∀ c ∈ blCopy bl bs (n % 64), 0 ≤ c ∧ c < 256 := fun c hc => by
    simp only [blCopy, List.mem_append] at hc
    rcases hc with (hc | hc) | hc
    · exact hby c (List.mem_of_mem_take hc)
    · exact hbs c hc
    · exact hby c (List.mem_of_mem_drop hc)
  have hb2 : (blCopy bl bs (n % 64)).length = 64 := by simp [blCopy, hlen]; omega
  have hpre : (blCopy bl bs (n % 64)).take (p.length + bs.length) = p ++ bs := by
    unfold blCopy
    rw [hp] at hhas
    rw [hhas, hp, List.take_append_of_le_length (by simp [hp]), List.take_of_length_le (by simp [hp])]
  refine ⟨hb1, hb2, fun hlt => ?_, fun heq => ?_⟩
  · have e := feedAll_short s bs p (by omega)
    rw [e]
    exact ⟨⟨hok, hb2, hb1, by simp [hp]; omega, by simpa using hpre⟩, rfl⟩
  · have e := feedAll_full s bs p h0 (by omega)
    rw [e]
    have hall : blCopy bl bs (n % 64) = p ++ bs := by
      rw [← hpre, List.take_of_length_le (by omega)]
    refine ⟨by rw [hall], compress_ok _, hb2, hb1, ?_, rfl⟩
    simp
    omega
def strLen : Value → Nat
  | .string s => s.size
  | _ => 0
theorem ints_extract (s : ByteArray) (i j : Nat) : ints (s.extract i j) = ((ints s).take j).drop i := by
  simp [ints, List.map_drop, List.map_take]
  rw [List.drop_take]
theorem extract_extract (s : ByteArray) (k m : Nat) (h : k + m ≤ s.size) : (s.extract k s.size).extract m (s.size - k) = s.extract (k + m) s.size := by
  rw [← str_ints ((s.extract k s.size).extract m (s.size - k)), ← str_ints (s.extract (k + m) s.size), ints_extract, ints_extract, ints_extract]
  congr 1
  have hl := ints_length s
  have e : (ints s).take s.size = ints s := List.take_of_length_le (by omega)
  rw [e, List.take_of_length_le (by rw [List.length_drop]; omega), List.drop_drop]
set_option maxRecDepth 100000 in
theorem put_ok (b : Nat) (x : S8 × List Int) (n : Nat) (bl : List Int) (t : ByteArray) (w : World) (hb : Blf w b 131 (stCells x.1.list bl n)) (hd : Dig x n bl) (hn : n + t.size < 9223372036854775808) :
    Calls Tryz.prog 86 #[.pointer (some ⟨b, 0, none⟩), .string t] w fun e w' => e = .returned (.tuple #[]) ∧ ∃ bl', Dig (feedAll x (ints t)) (n + t.size) bl' ∧ St w [⟨b, 131, stCells (feedAll x (ints t)).1.list bl' ((n + t.size : Nat) : Int), false⟩] w' := by
  refine C_sha_state_put ?_
  unfold F_sha_state_put
  refine ⟨fun v w2 => ∃ (k : Nat) (bl' : List Int), k ≤ t.size ∧ v = .string (t.extract k t.size) ∧ Dig (feedAll x ((ints t).take k)) (n + k) bl' ∧ St w [⟨b, 131, stCells (feedAll x ((ints t).take k)).1.list bl' ((n + k : Nat) : Int), false⟩] w2, fun v _ => strLen v, ⟨0, bl, by omega, by simp, by simpa [feedAll] using hd, by simp [feedAll]; exact St.oneF hb⟩, ?_⟩
  rintro v u w1 ⟨k, bl', hk, rfl, hd1, h1⟩
  have hsz : (t.extract k t.size).size = t.size - k := by simp
  refine mop_c trivial ?_
  rw [hsz]
  refine mop_c trivial ?_
  refine mif_dec (fun hlt => ?_) (fun hge => ?_)
  · have hll : 0 < t.size - k := by omega
    (repeat (first | (refine mop_c ?_ ?_; first | exact trivial | omega) | (refine dp_c ?_ ?_; first | exact trivial | omega)))
    have hlist : (feedAll x ((ints t).take k)).1.list.length = 8 := rfl
    refine dq_ld ((h1.cell 0 rfl 72).trans (st_n hlist hd1.len)) rfl ?_
    (repeat (first | (refine mop_c ?_ ?_; first | exact trivial | omega) | (refine dp_c ?_ ?_; first | exact trivial | omega)))
    refine df_mop fun w2 hd2 => ?_
    have hi : ((((n + k : Nat) : Int)) % 64).toNat = (n + k) % 64 := by omega
    rw [hi]
    obtain ⟨w3, hr, h3⟩ := run_copy_string (P := Tryz.prog) (o := 0 + 8 + (n + k) % 64) (m := 64 - (n + k) % 64) (c := 64 - (n + k) % 64) (s := t.extract k t.size) (dT := 135) (sT := 9) (ty := 3) (e := 5) (ks := [false, false]) (h1.drawn hd2) (by kernel_rfl) (by kernel_rfl) (by rw [st_len hlist hd1.len]; omega)
    refine mop_run hr ⟨(fun e => by cases e), ?_⟩
    have hm : min (t.extract k t.size).size (64 - (n + k) % 64) = min (t.size - k) (64 - (n + k) % 64) := by rw [hsz]
    rw [hm] at h3 ⊢
    obtain ⟨m, hmm⟩ : ∃ m, m = min (t.size - k) (64 - (n + k) % 64) := ⟨_, rfl⟩
    rw [← hmm] at h3 ⊢
    have hbl : ((ints (t.extract k t.size)).take m).length = m := by rw [List.length_take, ints_length, hsz]; omega
    have hbr : ∀ c ∈ (ints (t.extract k t.size)).take m, 0 ≤ c ∧ c < 256 := fun c hc => ints_range _ c (List.mem_of_mem_take hc)
    rw [show 0 + 8 + (n + k) % 64 = 8 + (n + k) % 64 by omega, st_lay _ _ _ _ _ hlist hd1.len (by rw [hbl]; omega)] at h3
    have hstep := put_step hd1 hbr (by rw [hbl]; omega) (by rw [hbl]; omega)
    have hfeed : feedAll (feedAll x ((ints t).take k)) ((ints (t.extract k t.size)).take m) = feedAll x ((ints t).take (k + m)) := by
      have e : (ints t).take t.size = ints t := List.take_of_length_le (by rw [ints_length]; omega)
      rw [← feedAll_append, ints_extract, e, ← List.take_add]
    rw [hfeed, hbl] at hstep
    have hext := extract_extract t k m (by omega)
    generalize blCopy bl' ((ints (t.extract k t.size)).take m) ((n + k) % 64) = bl2 at h3 hstep
    obtain ⟨hby2, hlen2, hs1, hs2⟩ := hstep
    refine dend_intro fun w4 hd4 => ?_
    have h4 := h3.drawn hd4
    clear h1 h3 hr hfeed
    refine mop_c (by rw [hsz]; omega) ?_
    rw [hsz, Int.toNat_natCast, hext]
    (repeat (first | (refine mop_c ?_ ?_; first | exact trivial | omega) | (refine dp_c ?_ ?_; first | exact trivial | omega)))
    refine mop_ld ((h4.cell 0 rfl 72).trans (st_n hlist hlen2)) rfl ?_
    (repeat (first | (refine mop_c ?_ ?_; first | exact trivial | omega) | (refine dp_c ?_ ?_; first | exact trivial | omega)))
    refine mop_st (j := 72) h4 rfl (by rw [st_len hlist hlen2]; omega) rfl (fun w5 h5 => ?_)
    rw [st_set_n hlist hlen2] at h5
    (repeat (first | (refine mop_c ?_ ?_; first | exact trivial | omega) | (refine dp_c ?_ ?_; first | exact trivial | omega)))
    refine mop_ld ((h5.cell 0 rfl 72).trans (st_n hlist hlen2)) rfl ?_
    (repeat (first | (refine mop_c ?_ ?_; first | exact trivial | omega) | (refine dp_c ?_ ?_; first | exact trivial | omega)))
    have hsz2 : (t.extract (k + m) t.size).size = t.size - (k + m) := by simp
    have hnk : ((n + k : Nat) : Int) + (m : Int) = ((n + (k + m) : Nat) : Int) := by omega
    rw [hnk] at h5 ⊢
    refine mif_dec (fun hz => ?_) (fun hnz => ?_)
    · obtain ⟨hs3, hs4⟩ := hs2 (by omega)
      refine mop_to (turn_ok b _ bl2 _ w5 h5.head hlist hlen2 hby2 (list_wd hd1.ok)) ?_
      rintro e w6 ⟨rfl, h6⟩
      have h7 := h5.call1 h6
      rw [s8_list, ← hs3] at h7
      exact ⟨⟨k + m, bl2, by omega, rfl, by rw [← Nat.add_assoc]; exact hs4, h7⟩, by simp only [strLen, hsz, hsz2]; omega⟩
    · obtain ⟨hs3, hs4⟩ := hs1 (by omega)
      rw [← hs4] at h5
      exact ⟨⟨k + m, bl2, by omega, rfl, by rw [← Nat.add_assoc]; exact hs3, h5⟩, by simp only [strLen, hsz, hsz2]; omega⟩
  · obtain rfl : k = t.size := by omega
    have e : (ints t).take t.size = ints t := List.take_of_length_le (by rw [ints_length]; omega)
    rw [e] at hd1 h1
    exact ⟨rfl, bl', hd1, h1⟩
end Go.Proofs.YtopcnkejobomaaaGreat
namespace Go.Proofs.YtopcnkejobomaaaGreat
open Go.RowKit
def lenB (n : Nat) (i : Nat) : Int := ((n : Int) % 18446744073709551616 * 8 % 18446744073709551616) / 2 ^ (56 - 8 * (i : Int)).toNat % 256
def padding (n : Nat) : List Int := (128 :: List.replicate (63 - (n + 8) % 64) 0) ++ (List.range 8).map (lenB n)
def outAt (l : List Int) (i : Nat) : Int := l.getD (i / 4) 0 / 2 ^ (24 - 8 * (i % 4)) % 256
def outB (s : S8) : List Int := (List.range 32).map (outAt s.list)
def shaSum (bs : List Int) : List Int := outB (feedAll (h0, []) (bs ++ padding bs.length)).1
theorem shaSum_length (bs : List Int) : (shaSum bs).length = 32 := by simp [shaSum, outB]
theorem outB_range (s : S8) : ∀ x ∈ outB s, 0 ≤ x ∧ x < 256 := by
  intro x hx
  obtain ⟨i, _, rfl⟩ := List.mem_map.1 hx
  unfold outAt
  omega
theorem shaSum_range (bs : List Int) : ∀ x ∈ shaSum bs, 0 ≤ x ∧ x < 256 := outB_range _
def fill (f : Nat → Int) (n i : Nat) : List Int := (List.range i).map f ++ List.replicate (n - i) 0
theorem fill_length (f : Nat → Int) (n i : Nat) (h : i ≤ n) : (fill f n i).length = n := by simp [fill]; omega
theorem fill_set (f : Nat → Int) (n i : Nat) (h : i < n) : (fill f n i).set i (f i) = fill f n (i + 1) := by
  unfold fill
  rw [List.set_append, if_neg (by simp), List.length_map, List.length_range, Nat.sub_self, List.range_succ, List.map_append, List.append_assoc]
  congr 1
  rw [show n - i = (n - (i + 1)) + 1 by omega, List.replicate_succ]
  rfl
theorem set_u8s (l : List Int) (i : Nat) (v : Int) : (u8s l).set i (.int .u8 v) = u8s (l.set i v) := by simp [u8s, List.map_set]
theorem u8s_length (l : List Int) : (u8s l).length = l.length := by simp [u8s]
def hv (l : List Int) : Value := .agg (u8s l).toArray
theorem cells_of_row {w : World} {b : Nat} {t : TypeId} {cs : List Value} (h : Blf w b t cs) : ∀ k v, cs[k]? = some v → w.cell? ⟨b, 0 + k, none⟩ = some v := fun k v hk => by
  rw [Nat.zero_add, h.cell]; exact hk
theorem lay_all (cs vs : List Value) (h : vs.length = cs.length) : lay cs vs 0 = vs := by
  unfold lay
  rw [List.take_zero, List.nil_append, List.drop_eq_nil_of_le (by omega), List.append_nil]
set_option maxRecDepth 100000 in
theorem rounds_ok (w : World) : Calls Tryz.prog 85 #[] w fun e w' => e = .returned (.agg (u32s kl).toArray) ∧ St w [] w' := by
  refine C_sha_rounds ?_
  unfold F_sha_rounds
  refine mop_new (St.nil w) (fun g w1 h1 => ?_)
  refine mop_pur (v := .agg (u32s kl).toArray) (fun w => by kernel_rfl) ?_
  refine mop_storeN (q := true) (k := 64) (by kernel_rfl) h1 rfl (by intro u hu; obtain ⟨x, _, rfl⟩ := List.mem_map.1 (show u ∈ kl.map (Value.int .u32) from hu); rfl) (by simp) (fun w2 h2 => ?_)
  have e : lay (List.replicate 64 (Value.int .u32 0)) (Value.agg (u32s kl).toArray).cells.toList 0 = u32s kl := lay_all _ _ rfl
  rw [e] at h2
  refine rcell_ldN (cells_of_row h2.head) rfl ?_
  exact ⟨rfl, h2.drop⟩
def cat (ss : List ByteArray) : List Int := (ss.map ints).flatten
theorem cat_take (ss : List ByteArray) (k : Nat) (h : k < ss.length) : cat (ss.take (k + 1)) = cat (ss.take k) ++ ints ss[k] := by
  unfold cat
  rw [List.take_succ_eq_append_getElem h, List.map_append, List.flatten_append]
  simp only [List.map_cons, List.map_nil, List.flatten_cons, List.flatten_nil, List.append_nil]
theorem cat_append (a b : List ByteArray) : cat (a ++ b) = cat a ++ cat b := by simp only [cat, List.map_append, List.flatten_append]
theorem cat_le (ss : List ByteArray) (k : Nat) : (cat (ss.take k)).length ≤ (cat ss).length := by
  conv => rhs; rw [← List.take_append_drop k ss, cat_append, List.length_append]
  omega
theorem lenB_range (n i : Nat) : 0 ≤ lenB n i ∧ lenB n i < 256 := by unfold lenB; omega
theorem padding_range (n : Nat) : ∀ x ∈ padding n, 0 ≤ x ∧ x < 256 := by
  intro x hx
  simp only [padding, List.mem_append, List.mem_cons, List.mem_replicate, List.mem_map] at hx
  rcases hx with (rfl | ⟨_, rfl⟩) | ⟨i, _, rfl⟩
  · omega
  · omega
  · exact lenB_range n i
theorem dig0 : Dig (h0, []) 0 (List.replicate 64 0) := by
  refine ⟨⟨?_, ?_, ?_, ?_, ?_, ?_, ?_, ?_⟩, by simp, ?_, rfl, by simp⟩
  all_goals first
    | (constructor <;> decide)
    | (intro c hc; rw [List.eq_of_mem_replicate hc]; omega)
def tailK (n z i : Nat) : List Int := (128 :: List.replicate z 0) ++ fill (lenB n) (71 - z) i
theorem tailK_length (n z i : Nat) (hz : z ≤ 63) (hi : i ≤ 8) : (tailK n z i).length = 72 := by
  simp [tailK, fill_length (lenB n) (71 - z) i (by omega)]; omega
theorem tailK_set (n z i : Nat) (hz : z ≤ 63) (hi : i < 8) : (tailK n z i).set (z + 1 + i) (lenB n i) = tailK n z (i + 1) := by
  unfold tailK
  rw [List.set_append, if_neg (by simp), List.length_cons, List.length_replicate, show z + 1 + i - (z + 1) = i by omega, fill_set _ _ _ (by omega)]
theorem tailK_zero (n z : Nat) (hz : z ≤ 63) : (List.replicate 72 (0 : Int)).set 0 128 = tailK n z 0 := by
  unfold tailK fill
  rw [show 72 = (z + (71 - z)) + 1 by omega, List.replicate_succ, List.set_cons_zero, ← List.replicate_append_replicate]
  simp
theorem tailK_end (n : Nat) : (tailK n (63 - (n + 8) % 64) 8).take (63 - (n + 8) % 64 + 9) = padding n := by
  unfold tailK fill padding
  rw [← List.append_assoc, List.take_append_of_le_length (by simp), List.take_of_length_le (by simp)]
set_option maxRecDepth 100000 in
set_option maxHeartbeats 1000000 in
theorem sum_ok (A : Option Addr) (ss : List ByteArray) (c : Nat) (w : World) (hr : Rd w A (ss.map .string)) (hss : ss.length < 9223372036854775807) (hsz : (cat ss).length < 4611686018427387904) :
    Calls Tryz.prog 40 #[.slice A ss.length c] w fun e w' => e = .returned (hv (shaSum (cat ss))) ∧ St w [] w' := by
  refine C_sha_Sum ?_
  unfold F_sha_Sum
  refine mop_new (St.nil w) (fun go w1 h1 => ?_)
  refine mop_pur (build8 _ _ _ _ _ _ _ _) ?_
  refine mop_to (rounds_ok w1) ?_
  rintro e w2 ⟨rfl, h2⟩
  have h2 := h1.call0 h2
  refine mop_pur (v := .agg (stCells h0.list (List.replicate 64 0) 0).toArray) (fun w => by kernel_rfl) ?_
  refine mop_box h2 (fun b w3 h3 => ?_)
  have h3 : St w [⟨b, 131, stCells h0.list (List.replicate 64 0) 0, true⟩, ⟨go, 33, u8s (List.replicate 32 0), true⟩] w3 := h3
  clear h1 h2
  refine mop_c trivial ?_
  refine ⟨fun v w2 => ∃ (k : Nat) (bl : List Int), k ≤ ss.length ∧ v = .int .i64 k ∧ Dig (feedAll (h0, []) (cat (ss.take k))) (cat (ss.take k)).length bl ∧
      St w [⟨b, 131, stCells (feedAll (h0, []) (cat (ss.take k))).1.list bl ((cat (ss.take k)).length : Int), true⟩, ⟨go, 33, u8s (List.replicate 32 0), true⟩] w2, fun v _ => ss.length - (intOf v).toNat, ⟨0, _, by omega, rfl, dig0, h3⟩, ?_⟩
  clear h3
  rintro v u w4 ⟨k, bl, hk, rfl, hd, h4⟩
  refine mop_c trivial ?_
  refine mif_dec (fun hlt => ?_) (fun hge => ?_)
  · have hk' : k < ss.length := by omega
    have x0 : (ss.map Value.string)[k]? = some (.string ss[k]) := by simp [hk']
    obtain ⟨ab, ao, rfl, hab, hc⟩ := hr.at_ x0
    (repeat (first | (refine mop_c ?_ ?_; first | exact trivial | omega) | (refine dp_c ?_ ?_; first | exact trivial | omega)))
    refine mop_ld (j := ao + k) ((h4.old (p := ⟨ab, ao + k, none⟩) hab (by intro q hq hn; simp at hq; rcases hq with rfl | rfl <;> cases hn)).trans (hc k _ x0)) (by omega) ?_
    have hcl := cat_le ss (k + 1)
    rw [cat_take ss k hk', List.length_append, ints_length] at hcl
    refine mop_to (put_ok b _ _ bl ss[k] w4 h4.head hd (by omega)) ?_
    rintro e w5 ⟨rfl, bl', hd5, h5⟩
    have h6 := h4.call1 h5
    (repeat (first | (refine mop_c ?_ ?_; first | exact trivial | omega) | (refine dp_c ?_ ?_; first | exact trivial | omega)))
    rw [← feedAll_append, ← ints_length, ← List.length_append, ← cat_take ss k hk'] at hd5 h6
    exact ⟨⟨k + 1, bl', hk', rfl, hd5, h6⟩, by simp [intOf]; omega⟩
  · obtain rfl : k = ss.length := by omega
    rw [List.take_length] at hd h4
    obtain ⟨n, hn⟩ : ∃ n, n = (cat ss).length := ⟨_, rfl⟩
    have hsum : shaSum (cat ss) = outB (feedAll (feedAll (h0, []) (cat ss)) (padding n)).1 := by rw [shaSum, feedAll_append, hn]
    rw [hsum]
    rw [← hn] at hd h4 hsz
    generalize feedAll (h0, []) (cat ss) = x at hd h4
    have hl8 : x.1.list.length = 8 := rfl
    refine mop_new h4 (fun gt w5 h5 => ?_)
    (repeat (first | (refine mop_c ?_ ?_; first | exact trivial | omega) | (refine dp_c ?_ ?_; first | exact trivial | omega)))
    refine mop_st (j := 0) h5 rfl (by simp) rfl (fun w6 h6 => ?_)
    (repeat (first | (refine mop_c ?_ ?_; first | exact trivial | omega) | (refine dp_c ?_ ?_; first | exact trivial | omega)))
    refine mop_ld ((h6.cell 1 rfl 72).trans (st_n hl8 hd.len)) rfl ?_
    (repeat (first | (refine mop_c ?_ ?_; first | exact trivial | omega) | (refine dp_c ?_ ?_; first | exact trivial | omega)))
    have hz : (64 : Int) - ((n : Int) + 8) % 64 = ((63 - (n + 8) % 64 + 1 : Nat) : Int) := by omega
    rw [hz]
    have h6 : St w [⟨gt, 133, u8s (tailK n (63 - (n + 8) % 64) 0), true⟩, ⟨b, 131, stCells x.1.list bl (n : Int), true⟩, ⟨go, 33, u8s (List.replicate 32 0), true⟩] w6 := by
      rw [← tailK_zero n (63 - (n + 8) % 64) (by omega), ← set_u8s]
      exact h6
    have hend := tailK_end n
    obtain ⟨z, hzz⟩ : ∃ z, z = 63 - (n + 8) % 64 := ⟨_, rfl⟩
    rw [← hzz] at h6 hend ⊢
    have hz63 : z ≤ 63 := by omega
    clear hz hzz
    refine ⟨fun v w2 => ∃ i : Nat, i ≤ 8 ∧ v = .int .i64 i ∧ St w [⟨gt, 133, u8s (tailK n z i), true⟩, ⟨b, 131, stCells x.1.list bl (n : Int), true⟩, ⟨go, 33, u8s (List.replicate 32 0), true⟩] w2, fun v _ => 8 - (intOf v).toNat, ⟨0, by omega, rfl, h6⟩, ?_⟩
    clear h4 h5 h6
    rintro v u2 w7 ⟨i, hi, rfl, h7⟩
    refine mop_c trivial ?_
    refine mif_dec (fun hlt => ?_) (fun hge => ?_)
    · (repeat (first | (refine mop_c ?_ ?_; first | exact trivial | omega) | (refine dp_c ?_ ?_; first | exact trivial | omega)))
      refine mop_ld ((h7.cell 1 rfl 72).trans (st_n hl8 hd.len)) rfl ?_
      (repeat (first | (refine mop_c ?_ ?_; first | exact trivial | omega) | (refine dp_c ?_ ?_; first | exact trivial | omega)))
      refine mop_st (j := z + 1 + i) h7 (by omega) (by rw [u8s_length, tailK_length n z i hz63 (by omega)]; omega) rfl (fun w8 h8 => ?_)
      have h8 : St w [⟨gt, 133, u8s (tailK n z (i + 1)), true⟩, ⟨b, 131, stCells x.1.list bl (n : Int), true⟩, ⟨go, 33, u8s (List.replicate 32 0), true⟩] w8 := by
        rw [← tailK_set n z i hz63 (by omega), ← set_u8s]
        exact h8
      (repeat (first | (refine mop_c ?_ ?_; first | exact trivial | omega) | (refine dp_c ?_ ?_; first | exact trivial | omega)))
      exact ⟨⟨i + 1, by omega, rfl, h8⟩, by simp [intOf]; omega⟩
    · obtain rfl : i = 8 := by omega
      (repeat (first | (refine mop_c ?_ ?_; first | exact trivial | omega) | (refine dp_c ?_ ?_; first | exact trivial | omega)))
      have hto : (((z + 1 : Nat) : Int) + 8).toNat = z + 9 := by omega
      rw [hto]
      have htl := tailK_length n z 8 hz63 (by omega)
      refine mop_purW (pw_conv_bytes 135 9 5 gt 0 (z + 9) 72 (padding n) (by kernel_rfl) (by kernel_rfl) (by kernel_rfl) (by rw [← hend, List.length_take, htl]; omega) (fun i hi => ?_)) ?_
      · rw [h7.head.cell, ← hend, Nat.zero_add, u8s_at _ _ (by omega)]
        congr 2
        simp [List.getD, hi]
      have hpl : (padding n).length = z + 9 := by rw [← hend, List.length_take, htl]; omega
      have hps : (strOfNums (padding n)).size = z + 9 := by rw [← ints_length, ints_str _ (padding_range n), hpl]
      have h7 := h7.swap
      refine mop_to (put_ok b x n bl (strOfNums (padding n)) w7 h7.head hd (by omega)) ?_
      rintro e w8 ⟨rfl, bl', hd8, h8⟩
      rw [ints_str _ (padding_range n)] at hd8 h8
      have h9 := h7.call1 h8
      generalize feedAll x (padding n) = y at hd8 h9 ⊢
      clear h7 h8
      have hy8 : y.1.list.length = 8 := rfl
      refine mop_new h9 (fun gu w9 h10 => ?_)
      refine ⟨fun v w2 => ∃ i : Nat, i ≤ 32 ∧ v = .int .i64 i ∧ ∃ L, St w (⟨gu, 33, u8s (fill (outAt y.1.list) 32 i), true⟩ :: ⟨b, 131, stCells y.1.list bl' ((n + (strOfNums (padding n)).size : Nat) : Int), true⟩ :: ⟨gt, 133, L, true⟩ :: ⟨go, 33, u8s (List.replicate 32 0), true⟩ :: []) w2, fun v _ => 32 - (intOf v).toNat, ⟨0, by omega, rfl, _, h10⟩, ?_⟩
      clear h9 h10
      rintro v u3 w10 ⟨i, hi, rfl, L, h11⟩
      refine mop_c trivial ?_
      refine mif_dec (fun hlt => ?_) (fun hge => ?_)
      · (repeat (first | (refine mop_c ?_ ?_; first | exact trivial | omega) | (refine dp_c ?_ ?_; first | exact trivial | omega)))
        have hq : (0 + 0 + ((i : Int) / 4).toNat) = 0 + i / 4 := by omega
        refine mop_ld ((h11.cell 1 rfl (i / 4)).trans (st_h hy8 (i / 4) (by omega))) (by omega) ?_
        (repeat (first | (refine mop_c ?_ ?_; first | exact trivial | omega) | (refine dp_c ?_ ?_; first | exact trivial | omega)))
        refine mop_st (j := i) h11 (by omega) (by rw [u8s_length, fill_length _ _ _ hi]; omega) rfl (fun w11 h12 => ?_)
        have h12 : St w (⟨gu, 33, u8s (fill (outAt y.1.list) 32 (i + 1)), true⟩ :: ⟨b, 131, stCells y.1.list bl' ((n + (strOfNums (padding n)).size : Nat) : Int), true⟩ :: ⟨gt, 133, L, true⟩ :: ⟨go, 33, u8s (List.replicate 32 0), true⟩ :: []) w11 := by
          rw [← fill_set _ _ _ (by omega), ← set_u8s]
          have e : outAt y.1.list i = y.1.list.getD (i / 4) 0 / 2 ^ ((24 : Int) - 8 * ((i : Int) % 4)).toNat % 256 := by
            unfold outAt
            congr 3
            omega
          rw [e]
          exact h12
        (repeat (first | (refine mop_c ?_ ?_; first | exact trivial | omega) | (refine dp_c ?_ ?_; first | exact trivial | omega)))
        exact ⟨⟨i + 1, by omega, rfl, L, h12⟩, by simp [intOf]; omega⟩
      · obtain rfl : i = 32 := by omega
        have hf : fill (outAt y.1.list) 32 32 = outB y.1 := by simp [fill, outB]
        rw [hf] at h11
        have hol : (u8s (outB y.1)).length = 32 := by simp [outB, u8s]
        refine mop_ldN (cells_of_row h11.head) hol rfl ?_
        have h13 := h11.drop.drop.drop
        refine mop_storeN (q := true) (k := 32) (by kernel_rfl) h13 (by simpa [Value.cells] using hol) (by intro u hu; exact u8s_one _ u hu) (by simp [u8s]) (fun w12 h14 => ?_)
        have e : lay (u8s (List.replicate 32 0)) (Value.agg (u8s (outB y.1)).toArray).cells.toList 0 = u8s (outB y.1) := lay_all _ _ (by show (u8s (outB y.1)).length = _; rw [hol]; simp [u8s])
        rw [e] at h14
        refine rcell_ldN (cells_of_row h14.head) hol ?_
        exact ⟨rfl, h14.drop⟩
end Go.Proofs.YtopcnkejobomaaaGreat
namespace Go.Proofs.YtopcnkejobomaaaGreat
open Go.RowKit
theorem word_ok (g o n c : Nat) (i : Nat) (a0 a1 a2 a3 : Int) (w : World) (hn : i + 4 ≤ n) (hi : i < 4611686018427387904)
    (h0 : w.cell? ⟨g, o + i, none⟩ = some (.int .u8 a0)) (h1 : w.cell? ⟨g, o + (i + 1), none⟩ = some (.int .u8 a1)) (h2 : w.cell? ⟨g, o + (i + 2), none⟩ = some (.int .u8 a2)) (h3 : w.cell? ⟨g, o + (i + 3), none⟩ = some (.int .u8 a3))
    (b0 : 0 ≤ a0 ∧ a0 < 256) (b1 : 0 ≤ a1 ∧ a1 < 256) (b2 : 0 ≤ a2 ∧ a2 < 256) (b3 : 0 ≤ a3 ∧ a3 < 256) :
    Calls Tryz.prog 88 #[.slice (some ⟨g, o, none⟩) n c, .int .i64 (i : Int)] w fun e w' => e = .returned (.int .u32 (word4 a0 a1 a2 a3)) ∧ Drawn w w' := by
  refine C_bevyref02_word ?_
  unfold F_bevyref02_word
  (repeat (first | (refine mop_c ?_ ?_; first | exact trivial | omega) | (refine dp_c ?_ ?_; first | exact trivial | omega)))
  refine dq_ld h0 (by omega) ?_
  (repeat (first | (refine mop_c ?_ ?_; first | exact trivial | omega) | (refine dp_c ?_ ?_; first | exact trivial | omega)))
  refine dq_ld h1 (by omega) ?_
  (repeat (first | (refine mop_c ?_ ?_; first | exact trivial | omega) | (refine dp_c ?_ ?_; first | exact trivial | omega)))
  refine dq_ld h2 (by omega) ?_
  (repeat (first | (refine mop_c ?_ ?_; first | exact trivial | omega) | (refine dp_c ?_ ?_; first | exact trivial | omega)))
  refine dq_ld h3 (by omega) ?_
  (repeat (first | (refine mop_c ?_ ?_; first | exact trivial | omega) | (refine dp_c ?_ ?_; first | exact trivial | omega)))
  refine dend_intro fun w1 hd => ?_
  exact ⟨rfl, hd⟩
def blocks (M : List Int) : Nat → S8
  | 0 => h0
  | j + 1 => compress (blocks M j) ((M.drop (64 * j)).take 64)
theorem blocks_feed (M : List Int) : ∀ j, 64 * j ≤ M.length → feedAll (h0, []) (M.take (64 * j)) = (blocks M j, [])
  | 0, _ => rfl
  | j + 1, h => by
    rw [show 64 * (j + 1) = 64 * j + 64 by omega, List.take_add, feedAll_append, blocks_feed M j (by omega)]
    rw [feedAll_full _ _ _ (by simp; omega) (by simp; omega)]
    rfl
theorem blocks_ok (M : List Int) : ∀ j, (blocks M j).Ok
  | 0 => dig0.ok
  | _ + 1 => compress_ok _
theorem block_at (M : List Int) (j i : Nat) (hi : i < 64) : ((M.drop (64 * j)).take 64).getD i 0 = M.getD (64 * j + i) 0 := by
  simp [List.getD, hi]
theorem buildb (v : Int) (w : World) : (o_buildSlice 135 1 [(0, .int .u8 v)]).run Tryz.prog w = .ok (.value (.slice (some ⟨w.heap.size, 0, none⟩) 1 1)) (w.alloc (.cells (Value.int .u8 v).cells.toList.toArray 5)) := by kernel_rfl
theorem row_at (M : List Int) (sp : List Value) (i : Nat) (h : i < M.length) : (u8s M ++ sp)[i]? = some (.int .u8 (M.getD i 0)) := by
  rw [List.getElem?_append_left (by rw [u8s_length]; exact h), u8s_at M i h]
def slen : Value → Nat
  | .slice _ n _ => n
  | _ => 0
theorem u8s_append (a b : List Int) : u8s (a ++ b) = u8s a ++ u8s b := by simp [u8s]
theorem u32s_one (l : List Int) : ∀ u ∈ u32s l, u.oneCell' = true := by
  intro u hu
  obtain ⟨x, _, rfl⟩ := List.mem_map.1 hu
  rfl
theorem u32s_length (l : List Int) : (u32s l).length = l.length := by simp [u32s]
theorem set_u32s (l : List Int) (i : Nat) (v : Int) : (u32s l).set i (.int .u32 v) = u32s (l.set i v) := by simp [u32s, List.map_set]
set_option maxRecDepth 100000 in
set_option maxHeartbeats 2000000 in
theorem refsum_ok (s : ByteArray) (w : World) (hsz : s.size < 1099511627776) : Calls Tryz.prog 43 #[.string s] w fun e w' => e = .returned (hv (shaSum (ints s))) ∧ St w [] w' := by
  refine C_bevyref02_Sum ?_
  unfold F_bevyref02_Sum
  refine mop_new (St.nil w) (fun go w1 h1 => ?_)
  refine mop_pur (v := .agg (u32s kl).toArray) (fun w => by kernel_rfl) ?_
  refine mop_new h1 (fun gk w2 h2 => ?_)
  refine mop_storeN (q := true) (k := 64) (by kernel_rfl) h2 rfl (u32s_one kl) (by simp) (fun w3 h3 => ?_)
  have e1 : lay (List.replicate 64 (Value.int .u32 0)) (Value.agg (u32s kl).toArray).cells.toList 0 = u32s kl := lay_all _ _ rfl
  rw [e1] at h3
  clear h1 h2
  obtain ⟨A, cap, w4, hr4, h4⟩ := run_bytes_of_text (P := Tryz.prog) 9 135 5 s (by kernel_rfl) (by kernel_rfl) (by kernel_rfl) (by unfold maxLen; omega) h3
  refine mop_run hr4 ?_
  refine mop_push h4 rfl (by intro u hu; cases hu with | head => rfl | tail _ hu => cases hu) (buildb _ _) (by unfold maxLen; omega) (by omega) (fun A1 cap1 w5 h5 => ?_)
  obtain ⟨n, hn⟩ : ∃ n, n = s.size := ⟨_, rfl⟩
  have hil : (ints s).length = n := by rw [ints_length, hn]
  rw [← hn] at h5 hsz ⊢
  refine ⟨fun v w2 => ∃ (z cap : Nat) (A : Option Addr), z ≤ 63 - (n + 8) % 64 ∧ v = .slice A (n + 1 + z) cap ∧ RowSt w 5 1 [⟨gk, 127, u32s kl, true⟩, ⟨go, 32, List.replicate 32 (.int .u8 0), true⟩] A (n + 1 + z) cap (u8s (ints s ++ (128 :: List.replicate z 0))) w2, fun v _ => n + 100 - slen v, ⟨0, _, _, by omega, rfl, by rw [u8s_append]; exact h5⟩, ?_⟩
  clear h3 h4 h5 hr4
  rintro v u w6 ⟨z, cap, A, hz, rfl, h6⟩
  (repeat (first | (refine mop_c ?_ ?_; first | exact trivial | omega) | (refine dp_c ?_ ?_; first | exact trivial | omega)))
  refine mif_dec (fun hne => ?_) (fun heq => ?_)
  · refine mop_push h6 rfl (by intro u hu; cases hu with | head => rfl | tail _ hu => cases hu) (buildb _ _) (by unfold maxLen; omega) (by omega) (fun A1 cap1 w7 h7 => ?_)
    refine ⟨⟨z + 1, cap1, A1, by omega, rfl, ?_⟩, by simp [slen]; omega⟩
    have e : ints s ++ (128 :: List.replicate (z + 1) 0) = (ints s ++ (128 :: List.replicate z 0)) ++ [0] := by
      rw [List.append_assoc, List.cons_append, ← List.replicate_succ']
    rw [e, u8s_append]
    exact h7
  · obtain rfl : z = 63 - (n + 8) % 64 := by omega
    refine mop_c trivial ?_
    rw [← hn]
    (repeat (first | (refine mop_c ?_ ?_; first | exact trivial | omega) | (refine dp_c ?_ ?_; first | exact trivial | omega)))
    refine ⟨fun v x w2 => ∃ (i cap : Nat) (A : Option Addr), i ≤ 8 ∧ x = .int .i64 i ∧ v = .slice A (n + 1 + (63 - (n + 8) % 64) + i) cap ∧ RowSt w 5 1 [⟨gk, 127, u32s kl, true⟩, ⟨go, 32, List.replicate 32 (.int .u8 0), true⟩] A (n + 1 + (63 - (n + 8) % 64) + i) cap (u8s ((ints s ++ (128 :: List.replicate (63 - (n + 8) % 64) 0)) ++ (List.range i).map (lenB n))) w2,
      fun _ x _ => 8 - (intOf x).toNat, ⟨0, _, _, by omega, rfl, rfl, by simpa using h6⟩, ?_⟩
    clear h6
    rintro v x u2 w7 ⟨i, cap, A, hi, rfl, rfl, h7⟩
    refine mop_c trivial ?_
    refine mif_dec (fun hlt => ?_) (fun hge => ?_)
    · (repeat (first | (refine mop_c ?_ ?_; first | exact trivial | omega) | (refine dp_c ?_ ?_; first | exact trivial | omega)))
      refine mop_push h7 rfl (by intro u hu; cases hu with | head => rfl | tail _ hu => cases hu) (buildb _ _) (by unfold maxLen; omega) (by omega) (fun A1 cap1 w8 h8 => ?_)
      (repeat (first | (refine mop_c ?_ ?_; first | exact trivial | omega) | (refine dp_c ?_ ?_; first | exact trivial | omega)))
      refine ⟨⟨i + 1, cap1, A1, by omega, rfl, rfl, ?_⟩, by simp [intOf]; omega⟩
      have e : lenB n i = ((n : Int) % 18446744073709551616 * 8 % 18446744073709551616) / 2 ^ ((56 - 8 * (i : Int)) % 18446744073709551616).toNat % 256 := by
        unfold lenB
        congr 4
        omega
      rw [List.range_succ, List.map_append, ← List.append_assoc, u8s_append, List.map_cons, List.map_nil, e]
      exact h8
    · obtain rfl : i = 8 := by omega
      have hM : (ints s ++ (128 :: List.replicate (63 - (n + 8) % 64) 0)) ++ (List.range 8).map (lenB n) = ints s ++ padding n := by rw [padding, List.append_assoc]
      rw [hM] at h7
      have hfin : shaSum (ints s) = outB (feedAll (h0, []) (ints s ++ padding n)).1 := by rw [shaSum, hil]
      rw [hfin]
      have hMl : (ints s ++ padding n).length = n + 1 + (63 - (n + 8) % 64) + 8 := by simp [padding, hil]; omega
      have hMr : ∀ c ∈ ints s ++ padding n, 0 ≤ c ∧ c < 256 := fun c hc => by
        rcases List.mem_append.1 hc with hc | hc
        · exact ints_range s c hc
        · exact padding_range n c hc
      generalize ints s ++ padding n = M at h7 hMl hMr ⊢
      obtain ⟨N, hN⟩ : ∃ N, N = n + 1 + (63 - (n + 8) % 64) + 8 := ⟨_, rfl⟩
      rw [← hN] at h7 hMl ⊢
      have hN64 : N % 64 = 0 := by omega
      have hNb : N < 1099511627776 + 200 := by omega
      clear hM hfin hil
      obtain ⟨gm, sp, rfl, h8, _, _⟩ := h7.at_ (by omega)
      clear h7
      refine mop_pur (build8 _ _ _ _ _ _ _ _) ?_
      refine mop_new h8 (fun gv w8 h9 => ?_)
      refine mop_storeN (q := true) (k := 8) (by kernel_rfl) h9 rfl (u32s_one h0.list) (by simp) (fun w9 h10 => ?_)
      have e8 : lay (List.replicate 8 (Value.int .u32 0)) (Value.agg (u32s h0.list).toArray).cells.toList 0 = u32s h0.list := lay_all _ _ rfl
      have h10 : St w [⟨gv, 126, u32s h0.list, true⟩, ⟨gm, 5, u8s M ++ sp, true⟩, ⟨gk, 127, u32s kl, true⟩, ⟨go, 32, List.replicate 32 (.int .u8 0), true⟩] w9 := by
        rw [← e8]; exact h10
      refine ⟨fun x w2 => ∃ j : Nat, 64 * j ≤ N ∧ x = .int .i64 ((64 * j : Nat) : Int) ∧ St w [⟨gv, 126, u32s (blocks M j).list, true⟩, ⟨gm, 5, u8s M ++ sp, true⟩, ⟨gk, 127, u32s kl, true⟩, ⟨go, 32, List.replicate 32 (.int .u8 0), true⟩] w2,
        fun x _ => N - (intOf x).toNat, ⟨0, by omega, rfl, h10⟩, ?_⟩
      clear h8 h9 h10
      rintro x u3 w10 ⟨j, hj, rfl, h10⟩
      (repeat (first | (refine mop_c ?_ ?_; first | exact trivial | omega) | (refine dp_c ?_ ?_; first | exact trivial | omega)))
      refine mif_dec (fun hlt => ?_) (fun hge => ?_)
      · have hj2 : 64 * j + 64 ≤ N := by omega
        have hbl : blocks M (j + 1) = (blocks M j).add (rl (wl ((M.drop (64 * j)).take 64) 64) 64 (blocks M j)) := rfl
        have hbat := fun i hi => block_at M j i hi
        have hsok := blocks_ok M j
        generalize (M.drop (64 * j)).take 64 = bl at hbl hbat
        obtain ⟨S', hS⟩ : ∃ S', S' = blocks M (j + 1) := ⟨_, rfl⟩
        rw [← hS] at hbl
        refine mop_new h10 (fun gw w11 h11 => ?_)
        refine ⟨fun x w2 => ∃ i : Nat, i ≤ 16 ∧ x = .int .i64 i ∧ St w [⟨gw, 127, u32s (wk bl i), true⟩, ⟨gv, 126, u32s (blocks M j).list, true⟩, ⟨gm, 5, u8s M ++ sp, true⟩, ⟨gk, 127, u32s kl, true⟩, ⟨go, 32, List.replicate 32 (.int .u8 0), true⟩] w2,
          fun x _ => 16 - (intOf x).toNat, ⟨0, by omega, rfl, h11⟩, ?_⟩
        clear h10 h11
        rintro x u4 w12 ⟨i, hi, rfl, h12⟩
        (repeat (first | (refine mop_c ?_ ?_; first | exact trivial | omega) | (refine dp_c ?_ ?_; first | exact trivial | omega)))
        refine mif_dec (fun hlt2 => ?_) (fun hge2 => ?_)
        · (repeat (first | (refine mop_c ?_ ?_; first | exact trivial | omega) | (refine dp_c ?_ ?_; first | exact trivial | omega)))
          rw [show ((64 * j : Nat) : Int) + 4 * (i : Int) = ((64 * j + 4 * i : Nat) : Int) by omega]
          refine mop_to (word_ok gm 0 N cap (64 * j + 4 * i) (M.getD (64 * j + 4 * i) 0) (M.getD (64 * j + 4 * i + 1) 0) (M.getD (64 * j + 4 * i + 2) 0) (M.getD (64 * j + 4 * i + 3) 0) w12 (by omega) (by omega)
            ?_ ?_ ?_ ?_ (getD_bd M _ hMr) (getD_bd M _ hMr) (getD_bd M _ hMr) (getD_bd M _ hMr)) ?_
          · rw [Nat.zero_add]; exact (h12.cell 2 rfl _).trans (row_at M sp _ (by omega))
          · rw [Nat.zero_add]; exact (h12.cell 2 rfl _).trans (row_at M sp _ (by omega))
          · rw [Nat.zero_add]; exact (h12.cell 2 rfl _).trans (row_at M sp _ (by omega))
          · rw [Nat.zero_add]; exact (h12.cell 2 rfl _).trans (row_at M sp _ (by omega))
          rintro e w13 ⟨rfl, hd13⟩
          have h13 := h12.drawn hd13
          (repeat (first | (refine mop_c ?_ ?_; first | exact trivial | omega) | (refine dp_c ?_ ?_; first | exact trivial | omega)))
          refine mop_st (j := i) h13 (by omega) (by rw [u32s_length, wk_len bl i (by omega)]; omega) rfl (fun w14 h14 => ?_)
          (repeat (first | (refine mop_c ?_ ?_; first | exact trivial | omega) | (refine dp_c ?_ ?_; first | exact trivial | omega)))
          refine ⟨⟨i + 1, by omega, rfl, ?_⟩, by simp [intOf]; omega⟩
          rw [wk_set bl i (by omega)] at h14
          · exact h14
          · rw [wl_new, if_pos (by omega), hbat _ (by omega), hbat _ (by omega), hbat _ (by omega), hbat _ (by omega), ← Nat.add_assoc, ← Nat.add_assoc, ← Nat.add_assoc]
        · obtain rfl : i = 16 := by omega
          refine ⟨fun x w2 => ∃ k : Nat, 16 ≤ k ∧ k ≤ 64 ∧ x = .int .i64 k ∧ St w [⟨gw, 127, u32s (wk bl k), true⟩, ⟨gv, 126, u32s (blocks M j).list, true⟩, ⟨gm, 5, u8s M ++ sp, true⟩, ⟨gk, 127, u32s kl, true⟩, ⟨go, 32, List.replicate 32 (.int .u8 0), true⟩] w2,
            fun x _ => 64 - (intOf x).toNat, ⟨16, by omega, by omega, rfl, h12⟩, ?_⟩
          clear h12
          rintro x u5 w13 ⟨k, hk0, hk, rfl, h13⟩
          (repeat (first | (refine mop_c ?_ ?_; first | exact trivial | omega) | (refine dp_c ?_ ?_; first | exact trivial | omega)))
          refine mif_dec (fun hlt3 => ?_) (fun hge3 => ?_)
          · have d15 := wl_wd bl k (k - 15)
            have d2 := wl_wd bl k (k - 2)
            (repeat (first | (refine mop_c ?_ ?_; first | exact trivial | omega) | (refine dp_c ?_ ?_; first | exact trivial | omega)))
            refine mop_ld ((h13.cell 0 rfl (k - 15)).trans (wk_at bl k (k - 15) (by omega))) (by omega) ?_
            (repeat (first | (refine mop_c ?_ ?_; first | exact trivial | omega) | (refine dp_c ?_ ?_; first | exact trivial | omega)))
            refine mop_ld ((h13.cell 0 rfl (k - 2)).trans (wk_at bl k (k - 2) (by omega))) (by omega) ?_
            (repeat (first | (refine mop_c ?_ ?_; first | exact trivial | omega) | (refine dp_c ?_ ?_; first | exact trivial | omega)))
            refine dq_ld ((h13.cell 0 rfl (k - 16)).trans (wk_at bl k (k - 16) (by omega))) (by omega) ?_
            (repeat (first | (refine mop_c ?_ ?_; first | exact trivial | omega) | (refine dp_c ?_ ?_; first | exact trivial | omega)))
            refine dq_ld ((h13.cell 0 rfl (k - 7)).trans (wk_at bl k (k - 7) (by omega))) (by omega) ?_
            (repeat (first | (refine mop_c ?_ ?_; first | exact trivial | omega) | (refine dp_c ?_ ?_; first | exact trivial | omega)))
            refine df_eq (fun w => turned_k _ 7 w d15 (by decide)) fun w5 hd5 => ?_
            refine df_eq (fun w => turned_k _ 18 w d15 (by decide)) fun w6 hd6 => ?_
            (repeat (first | (refine mop_c ?_ ?_; first | exact trivial | omega) | (refine dp_c ?_ ?_; first | exact trivial | omega)))
            refine df_eq (fun w => turned_k _ 17 w d2 (by decide)) fun w7 hd7 => ?_
            refine df_eq (fun w => turned_k _ 19 w d2 (by decide)) fun w8 hd8 => ?_
            (repeat (first | (refine mop_c ?_ ?_; first | exact trivial | omega) | (refine dp_c ?_ ?_; first | exact trivial | omega)))
            have h14 := h13.drawn (((hd5.trans hd6).trans hd7).trans hd8)
            refine df_st (j := k) h14 (by omega) (by rw [u32s_length, wk_len bl k hk]; omega) rfl (fun w9 h15 => ?_)
            refine dend_intro fun w10 hd10 => ?_
            have h16 := h15.drawn hd10
            (repeat (first | (refine mop_c ?_ ?_; first | exact trivial | omega) | (refine dp_c ?_ ?_; first | exact trivial | omega)))
            refine ⟨⟨k + 1, by omega, by omega, rfl, ?_⟩, by simp [intOf]; omega⟩
            rw [wk_set bl k (by omega)] at h16
            · exact h16
            · rw [wl_new, if_neg (by omega)]
              rfl
          · obtain rfl : k = 64 := by omega
            have hw : wk bl 64 = wl bl 64 := by simp [wk]
            have hWl : (wl bl 64).length = 64 := wl_len bl 64
            rw [hw] at h13
            clear hw
            generalize wl bl 64 = W at h13 hWl hbl
            refine mop_ldN (cells_of_row (h13.mem (k := 1) rfl)) rfl rfl ?_
            refine mop_new h13 (fun gs w14 h14 => ?_)
            refine mop_storeN (q := true) (k := 8) (by kernel_rfl) h14 rfl (u32s_one (blocks M j).list) (by simp) (fun w15 h15 => ?_)
            have e9 : lay (List.replicate 8 (Value.int .u32 0)) (Value.agg (u32s (blocks M j).list).toArray).cells.toList 0 = u32s (blocks M j).list := lay_all _ _ rfl
            rw [e9] at h15
            clear h13 h14 e9
            generalize blocks M j = s0 at hbl hsok h15
            refine ⟨fun x w2 => ∃ i : Nat, i ≤ 64 ∧ x = .int .i64 i ∧ St w [⟨gs, 126, u32s (rl W i s0).list, true⟩, ⟨gw, 127, u32s W, true⟩, ⟨gv, 126, u32s s0.list, true⟩, ⟨gm, 5, u8s M ++ sp, true⟩, ⟨gk, 127, u32s kl, true⟩, ⟨go, 32, List.replicate 32 (.int .u8 0), true⟩] w2,
              fun x _ => 64 - (intOf x).toNat, ⟨0, by omega, rfl, h15⟩, ?_⟩
            clear h15
            rintro x u6 w16 ⟨i, hi4, rfl, h16⟩
            have hr := rl_ok W hsok i
            have hrs : rl W (i + 1) s0 = (rl W i s0).rnd (kl.getD i 0) (W.getD i 0) := rfl
            obtain ⟨s', hs'⟩ : ∃ s', s' = rl W (i + 1) s0 := ⟨_, rfl⟩
            obtain ⟨t, ht⟩ : ∃ t, rl W i s0 = t := ⟨_, rfl⟩
            rw [← hs'] at hrs
            rw [ht] at hr hrs h16
            (repeat (first | (refine mop_c ?_ ?_; first | exact trivial | omega) | (refine dp_c ?_ ?_; first | exact trivial | omega)))
            refine mif_dec (fun hlt4 => ?_) (fun hge4 => ?_)
            · (repeat (first | (refine mop_c ?_ ?_; first | exact trivial | omega) | (refine dp_c ?_ ?_; first | exact trivial | omega)))
              refine mop_ld ((h16.cell 0 rfl 4).trans (show (u32s t.list)[4]? = some (.int .u32 t.e) from rfl)) (by omega) ?_
              (repeat (first | (refine mop_c ?_ ?_; first | exact trivial | omega) | (refine dp_c ?_ ?_; first | exact trivial | omega)))
              refine mop_ld ((h16.cell 0 rfl 0).trans (show (u32s t.list)[0]? = some (.int .u32 t.a) from rfl)) (by omega) ?_
              (repeat (first | (refine mop_c ?_ ?_; first | exact trivial | omega) | (refine dp_c ?_ ?_; first | exact trivial | omega)))
              refine dq_ld ((h16.cell 0 rfl 7).trans (show (u32s t.list)[7]? = some (.int .u32 t.h) from rfl)) (by omega) ?_
              refine df_eq (fun w => turned_k _ 6 w hr.e (by decide)) fun w5 hd5 => ?_
              refine df_eq (fun w => turned_k _ 11 w hr.e (by decide)) fun w6 hd6 => ?_
              (repeat (first | (refine mop_c ?_ ?_; first | exact trivial | omega) | (refine dp_c ?_ ?_; first | exact trivial | omega)))
              refine df_eq (fun w => turned_k _ 25 w hr.e (by decide)) fun w7 hd7 => ?_
              (repeat (first | (refine mop_c ?_ ?_; first | exact trivial | omega) | (refine dp_c ?_ ?_; first | exact trivial | omega)))
              refine dq_ld ((h16.cell 0 rfl 5).trans (show (u32s t.list)[5]? = some (.int .u32 t.f) from rfl)) (by omega) ?_
              (repeat (first | (refine mop_c ?_ ?_; first | exact trivial | omega) | (refine dp_c ?_ ?_; first | exact trivial | omega)))
              refine dq_ld ((h16.cell 0 rfl 6).trans (show (u32s t.list)[6]? = some (.int .u32 t.g) from rfl)) (by omega) ?_
              (repeat (first | (refine mop_c ?_ ?_; first | exact trivial | omega) | (refine dp_c ?_ ?_; first | exact trivial | omega)))
              refine dq_ld ((h16.cell 4 rfl i).trans (u32s_at kl i (by rw [kl_len]; omega))) (by omega) ?_
              (repeat (first | (refine mop_c ?_ ?_; first | exact trivial | omega) | (refine dp_c ?_ ?_; first | exact trivial | omega)))
              refine dq_ld ((h16.cell 1 rfl i).trans (u32s_at W i (by omega))) (by omega) ?_
              (repeat (first | (refine mop_c ?_ ?_; first | exact trivial | omega) | (refine dp_c ?_ ?_; first | exact trivial | omega)))
              refine dend_intro fun w8 hd8 => ?_
              have h17 := h16.drawn (((hd5.trans hd6).trans hd7).trans hd8)
              refine df_eq (fun w => turned_k _ 2 w hr.a (by decide)) fun w9 hd9 => ?_
              refine df_eq (fun w => turned_k _ 13 w hr.a (by decide)) fun w10 hd10 => ?_
              (repeat (first | (refine mop_c ?_ ?_; first | exact trivial | omega) | (refine dp_c ?_ ?_; first | exact trivial | omega)))
              refine df_eq (fun w => turned_k _ 22 w hr.a (by decide)) fun w11 hd11 => ?_
              (repeat (first | (refine mop_c ?_ ?_; first | exact trivial | omega) | (refine dp_c ?_ ?_; first | exact trivial | omega)))
              refine dq_ld ((h17.cell 0 rfl 1).trans (show (u32s t.list)[1]? = some (.int .u32 t.b) from rfl)) (by omega) ?_
              (repeat (first | (refine mop_c ?_ ?_; first | exact trivial | omega) | (refine dp_c ?_ ?_; first | exact trivial | omega)))
              refine dq_ld ((h17.cell 0 rfl 2).trans (show (u32s t.list)[2]? = some (.int .u32 t.c) from rfl)) (by omega) ?_
              (repeat (first | (refine mop_c ?_ ?_; first | exact trivial | omega) | (refine dp_c ?_ ?_; first | exact trivial | omega)))
              refine dq_ld ((h17.cell 0 rfl 1).trans (show (u32s t.list)[1]? = some (.int .u32 t.b) from rfl)) (by omega) ?_
              (repeat (first | (refine mop_c ?_ ?_; first | exact trivial | omega) | (refine dp_c ?_ ?_; first | exact trivial | omega)))
              refine dq_ld ((h17.cell 0 rfl 2).trans (show (u32s t.list)[2]? = some (.int .u32 t.c) from rfl)) (by omega) ?_
              (repeat (first | (refine mop_c ?_ ?_; first | exact trivial | omega) | (refine dp_c ?_ ?_; first | exact trivial | omega)))
              refine dend_intro fun w12 hd12 => ?_
              have h18 := h17.drawn (((hd9.trans hd10).trans hd11).trans hd12)
              clear h16 h17
              (repeat (first | (refine mop_c ?_ ?_; first | exact trivial | omega) | (refine dp_c ?_ ?_; first | exact trivial | omega)))
              refine mop_ld ((h18.cell 0 rfl 0).trans (show (u32s t.list)[0]? = some (.int .u32 t.a) from rfl)) (by omega) ?_
              (repeat (first | (refine mop_c ?_ ?_; first | exact trivial | omega) | (refine dp_c ?_ ?_; first | exact trivial | omega)))
              refine mop_ld ((h18.cell 0 rfl 1).trans (show (u32s t.list)[1]? = some (.int .u32 t.b) from rfl)) (by omega) ?_
              (repeat (first | (refine mop_c ?_ ?_; first | exact trivial | omega) | (refine dp_c ?_ ?_; first | exact trivial | omega)))
              refine mop_ld ((h18.cell 0 rfl 2).trans (show (u32s t.list)[2]? = some (.int .u32 t.c) from rfl)) (by omega) ?_
              (repeat (first | (refine mop_c ?_ ?_; first | exact trivial | omega) | (refine dp_c ?_ ?_; first | exact trivial | omega)))
              refine mop_ld ((h18.cell 0 rfl 3).trans (show (u32s t.list)[3]? = some (.int .u32 t.d) from rfl)) (by omega) ?_
              (repeat (first | (refine mop_c ?_ ?_; first | exact trivial | omega) | (refine dp_c ?_ ?_; first | exact trivial | omega)))
              refine mop_ld ((h18.cell 0 rfl 4).trans (show (u32s t.list)[4]? = some (.int .u32 t.e) from rfl)) (by omega) ?_
              (repeat (first | (refine mop_c ?_ ?_; first | exact trivial | omega) | (refine dp_c ?_ ?_; first | exact trivial | omega)))
              refine mop_ld ((h18.cell 0 rfl 5).trans (show (u32s t.list)[5]? = some (.int .u32 t.f) from rfl)) (by omega) ?_
              (repeat (first | (refine mop_c ?_ ?_; first | exact trivial | omega) | (refine dp_c ?_ ?_; first | exact trivial | omega)))
              refine mop_ld ((h18.cell 0 rfl 6).trans (show (u32s t.list)[6]? = some (.int .u32 t.g) from rfl)) (by omega) ?_
              refine mop_pur (v := .agg (u32s s'.list).toArray) (by rw [hrs]; exact build8 _ _ _ _ _ _ _ _) ?_
              refine mop_storeN (q := true) (k := 8) (by kernel_rfl) h18 rfl (u32s_one s'.list) (by simp [u32s, S8.list]) (fun w13 h19 => ?_)
              have e9 : lay (u32s t.list) (Value.agg (u32s s'.list).toArray).cells.toList 0 = u32s s'.list := lay_all _ _ rfl
              rw [e9] at h19
              (repeat (first | (refine mop_c ?_ ?_; first | exact trivial | omega) | (refine dp_c ?_ ?_; first | exact trivial | omega)))
              exact ⟨⟨i + 1, by omega, rfl, by rw [← hs']; exact h19⟩, by simp [intOf]; omega⟩
            · obtain rfl : i = 64 := by omega
              rw [ht] at hbl
              refine ⟨fun x w2 => ∃ i : Nat, i ≤ 8 ∧ x = .int .i64 i ∧ St w [⟨gv, 126, u32s (addK s0.list t.list i), true⟩, ⟨gs, 126, u32s t.list, true⟩, ⟨gw, 127, u32s W, true⟩, ⟨gm, 5, u8s M ++ sp, true⟩, ⟨gk, 127, u32s kl, true⟩, ⟨go, 32, List.replicate 32 (.int .u8 0), true⟩] w2,
                fun x _ => 8 - (intOf x).toNat, ⟨0, by omega, rfl, h16.up2⟩, ?_⟩
              clear h16
              rintro x u7 w17 ⟨i, hi5, rfl, h17⟩
              (repeat (first | (refine mop_c ?_ ?_; first | exact trivial | omega) | (refine dp_c ?_ ?_; first | exact trivial | omega)))
              have hal : (addK s0.list t.list i).length = 8 := addK_len s0.list t.list i
              refine mif_dec (fun hlt5 => ?_) (fun hge5 => ?_)
              · (repeat (first | (refine mop_c ?_ ?_; first | exact trivial | omega) | (refine dp_c ?_ ?_; first | exact trivial | omega)))
                refine dq_ld ((h17.cell 0 rfl i).trans (u32s_at _ i (by omega))) (by omega) ?_
                (repeat (first | (refine mop_c ?_ ?_; first | exact trivial | omega) | (refine dp_c ?_ ?_; first | exact trivial | omega)))
                refine dq_ld ((h17.cell 1 rfl i).trans (u32s_at t.list i (by simp [S8.list]; omega))) (by omega) ?_
                (repeat (first | (refine mop_c ?_ ?_; first | exact trivial | omega) | (refine dp_c ?_ ?_; first | exact trivial | omega)))
                refine df_st (j := i) h17 (by omega) (by rw [u32s_length]; omega) rfl (fun w18 h18 => ?_)
                refine dend_intro fun w19 hd19 => ?_
                have h19 := h18.drawn hd19
                (repeat (first | (refine mop_c ?_ ?_; first | exact trivial | omega) | (refine dp_c ?_ ?_; first | exact trivial | omega)))
                refine ⟨⟨i + 1, by omega, rfl, ?_⟩, by simp [intOf]; omega⟩
                rw [set_u32s, addK_at s0.list t.list i i (Nat.le_refl i)] at h19
                exact h19
              · obtain rfl : i = 8 := by omega
                (repeat (first | (refine mop_c ?_ ?_; first | exact trivial | omega) | (refine dp_c ?_ ?_; first | exact trivial | omega)))
                refine ⟨⟨j + 1, by omega, by simp only [Value.int.injEq, true_and]; omega, ?_⟩, by simp [intOf]; omega⟩
                have e10 := addK_end s0.list t rfl
                rw [s8_list, ← hbl] at e10
                rw [e10] at h17
                rw [← hS]
                exact h17.swap.drop.swap.drop
      · have hjN : 64 * j = M.length := by omega
        have hfin : feedAll (h0, []) M = (blocks M j, []) := by
          have := blocks_feed M j (by omega)
          rwa [hjN, List.take_length] at this
        rw [hfin]
        generalize blocks M j = y at h10
        have hy8 : y.list.length = 8 := rfl
        refine mop_new h10 (fun gu w11 h11 => ?_)
        refine ⟨fun x w2 => ∃ i : Nat, i ≤ 32 ∧ x = .int .i64 i ∧ St w [⟨gu, 32, u8s (fill (outAt y.list) 32 i), true⟩, ⟨gv, 126, u32s y.list, true⟩, ⟨gm, 5, u8s M ++ sp, true⟩, ⟨gk, 127, u32s kl, true⟩, ⟨go, 32, List.replicate 32 (.int .u8 0), true⟩] w2,
          fun x _ => 32 - (intOf x).toNat, ⟨0, by omega, rfl, h11⟩, ?_⟩
        clear h10 h11
        rintro x u4 w12 ⟨i, hi, rfl, h12⟩
        (repeat (first | (refine mop_c ?_ ?_; first | exact trivial | omega) | (refine dp_c ?_ ?_; first | exact trivial | omega)))
        refine mif_dec (fun hlt2 => ?_) (fun hge2 => ?_)
        · (repeat (first | (refine mop_c ?_ ?_; first | exact trivial | omega) | (refine dp_c ?_ ?_; first | exact trivial | omega)))
          refine mop_ld ((h12.cell 1 rfl (i / 4)).trans (u32s_at y.list (i / 4) (by omega))) (by omega) ?_
          (repeat (first | (refine mop_c ?_ ?_; first | exact trivial | omega) | (refine dp_c ?_ ?_; first | exact trivial | omega)))
          refine mop_st (j := i) h12 (by omega) (by rw [u8s_length, fill_length _ _ _ hi]; omega) rfl (fun w13 h13 => ?_)
          (repeat (first | (refine mop_c ?_ ?_; first | exact trivial | omega) | (refine dp_c ?_ ?_; first | exact trivial | omega)))
          refine ⟨⟨i + 1, by omega, rfl, ?_⟩, by simp [intOf]; omega⟩
          rw [← fill_set _ _ _ (by omega), ← set_u8s]
          have e : outAt y.list i = y.list.getD (i / 4) 0 / 2 ^ (((24 : Int) - 8 * ((i : Int) % 4)) % 18446744073709551616).toNat % 256 := by
            unfold outAt
            congr 3
            omega
          rw [e]
          exact h13
        · obtain rfl : i = 32 := by omega
          have hf : fill (outAt y.list) 32 32 = outB y := by simp [fill, outB]
          rw [hf] at h12
          have hol : (u8s (outB y)).length = 32 := by simp [outB, u8s]
          refine mop_ldN (cells_of_row h12.head) hol rfl ?_
          have h13 := h12.drop.drop.drop.drop
          refine mop_storeN (q := true) (k := 32) (by kernel_rfl) h13 (by simpa [Value.cells] using hol) (by intro u hu; exact u8s_one _ u hu) (by simp) (fun w14 h14 => ?_)
          have e : lay (List.replicate 32 (Value.int .u8 0)) (Value.agg (u8s (outB y)).toArray).cells.toList 0 = u8s (outB y) := lay_all _ _ (by show (u8s (outB y)).length = _; rw [hol]; simp)
          rw [e] at h14
          refine rcell_ldN (cells_of_row h14.head) hol ?_
          exact ⟨rfl, h14.drop⟩
end Go.Proofs.YtopcnkejobomaaaGreat
namespace Go.Proofs.YtopcnkejobomaaaGreat
open Go.RowKit
theorem strOfNums_append (a b : List Int) : strOfNums a ++ strOfNums b = strOfNums (a ++ b) := by
  apply ByteArray.ext
  simp [strOfNums]
theorem St.ext {w w' : World} {L : List Bk} (h : St w L w') (hn : ∀ b ∈ L, b.nw = true) : Ext w w' :=
  h.only.mono (fun i _ hi => by
    obtain ⟨b, hb, h2, _⟩ := hi
    rw [hn b hb] at h2
    cases h2)
end Go.Proofs.YtopcnkejobomaaaGreat
namespace Go.Proofs.YtopcnkejobomaaaGreat
open Go.RowKit
def numB (n : Int) : List Int :=
  if n < 64 then [n]
  else if n < 16384 then [64 + n / 256, n % 256]
  else if n < 1073741824 then [128 + n / 16777216, n / 65536 % 256, n / 256 % 256, n % 256]
  else [192 + n / 72057594037927936, n / 281474976710656 % 256, n / 1099511627776 % 256, n / 4294967296 % 256, n / 16777216 % 256, n / 65536 % 256, n / 256 % 256, n % 256]
theorem numB_range (n : Int) (h : 0 ≤ n ∧ n ≤ 4611686018427387903) : ∀ x ∈ numB n, 0 ≤ x ∧ x < 256 := by
  unfold numB
  split
  · intro x hx; simp at hx; omega
  · split
    · intro x hx; simp at hx; rcases hx with rfl | rfl <;> omega
    · split
      · intro x hx; simp at hx; rcases hx with rfl | rfl | rfl | rfl <;> omega
      · intro x hx; simp at hx; rcases hx with rfl | rfl | rfl | rfl | rfl | rfl | rfl | rfl <;> omega
theorem numB_length (n : Int) : (numB n).length ≤ 8 ∧ 1 ≤ (numB n).length := by
  unfold numB
  repeat' split
  all_goals simp
def wrR (g : Nat) (out : List Int) (bad : Bool) : Res := exR (fun (p : Option Addr × Nat) => [fb g 140 [.one (.slice p.1 out.length p.2), .one (.bool bad)], rowR 5 1 p.1 out.length p.2 (byts out)])
section
variable {H : Hp} {w0 w : World} {L R : List Res} {g : Nat} {out : List Int} {bad : Bool}
theorem Mem.wr (h : Mem H w0 (wrR g out bad :: L) w) : ∃ A c, Mem H w0 (fb g 140 [.one (.slice A out.length c), .one (.bool bad)] :: rowR 5 1 A out.length c (byts out) :: L) w := by
  obtain ⟨p, h⟩ := h.unex
  exact ⟨p.1, p.2, h⟩
theorem Mem.unwr {A : Option Addr} {n c : Nat} (h : Mem H w0 (fb g 140 [.one (.slice A n c), .one (.bool bad)] :: rowR 5 1 A n c (byts out) :: L) w) (hn : n = out.length) : Mem H w0 (wrR g out bad :: L) w := by
  subst hn
  exact Mem.toex (R := fun (p : Option Addr × Nat) => [fb g 140 [.one (.slice p.1 out.length p.2), .one (.bool bad)], rowR 5 1 p.1 out.length p.2 (byts out)]) (A, c) h
theorem wnew_ok (hM : Mem H w0 L w) : Calls Tryz.prog 45 #[] w fun en w' => ∃ v, en = .returned v ∧ ∃ g, v = .pointer (some ⟨g, 0, none⟩) ∧ Mem H w0 (wrR g [] false :: L) w' := by
  refine C_wire_New ?_
  unfold F_wire_New
  ((with_reducible (refine mop_c trivial ?_; refine mm_box hM ?_; clear hM; intro _ _ hM)))
  rename_i g _
  have hM : Mem H w0 (fb g 140 [.one (.slice none 0 0), .one (.bool false)] :: rowR 5 1 none 0 0 (byts []) :: L) _ := (hM.row0 5 1).perm (.swap ..)
  exact ⟨_, rfl, g, rfl, Mem.unwr hM rfl⟩
theorem whash_ok (h : H32) (hb : out.length < 1000000000) (hM : Mem H w0 (wrR g out bad :: L) w) : Calls Tryz.prog 87 #[.pointer (some ⟨g, 0, none⟩), ha h] w fun en w' => ∃ v, en = .returned v ∧ v = .tuple #[] ∧ Mem H w0 (wrR g (out ++ h.1) bad :: L) w' := by
  refine C_wire_Writer_Hash ?_
  unfold F_wire_Writer_Hash
  obtain ⟨A, c, hM⟩ := hM.wr
  ((with_reducible (refine mm_box hM ?_; clear hM; intro _ _ hM; refine mop_c trivial ?_; refine mif_true ?_; refine dp_c trivial ?_; refine dp_c trivial ?_; refine dm_ld hM ?_; refine dp_c trivial ?_; refine df_no hM ?_; clear hM; intro _ hM)))
  refine mm_appb hM (by omega) (fun A' c' w4 hM => ?_)
  ((with_reducible (refine dp_c trivial ?_; refine dp_c trivial ?_; refine dS_st hM ?_; clear hM; intro _ hM; refine mm_end hM ?_; clear hM; intro _ hM)))
  exact ⟨_, rfl, rfl, Mem.unwr ((hM.upB g).sub : Mem H w0 (fb g 140 [.one (.slice A' (out.length + 32) c'), .one (.bool bad)] :: rowR 5 1 A' (out.length + 32) c' (byts (out ++ h.1)) :: L) _) (by simp [h.2.1])⟩
theorem bounds_ok (w : World) : Calls Tryz.prog 92 #[] w fun en w' => en = .returned (.agg #[.int .i64 64, .int .i64 16384, .int .i64 1073741824, .int .i64 4611686018427387903]) ∧ St w [] w' := by
  have hM := Mem.start (Fz.of w)
  refine C_wire_bounds ?_
  unfold F_wire_bounds
  ((with_reducible (refine mm_new hM ?_; clear hM; intro _ _ hM; refine mop_c trivial ?_; refine mm_st hM ?_; clear hM; intro _ hM; refine rm_ld hM ?_)))
  exact ⟨rfl, hM.st⟩
instance : PurC Tryz.prog 92 [] True (.agg #[.int .i64 64, .int .i64 16384, .int .i64 1073741824, .int .i64 4611686018427387903]) := ⟨fun _ w => bounds_ok w⟩
def kindN (n : Int) : Int := if n < 64 then 0 else if n < 16384 then 1 else if n < 1073741824 then 2 else 3
theorem numB_cases (n : Int) : (n < 64 ∧ kindN n = 0 ∧ numB n = [n]) ∨ (64 ≤ n ∧ n < 16384 ∧ kindN n = 1 ∧ numB n = [64 + n / 256, n % 256]) ∨
    (16384 ≤ n ∧ n < 1073741824 ∧ kindN n = 2 ∧ numB n = [128 + n / 16777216, n / 65536 % 256, n / 256 % 256, n % 256]) ∨
    (1073741824 ≤ n ∧ kindN n = 3 ∧ numB n = [192 + n / 72057594037927936, n / 281474976710656 % 256, n / 1099511627776 % 256, n / 4294967296 % 256, n / 16777216 % 256, n / 65536 % 256, n / 256 % 256, n % 256]) := by
  unfold kindN numB
  by_cases h1 : n < 64
  · exact .inl ⟨h1, if_pos h1, if_pos h1⟩
  · by_cases h2 : n < 16384
    · exact .inr (.inl ⟨by omega, h2, by rw [if_neg h1, if_pos h2], by rw [if_neg h1, if_pos h2]⟩)
    · by_cases h3 : n < 1073741824
      · exact .inr (.inr (.inl ⟨by omega, h3, by rw [if_neg h1, if_neg h2, if_pos h3], by rw [if_neg h1, if_neg h2, if_pos h3]⟩))
      · exact .inr (.inr (.inr ⟨by omega, by rw [if_neg h1, if_neg h2, if_neg h3], by rw [if_neg h1, if_neg h2, if_neg h3]⟩))
theorem numB_len (n : Int) : ((numB n).length : Int) = 1 * 2 ^ (kindN n).toNat := by
  rcases numB_cases n with ⟨_, h2, h3⟩ | ⟨_, _, h2, h3⟩ | ⟨_, _, h2, h3⟩ | ⟨_, h2, h3⟩ <;> (rw [h2, h3]; rfl)
theorem or64 (a k : Int) (ha : 0 ≤ a ∧ a < 64) (hk : 0 ≤ k ∧ k ≤ 3) : bits .or .u8 a (k * 64) = a + k * 64 := by
  have key : ∀ x : Fin 64, ∀ y : Fin 4, bits .or .u8 (x.val : Int) ((y.val : Int) * 64) = (x.val : Int) + (y.val : Int) * 64 := by decide +kernel
  have := key ⟨a.toNat, by omega⟩ ⟨k.toNat, by omega⟩
  simp only [Int.toNat_of_nonneg ha.1, Int.toNat_of_nonneg hk.1] at this
  exact this
theorem numB_head (n : Int) (h : 0 ≤ n ∧ n ≤ 4611686018427387903) : 0 ≤ (numB n).getD 0 0 - kindN n * 64 ∧ (numB n).getD 0 0 - kindN n * 64 < 64 ∧ 0 ≤ kindN n ∧ kindN n ≤ 3 := by
  rcases numB_cases n with ⟨_, h2, h3⟩ | ⟨_, _, h2, h3⟩ | ⟨_, _, h2, h3⟩ | ⟨_, h2, h3⟩ <;> (rw [h2, h3]; simp; omega)
theorem byteAt (n : Int) (h : 0 ≤ n ∧ n ≤ 4611686018427387903) (i : Nat) (hi : i < (numB n).length) :
    n / 2 ^ (8 * (((numB n).length : Int) - 1 - i)).toNat % 256 = if i = 0 then (numB n).getD 0 0 - kindN n * 64 else (numB n).getD i 0 := by
  rcases numB_cases n with ⟨h1, h2, h3⟩ | ⟨h1, h0, h2, h3⟩ | ⟨h1, h0, h2, h3⟩ | ⟨h1, h2, h3⟩ <;> rw [h3] at hi ⊢ <;> rw [h2]
  · obtain rfl : i = 0 := by simp at hi; omega
    simp
    omega
  · obtain rfl | rfl : i = 0 ∨ i = 1 := by simp at hi; omega
    all_goals simp
    all_goals omega
  · obtain rfl | rfl | rfl | rfl : i = 0 ∨ i = 1 ∨ i = 2 ∨ i = 3 := by simp at hi; omega
    all_goals simp
    all_goals omega
  · obtain rfl | rfl | rfl | rfl | rfl | rfl | rfl | rfl : i = 0 ∨ i = 1 ∨ i = 2 ∨ i = 3 ∨ i = 4 ∨ i = 5 ∨ i = 6 ∨ i = 7 := by simp at hi; omega
    all_goals simp
    all_goals omega
theorem byts_snoc {out : List Int} (l : List Int) (i : Nat) (h : i < l.length) : byts (out ++ l.take i) ++ [[.one (.int .u8 (l.getD i 0))]] = byts (out ++ l.take (i + 1)) := by
  have e : out ++ l.take (i + 1) = (out ++ l.take i) ++ [l.getD i 0] := by
    rw [List.take_succ_eq_append_getElem h, ← List.append_assoc, List.getD_eq_getElem?_getD, List.getElem?_eq_getElem h]
    rfl
  rw [e, byts_app (out ++ l.take i)]
  rfl
theorem wnum_ok (n : Int) (h : 0 ≤ n ∧ n ≤ 4611686018427387903) (hb : out.length < 1000000000) (hM : Mem H w0 (wrR g out bad :: L) w) : Calls Tryz.prog 46 #[.pointer (some ⟨g, 0, none⟩), .int .i64 n] w fun en w' => ∃ v, en = .returned v ∧ v = .tuple #[] ∧ Mem H w0 (wrR g (out ++ numB n) bad :: L) w' := by
  refine C_wire_Writer_Num ?_
  unfold F_wire_Writer_Num
  ((with_reducible (refine mop_c trivial ?_; refine mif_false ?_)))
  refine ⟨fun x w' => x = .bool false ∧ hM.now w', ?_, ?_⟩
  · ((with_reducible (refine mop_cF trivial ?_ ?_)); (focus (first | assumption | omega | with_reducible rfl | exact fun h => Bool.noConfusion h)); (with_reducible (refine mguard_yes ?_; refine mop_c trivial ?_; refine mguard_yes ?_; refine mop_cF trivial ?_ ?_)); (focus (first | assumption | omega | with_reducible rfl | exact fun h => Bool.noConfusion h)); (with_reducible (refine mop_c trivial ?_)))
    exact ⟨rfl, hM⟩
  rintro x u w1 ⟨rfl, hM⟩
  ((with_reducible (refine mif_false ?_)))
  refine ⟨fun x w' => ∃ k : Nat, x = .int .i64 k ∧ k ≤ 3 ∧ (1 ≤ k → 64 ≤ n) ∧ (2 ≤ k → 16384 ≤ n) ∧ (3 ≤ k → 1073741824 ≤ n) ∧ hM.now w', fun x _ => match x with | .int _ i => 3 - i.toNat | _ => 0, ⟨0, rfl, by omega, by omega, by omega, by omega, hM⟩, ?_⟩
  rintro x u w2 ⟨k, rfl, hk, h1, h2, h3, hM⟩
  have hlen := numB_length n
  refine ⟨fun w' => k < 3 ∧ (k = 0 → 64 ≤ n) ∧ (k = 1 → 16384 ≤ n) ∧ (k = 2 → 1073741824 ≤ n) ∧ hM.now w', ?_, ?_⟩
  · obtain rfl | rfl | rfl | rfl : k = 0 ∨ k = 1 ∨ k = 2 ∨ k = 3 := by omega
    · have e0 : (((0 : Nat) : Int)) = 0 := rfl
      simp only [e0]
      ((with_reducible (refine mop_cT trivial ?_ ?_)); (focus (first | assumption | omega | with_reducible rfl | exact fun h => Bool.noConfusion h)); (with_reducible (refine mguard_yes ?_; refine mop_c trivial ?_; refine mguard_yes ?_; refine mm_purC hM ?_ (fun _ hM2 => ?_))); (focus (first | exact trivial | assumption | omega)); (with_reducible (replace hM := hM2; clear hM2; refine mguard_yes ?_; refine mop_c trivial ?_; refine mguard_yes ?_)))
      refine mop_pur (v := .int .i64 64) (fun w => by kernel_rfl) ?_
      ((with_reducible (refine mguard_yes ?_)))
      ((with_reducible (refine mop_cS trivial ?_ ?_)))
      · intro hn
        ((with_reducible (refine mop_c trivial ?_; refine mif_true ?_)))
        exact ⟨by omega, by omega, by omega, by omega, hM⟩
      · intro hn
        ((with_reducible (refine mop_c trivial ?_; refine mif_false ?_)))
        have hkn : (0 : Int) = kindN n := by
          unfold kindN
          simp at h1 h2 h3
          repeat' split
          all_goals omega
        refine mop_pur (p_shl _ _ _ _ _ _ (by omega) (by simp [IntKind.bits])) ?_
        have hL : IntKind.i64.wrap (1 * 2 ^ (0 : Int).toNat) = ((numB n).length : Int) := by
          rw [numB_len, ← hkn]
          rfl
        rw [hL]
        refine ⟨fun x w' => ∃ i : Nat, x = .int .i64 i ∧ i ≤ (numB n).length ∧ Mem H w0 (wrR g (out ++ (numB n).take i) bad :: L) w', fun x _ => match x with | .int _ i => (numB n).length - i.toNat | _ => 0, ⟨0, rfl, by omega, by simpa using hM⟩, ?_⟩
        clear hM
        rintro x u w4 ⟨i, rfl, hi, hM⟩
        skip
        ((with_reducible (refine mop_cS trivial ?_ ?_)))
        · intro hlt
          have hlt' : i < (numB n).length := by omega
          have hby := byteAt n h i hlt'
          have hhd := numB_head n h
          ((with_reducible (refine mif_true ?_; refine mop_c ?_ ?_)); (focus omega); (with_reducible (refine mop_c ?_ ?_)); (focus omega); (with_reducible (refine mop_c ?_ ?_)); (focus omega); (with_reducible (refine mop_c ?_ ?_)); (focus omega); (with_reducible (refine mop_c trivial ?_)))
          rw [hby]
          refine ⟨fun x w' => x = .int .u8 ((numB n).getD i 0) ∧ hM.now w', ?_, ?_⟩
          · skip
            ((with_reducible (refine mop_cS trivial ?_ ?_)))
            · intro h0
              obtain rfl : i = 0 := by omega
              ((with_reducible (refine mif_true ?_)))
              refine mop_pur (p_shl _ _ _ _ _ _ (by omega) (by simp [IntKind.bits])) ?_
              have h6 : IntKind.i64.wrap ((0 : Int) * 2 ^ (6 : Int).toNat) = kindN n * 64 := by
                rw [← hkn]
                rfl
              rw [h6]
              ((with_reducible (refine mop_c trivial ?_; refine mop_c trivial ?_)))
              refine ⟨?_, hM⟩
              rw [if_pos rfl, Int.emod_eq_of_lt (by omega) (by omega), or64 _ _ (by omega) (by omega)]
              congr 1
              omega
            · intro h0
              ((with_reducible (refine mif_false ?_)))
              exact ⟨by rw [if_neg (by omega)], hM⟩
          · rintro x u w5 ⟨rfl, hM⟩
            obtain ⟨A, c, hM⟩ := hM.wr
            have hol : (out ++ (numB n).take i).length ≤ out.length + 8 := by rw [List.length_append, List.length_take]; omega
            ((with_reducible (refine mop_c trivial ?_; refine mop_c trivial ?_; refine mm_ld hM ?_; refine mm_bsl hM ?_ ?_ ?_)); (focus rfl); (focus (constructor <;> simp)); (with_reducible (clear hM; intro _ _ hM; refine mm_appo hM ?_ ?_)); (focus omega); (with_reducible (clear hM; intro _ _ _ hM; refine mop_c trivial ?_; refine mop_c trivial ?_; refine mm_st hM ?_; clear hM; intro _ hM; refine mop_c ?_ ?_)); (focus omega))
            rw [byts_snoc _ _ hlt'] at hM
            have hl2 : (out ++ (numB n).take i).length + 1 = (out ++ (numB n).take (i + 1)).length := by
              rw [List.length_append, List.length_append, List.length_take, List.length_take]; omega
            have hM2 := Mem.unwr (hM.upB g) hl2
            refine ⟨⟨i + 1, by rw [Int.natCast_add]; rfl, by omega, hM2⟩, ?_⟩
            show (numB n).length - ((i : Int) + 1).toNat < (numB n).length - (i : Int).toNat
            omega
        · intro hge
          ((with_reducible (refine mif_false ?_)))
          rw [List.take_of_length_le (by omega)] at hM
          exact ⟨_, rfl, rfl, hM⟩
    · have e0 : (((1 : Nat) : Int)) = 1 := rfl
      simp only [e0]
      ((with_reducible (refine mop_cT trivial ?_ ?_)); (focus (first | assumption | omega | with_reducible rfl | exact fun h => Bool.noConfusion h)); (with_reducible (refine mguard_yes ?_; refine mop_c trivial ?_; refine mguard_yes ?_; refine mm_purC hM ?_ (fun _ hM2 => ?_))); (focus (first | exact trivial | assumption | omega)); (with_reducible (replace hM := hM2; clear hM2; refine mguard_yes ?_; refine mop_c trivial ?_; refine mguard_yes ?_)))
      refine mop_pur (v := .int .i64 16384) (fun w => by kernel_rfl) ?_
      ((with_reducible (refine mguard_yes ?_)))
      ((with_reducible (refine mop_cS trivial ?_ ?_)))
      · intro hn
        ((with_reducible (refine mop_c trivial ?_; refine mif_true ?_)))
        exact ⟨by omega, by omega, by omega, by omega, hM⟩
      · intro hn
        ((with_reducible (refine mop_c trivial ?_; refine mif_false ?_)))
        have hkn : (1 : Int) = kindN n := by
          unfold kindN
          simp at h1 h2 h3
          repeat' split
          all_goals omega
        refine mop_pur (p_shl _ _ _ _ _ _ (by omega) (by simp [IntKind.bits])) ?_
        have hL : IntKind.i64.wrap (1 * 2 ^ (1 : Int).toNat) = ((numB n).length : Int) := by
          rw [numB_len, ← hkn]
          rfl
        rw [hL]
        refine ⟨fun x w' => ∃ i : Nat, x = .int .i64 i ∧ i ≤ (numB n).length ∧ Mem H w0 (wrR g (out ++ (numB n).take i) bad :: L) w', fun x _ => match x with | .int _ i => (numB n).length - i.toNat | _ => 0, ⟨0, rfl, by omega, by simpa using hM⟩, ?_⟩
        clear hM
        rintro x u w4 ⟨i, rfl, hi, hM⟩
        skip
        ((with_reducible (refine mop_cS trivial ?_ ?_)))
        · intro hlt
          have hlt' : i < (numB n).length := by omega
          have hby := byteAt n h i hlt'
          have hhd := numB_head n h
          ((with_reducible (refine mif_true ?_; refine mop_c ?_ ?_)); (focus omega); (with_reducible (refine mop_c ?_ ?_)); (focus omega); (with_reducible (refine mop_c ?_ ?_)); (focus omega); (with_reducible (refine mop_c ?_ ?_)); (focus omega); (with_reducible (refine mop_c trivial ?_)))
          rw [hby]
          refine ⟨fun x w' => x = .int .u8 ((numB n).getD i 0) ∧ hM.now w', ?_, ?_⟩
          · skip
            ((with_reducible (refine mop_cS trivial ?_ ?_)))
            · intro h0
              obtain rfl : i = 0 := by omega
              ((with_reducible (refine mif_true ?_)))
              refine mop_pur (p_shl _ _ _ _ _ _ (by omega) (by simp [IntKind.bits])) ?_
              have h6 : IntKind.i64.wrap ((1 : Int) * 2 ^ (6 : Int).toNat) = kindN n * 64 := by
                rw [← hkn]
                rfl
              rw [h6]
              ((with_reducible (refine mop_c trivial ?_; refine mop_c trivial ?_)))
              refine ⟨?_, hM⟩
              rw [if_pos rfl, Int.emod_eq_of_lt (by omega) (by omega), or64 _ _ (by omega) (by omega)]
              congr 1
              omega
            · intro h0
              ((with_reducible (refine mif_false ?_)))
              exact ⟨by rw [if_neg (by omega)], hM⟩
          · rintro x u w5 ⟨rfl, hM⟩
            obtain ⟨A, c, hM⟩ := hM.wr
            have hol : (out ++ (numB n).take i).length ≤ out.length + 8 := by rw [List.length_append, List.length_take]; omega
            ((with_reducible (refine mop_c trivial ?_; refine mop_c trivial ?_; refine mm_ld hM ?_; refine mm_bsl hM ?_ ?_ ?_)); (focus rfl); (focus (constructor <;> simp)); (with_reducible (clear hM; intro _ _ hM; refine mm_appo hM ?_ ?_)); (focus omega); (with_reducible (clear hM; intro _ _ _ hM; refine mop_c trivial ?_; refine mop_c trivial ?_; refine mm_st hM ?_; clear hM; intro _ hM; refine mop_c ?_ ?_)); (focus omega))
            rw [byts_snoc _ _ hlt'] at hM
            have hl2 : (out ++ (numB n).take i).length + 1 = (out ++ (numB n).take (i + 1)).length := by
              rw [List.length_append, List.length_append, List.length_take, List.length_take]; omega
            have hM2 := Mem.unwr (hM.upB g) hl2
            refine ⟨⟨i + 1, by rw [Int.natCast_add]; rfl, by omega, hM2⟩, ?_⟩
            show (numB n).length - ((i : Int) + 1).toNat < (numB n).length - (i : Int).toNat
            omega
        · intro hge
          ((with_reducible (refine mif_false ?_)))
          rw [List.take_of_length_le (by omega)] at hM
          exact ⟨_, rfl, rfl, hM⟩
    · have e0 : (((2 : Nat) : Int)) = 2 := rfl
      simp only [e0]
      ((with_reducible (refine mop_cT trivial ?_ ?_)); (focus (first | assumption | omega | with_reducible rfl | exact fun h => Bool.noConfusion h)); (with_reducible (refine mguard_yes ?_; refine mop_c trivial ?_; refine mguard_yes ?_; refine mm_purC hM ?_ (fun _ hM2 => ?_))); (focus (first | exact trivial | assumption | omega)); (with_reducible (replace hM := hM2; clear hM2; refine mguard_yes ?_; refine mop_c trivial ?_; refine mguard_yes ?_)))
      refine mop_pur (v := .int .i64 1073741824) (fun w => by kernel_rfl) ?_
      ((with_reducible (refine mguard_yes ?_)))
      ((with_reducible (refine mop_cS trivial ?_ ?_)))
      · intro hn
        ((with_reducible (refine mop_c trivial ?_; refine mif_true ?_)))
        exact ⟨by omega, by omega, by omega, by omega, hM⟩
      · intro hn
        ((with_reducible (refine mop_c trivial ?_; refine mif_false ?_)))
        have hkn : (2 : Int) = kindN n := by
          unfold kindN
          simp at h1 h2 h3
          repeat' split
          all_goals omega
        refine mop_pur (p_shl _ _ _ _ _ _ (by omega) (by simp [IntKind.bits])) ?_
        have hL : IntKind.i64.wrap (1 * 2 ^ (2 : Int).toNat) = ((numB n).length : Int) := by
          rw [numB_len, ← hkn]
          rfl
        rw [hL]
        refine ⟨fun x w' => ∃ i : Nat, x = .int .i64 i ∧ i ≤ (numB n).length ∧ Mem H w0 (wrR g (out ++ (numB n).take i) bad :: L) w', fun x _ => match x with | .int _ i => (numB n).length - i.toNat | _ => 0, ⟨0, rfl, by omega, by simpa using hM⟩, ?_⟩
        clear hM
        rintro x u w4 ⟨i, rfl, hi, hM⟩
        skip
        ((with_reducible (refine mop_cS trivial ?_ ?_)))
        · intro hlt
          have hlt' : i < (numB n).length := by omega
          have hby := byteAt n h i hlt'
          have hhd := numB_head n h
          ((with_reducible (refine mif_true ?_; refine mop_c ?_ ?_)); (focus omega); (with_reducible (refine mop_c ?_ ?_)); (focus omega); (with_reducible (refine mop_c ?_ ?_)); (focus omega); (with_reducible (refine mop_c ?_ ?_)); (focus omega); (with_reducible (refine mop_c trivial ?_)))
          rw [hby]
          refine ⟨fun x w' => x = .int .u8 ((numB n).getD i 0) ∧ hM.now w', ?_, ?_⟩
          · skip
            ((with_reducible (refine mop_cS trivial ?_ ?_)))
            · intro h0
              obtain rfl : i = 0 := by omega
              ((with_reducible (refine mif_true ?_)))
              refine mop_pur (p_shl _ _ _ _ _ _ (by omega) (by simp [IntKind.bits])) ?_
              have h6 : IntKind.i64.wrap ((2 : Int) * 2 ^ (6 : Int).toNat) = kindN n * 64 := by
                rw [← hkn]
                rfl
              rw [h6]
              ((with_reducible (refine mop_c trivial ?_; refine mop_c trivial ?_)))
              refine ⟨?_, hM⟩
              rw [if_pos rfl, Int.emod_eq_of_lt (by omega) (by omega), or64 _ _ (by omega) (by omega)]
              congr 1
              omega
            · intro h0
              ((with_reducible (refine mif_false ?_)))
              exact ⟨by rw [if_neg (by omega)], hM⟩
          · rintro x u w5 ⟨rfl, hM⟩
            obtain ⟨A, c, hM⟩ := hM.wr
            have hol : (out ++ (numB n).take i).length ≤ out.length + 8 := by rw [List.length_append, List.length_take]; omega
            ((with_reducible (refine mop_c trivial ?_; refine mop_c trivial ?_; refine mm_ld hM ?_; refine mm_bsl hM ?_ ?_ ?_)); (focus rfl); (focus (constructor <;> simp)); (with_reducible (clear hM; intro _ _ hM; refine mm_appo hM ?_ ?_)); (focus omega); (with_reducible (clear hM; intro _ _ _ hM; refine mop_c trivial ?_; refine mop_c trivial ?_; refine mm_st hM ?_; clear hM; intro _ hM; refine mop_c ?_ ?_)); (focus omega))
            rw [byts_snoc _ _ hlt'] at hM
            have hl2 : (out ++ (numB n).take i).length + 1 = (out ++ (numB n).take (i + 1)).length := by
              rw [List.length_append, List.length_append, List.length_take, List.length_take]; omega
            have hM2 := Mem.unwr (hM.upB g) hl2
            refine ⟨⟨i + 1, by rw [Int.natCast_add]; rfl, by omega, hM2⟩, ?_⟩
            show (numB n).length - ((i : Int) + 1).toNat < (numB n).length - (i : Int).toNat
            omega
        · intro hge
          ((with_reducible (refine mif_false ?_)))
          rw [List.take_of_length_le (by omega)] at hM
          exact ⟨_, rfl, rfl, hM⟩
    · have e0 : (((3 : Nat) : Int)) = 3 := rfl
      simp only [e0]
      ((with_reducible (refine mop_cF trivial ?_ ?_)); (focus (first | assumption | omega | with_reducible rfl | exact fun h => Bool.noConfusion h)); (with_reducible ((iterate 5 refine mguard_n2 ?_); refine mop_c trivial ?_; refine mif_false ?_)))
      · have hkn : (3 : Int) = kindN n := by
          unfold kindN
          simp at h1 h2 h3
          repeat' split
          all_goals omega
        refine mop_pur (p_shl _ _ _ _ _ _ (by omega) (by simp [IntKind.bits])) ?_
        have hL : IntKind.i64.wrap (1 * 2 ^ (3 : Int).toNat) = ((numB n).length : Int) := by
          rw [numB_len, ← hkn]
          rfl
        rw [hL]
        refine ⟨fun x w' => ∃ i : Nat, x = .int .i64 i ∧ i ≤ (numB n).length ∧ Mem H w0 (wrR g (out ++ (numB n).take i) bad :: L) w', fun x _ => match x with | .int _ i => (numB n).length - i.toNat | _ => 0, ⟨0, rfl, by omega, by simpa using hM⟩, ?_⟩
        clear hM
        rintro x u w4 ⟨i, rfl, hi, hM⟩
        skip
        ((with_reducible (refine mop_cS trivial ?_ ?_)))
        · intro hlt
          have hlt' : i < (numB n).length := by omega
          have hby := byteAt n h i hlt'
          have hhd := numB_head n h
          ((with_reducible (refine mif_true ?_; refine mop_c ?_ ?_)); (focus omega); (with_reducible (refine mop_c ?_ ?_)); (focus omega); (with_reducible (refine mop_c ?_ ?_)); (focus omega); (with_reducible (refine mop_c ?_ ?_)); (focus omega); (with_reducible (refine mop_c trivial ?_)))
          rw [hby]
          refine ⟨fun x w' => x = .int .u8 ((numB n).getD i 0) ∧ hM.now w', ?_, ?_⟩
          · skip
            ((with_reducible (refine mop_cS trivial ?_ ?_)))
            · intro h0
              obtain rfl : i = 0 := by omega
              ((with_reducible (refine mif_true ?_)))
              refine mop_pur (p_shl _ _ _ _ _ _ (by omega) (by simp [IntKind.bits])) ?_
              have h6 : IntKind.i64.wrap ((3 : Int) * 2 ^ (6 : Int).toNat) = kindN n * 64 := by
                rw [← hkn]
                rfl
              rw [h6]
              ((with_reducible (refine mop_c trivial ?_; refine mop_c trivial ?_)))
              refine ⟨?_, hM⟩
              rw [if_pos rfl, Int.emod_eq_of_lt (by omega) (by omega), or64 _ _ (by omega) (by omega)]
              congr 1
              omega
            · intro h0
              ((with_reducible (refine mif_false ?_)))
              exact ⟨by rw [if_neg (by omega)], hM⟩
          · rintro x u w5 ⟨rfl, hM⟩
            obtain ⟨A, c, hM⟩ := hM.wr
            have hol : (out ++ (numB n).take i).length ≤ out.length + 8 := by rw [List.length_append, List.length_take]; omega
            ((with_reducible (refine mop_c trivial ?_; refine mop_c trivial ?_; refine mm_ld hM ?_; refine mm_bsl hM ?_ ?_ ?_)); (focus rfl); (focus (constructor <;> simp)); (with_reducible (clear hM; intro _ _ hM; refine mm_appo hM ?_ ?_)); (focus omega); (with_reducible (clear hM; intro _ _ _ hM; refine mop_c trivial ?_; refine mop_c trivial ?_; refine mm_st hM ?_; clear hM; intro _ hM; refine mop_c ?_ ?_)); (focus omega))
            rw [byts_snoc _ _ hlt'] at hM
            have hl2 : (out ++ (numB n).take i).length + 1 = (out ++ (numB n).take (i + 1)).length := by
              rw [List.length_append, List.length_append, List.length_take, List.length_take]; omega
            have hM2 := Mem.unwr (hM.upB g) hl2
            refine ⟨⟨i + 1, by rw [Int.natCast_add]; rfl, by omega, hM2⟩, ?_⟩
            show (numB n).length - ((i : Int) + 1).toNat < (numB n).length - (i : Int).toNat
            omega
        · intro hge
          ((with_reducible (refine mif_false ?_)))
          rw [List.take_of_length_le (by omega)] at hM
          exact ⟨_, rfl, rfl, hM⟩
  · rintro u w3 ⟨hk3, g1, g2, g3, hM⟩
    ((with_reducible (refine mop_c ?_ ?_)); (focus omega))
    exact ⟨⟨k + 1, by simp, by omega, fun _ => by omega, fun _ => by omega, fun _ => by omega, hM⟩, by simp; omega⟩
theorem wend_ok (hM : Mem H w0 (wrR g out false :: L) w) : Calls Tryz.prog 49 #[.pointer (some ⟨g, 0, none⟩)] w fun en w' => en = .returned (.tuple #[.string (strOfNums out), .int .i64 0]) ∧ St w [] w' := by
  refine C_wire_Writer_End ?_
  unfold F_wire_Writer_End
  obtain ⟨A, c, hM⟩ := hM.wr
  refine ⟨fun x w' => x = .bool false ∧ w = w', ?_, ?_⟩
  · ((with_reducible (refine mop_c trivial ?_; refine mguard_yes ?_; refine mop_c trivial ?_; refine mguard_yes ?_; refine mop_c trivial ?_; refine mguard_yes ?_; refine mop_c trivial ?_; refine mguard_yes ?_; refine mm_ld hM ?_; refine mop_c trivial ?_)))
    exact ⟨rfl, rfl⟩
  rintro x u w2 ⟨rfl, rfl⟩
  ((with_reducible (refine mif_false ?_; refine mop_c trivial ?_; refine mop_c trivial ?_; refine mm_ld hM ?_)))
  refine mm_cvr hM (Nat.le_refl _) ?_
  rw [List.take_length]
  exact ⟨rfl, St.nil w⟩
end
end Go.Proofs.YtopcnkejobomaaaGreat
namespace Go.Proofs.YtopcnkejobomaaaGreat
open Go.RowKit
theorem dp_cat {P : Program} {t : TypeId} {q : Bool} {K : Value → Prop} (a b : List Int) (h : a.length + b.length ≤ 1000000000000) (hk : K (.string (strOfNums (a ++ b)))) : dp P (o_bin .add t q (.string (strOfNums a)) (.string (strOfNums b))) K := by
  refine dp_c (by rw [strOfNums_size, strOfNums_size]; omega) ?_
  rw [strOfNums_append]
  exact hk
theorem mop_cat {P : Program} {t : TypeId} {q : Bool} {w : World} {K : Value → World → Prop} {X : List PanicEntry → World → Prop} (a b : List Int) (h : a.length + b.length ≤ 1000000000000) (hk : K (.string (strOfNums (a ++ b))) w) : mop P (o_bin .add t q (.string (strOfNums a)) (.string (strOfNums b))) w K X := by
  refine mop_c (by rw [strOfNums_size, strOfNums_size]; omega) ?_
  rw [strOfNums_append]
  exact hk
section
variable {H : Hp} {w0 w : World} {L R : List Res} {g : Nat}
theorem rnum_ok (n : Int) (h : 0 ≤ n ∧ n ≤ 4611686018427387903) (w : World) : Calls Tryz.prog 50 #[.int .i64 n] w fun en w' => en = .returned (.string (strOfNums (numB n))) ∧ St w [] w' := by
  have hM := Mem.start (Fz.of w)
  refine C_bevyref01_Num ?_
  unfold F_bevyref01_Num
  ((with_reducible (refine mop_cS trivial ?_ ?_)))
  · intro h1
    ((with_reducible (refine mif_true ?_; refine mop_c trivial ?_; refine mm_bsl hM ?_ ?_ ?_)); (focus rfl); (focus (constructor <;> simp)); (with_reducible (clear hM; intro _ _ hM)))
    refine mm_cvr (l := [n % 256]) (R := []) (a := ⟨.refl _⟩) hM (by simp) ?_
    refine ⟨?_, hM.st⟩
    unfold numB
    rw [if_pos h1, Int.emod_eq_of_lt h.1 (by omega)]
    rfl
  · intro h1
    ((with_reducible (refine mif_false ?_)))
    ((with_reducible (refine mop_cS trivial ?_ ?_)))
    · intro h2
      ((with_reducible (refine mif_true ?_; refine mop_c ?_ ?_)); (focus omega); (with_reducible (refine mop_c ?_ ?_)); (focus omega); (with_reducible (refine mop_c trivial ?_; refine mop_c ?_ ?_)); (focus omega); (with_reducible (refine mop_c trivial ?_; refine mm_bsl hM ?_ ?_ ?_)); (focus rfl); (focus (constructor <;> simp)); (with_reducible (clear hM; intro _ _ hM)))
      refine mm_cvr (l := [(64 + n / 256) % 256, n % 256 % 256]) (R := []) (a := ⟨.refl _⟩) hM (by simp) ?_
      refine ⟨?_, hM.st⟩
      unfold numB
      rw [if_neg h1, if_pos h2, Int.emod_eq_of_lt (a := 64 + n / 256) (by omega) (by omega), Int.emod_emod_of_dvd _ (by omega)]
      rfl
    · intro h2
      ((with_reducible (refine mif_false ?_)))
      ((with_reducible (refine mop_cS trivial ?_ ?_)))
      · intro h3
        ((with_reducible (refine mif_true ?_; refine mop_c ?_ ?_)); (focus omega); (with_reducible (refine mop_c ?_ ?_)); (focus omega); (with_reducible (refine mop_c trivial ?_; refine mop_c ?_ ?_)); (focus omega); (with_reducible (refine mop_c ?_ ?_)); (focus omega); (with_reducible (refine mop_c trivial ?_; refine mop_c ?_ ?_)); (focus omega); (with_reducible (refine mop_c ?_ ?_)); (focus omega); (with_reducible (refine mop_c trivial ?_; refine mop_c ?_ ?_)); (focus omega); (with_reducible (refine mop_c trivial ?_; refine mm_bsl hM ?_ ?_ ?_)); (focus rfl); (focus (constructor <;> simp)); (with_reducible (clear hM; intro _ _ hM)))
        refine mm_cvr (l := [(128 + n / 16777216) % 256, n / 65536 % 256 % 256, n / 256 % 256 % 256, n % 256 % 256]) (R := []) (a := ⟨.refl _⟩) hM (by simp) ?_
        refine ⟨?_, hM.st⟩
        unfold numB
        rw [if_neg h1, if_neg h2, if_pos h3, Int.emod_eq_of_lt (a := 128 + n / 16777216) (by omega) (by omega)]
        simp only [Int.emod_emod_of_dvd _ (Int.dvd_refl 256)]
        rfl
      · intro h3
        ((with_reducible (refine mif_false ?_; refine mm_new hM ?_; clear hM; intro _ _ hM)))
        rename_i g _
        refine ⟨fun x y w' => (x = .int .i64 (n) ∧ y = .int .i64 (7) ∧ Mem (Hp.of w) w [fb g 144 [.one (.int .u8 0), .one (.int .u8 0), .one (.int .u8 0), .one (.int .u8 0), .one (.int .u8 0), .one (.int .u8 0), .one (.int .u8 0), .one (.int .u8 0)]] w') ∨ (x = .int .i64 (n / 256) ∧ y = .int .i64 (6) ∧ Mem (Hp.of w) w [fb g 144 [.one (.int .u8 0), .one (.int .u8 0), .one (.int .u8 0), .one (.int .u8 0), .one (.int .u8 0), .one (.int .u8 0), .one (.int .u8 0), .one (.int .u8 (n % 256 % 256))]] w') ∨ (x = .int .i64 (n / 65536) ∧ y = .int .i64 (5) ∧ Mem (Hp.of w) w [fb g 144 [.one (.int .u8 0), .one (.int .u8 0), .one (.int .u8 0), .one (.int .u8 0), .one (.int .u8 0), .one (.int .u8 0), .one (.int .u8 (n / 256 % 256 % 256)), .one (.int .u8 (n % 256 % 256))]] w') ∨ (x = .int .i64 (n / 16777216) ∧ y = .int .i64 (4) ∧ Mem (Hp.of w) w [fb g 144 [.one (.int .u8 0), .one (.int .u8 0), .one (.int .u8 0), .one (.int .u8 0), .one (.int .u8 0), .one (.int .u8 (n / 65536 % 256 % 256)), .one (.int .u8 (n / 256 % 256 % 256)), .one (.int .u8 (n % 256 % 256))]] w') ∨ (x = .int .i64 (n / 4294967296) ∧ y = .int .i64 (3) ∧ Mem (Hp.of w) w [fb g 144 [.one (.int .u8 0), .one (.int .u8 0), .one (.int .u8 0), .one (.int .u8 0), .one (.int .u8 (n / 16777216 % 256 % 256)), .one (.int .u8 (n / 65536 % 256 % 256)), .one (.int .u8 (n / 256 % 256 % 256)), .one (.int .u8 (n % 256 % 256))]] w') ∨ (x = .int .i64 (n / 1099511627776) ∧ y = .int .i64 (2) ∧ Mem (Hp.of w) w [fb g 144 [.one (.int .u8 0), .one (.int .u8 0), .one (.int .u8 0), .one (.int .u8 (n / 4294967296 % 256 % 256)), .one (.int .u8 (n / 16777216 % 256 % 256)), .one (.int .u8 (n / 65536 % 256 % 256)), .one (.int .u8 (n / 256 % 256 % 256)), .one (.int .u8 (n % 256 % 256))]] w') ∨ (x = .int .i64 (n / 281474976710656) ∧ y = .int .i64 (1) ∧ Mem (Hp.of w) w [fb g 144 [.one (.int .u8 0), .one (.int .u8 0), .one (.int .u8 (n / 1099511627776 % 256 % 256)), .one (.int .u8 (n / 4294967296 % 256 % 256)), .one (.int .u8 (n / 16777216 % 256 % 256)), .one (.int .u8 (n / 65536 % 256 % 256)), .one (.int .u8 (n / 256 % 256 % 256)), .one (.int .u8 (n % 256 % 256))]] w') ∨ (x = .int .i64 (n / 72057594037927936) ∧ y = .int .i64 (0) ∧ Mem (Hp.of w) w [fb g 144 [.one (.int .u8 0), .one (.int .u8 (n / 281474976710656 % 256 % 256)), .one (.int .u8 (n / 1099511627776 % 256 % 256)), .one (.int .u8 (n / 4294967296 % 256 % 256)), .one (.int .u8 (n / 16777216 % 256 % 256)), .one (.int .u8 (n / 65536 % 256 % 256)), .one (.int .u8 (n / 256 % 256 % 256)), .one (.int .u8 (n % 256 % 256))]] w') ∨ (x = .int .i64 (n / 18446744073709551616) ∧ y = .int .i64 (-1) ∧ Mem (Hp.of w) w [fb g 144 [.one (.int .u8 (n / 72057594037927936 % 256 % 256)), .one (.int .u8 (n / 281474976710656 % 256 % 256)), .one (.int .u8 (n / 1099511627776 % 256 % 256)), .one (.int .u8 (n / 4294967296 % 256 % 256)), .one (.int .u8 (n / 16777216 % 256 % 256)), .one (.int .u8 (n / 65536 % 256 % 256)), .one (.int .u8 (n / 256 % 256 % 256)), .one (.int .u8 (n % 256 % 256))]] w'), fun _ y _ => match y with | .int _ i => (i + 1).toNat | _ => 0, .inl ⟨rfl, rfl, hM⟩, ?_⟩
        clear hM
        rintro x y u w2 (⟨rfl, rfl, hM⟩ | ⟨rfl, rfl, hM⟩ | ⟨rfl, rfl, hM⟩ | ⟨rfl, rfl, hM⟩ | ⟨rfl, rfl, hM⟩ | ⟨rfl, rfl, hM⟩ | ⟨rfl, rfl, hM⟩ | ⟨rfl, rfl, hM⟩ | ⟨rfl, rfl, hM⟩)
        · ((with_reducible (refine mop_cT trivial ?_ ?_)); (focus (first | assumption | omega | with_reducible rfl | exact fun h => Bool.noConfusion h)); (with_reducible (refine mif_true ?_; refine mop_c ?_ ?_)); (focus omega); (with_reducible (refine mop_c trivial ?_; refine mop_c trivial ?_; refine mm_st hM ?_; clear hM; intro _ hM; refine mop_c ?_ ?_)); (focus omega); (with_reducible (refine mop_c ?_ ?_)); (focus omega))
          refine ⟨.inr (.inl ⟨by first | rfl | (congr 1; omega), rfl, hM⟩), by first | decide | (dsimp only; omega) | (simp; done)⟩
        · ((with_reducible (refine mop_cT trivial ?_ ?_)); (focus (first | assumption | omega | with_reducible rfl | exact fun h => Bool.noConfusion h)); (with_reducible (refine mif_true ?_; refine mop_c ?_ ?_)); (focus omega); (with_reducible (refine mop_c trivial ?_; refine mop_c trivial ?_; refine mm_st hM ?_; clear hM; intro _ hM; refine mop_c ?_ ?_)); (focus omega); (with_reducible (refine mop_c ?_ ?_)); (focus omega))
          refine ⟨.inr (.inr (.inl ⟨by first | rfl | (congr 1; omega), rfl, hM⟩)), by first | decide | (dsimp only; omega) | (simp; done)⟩
        · ((with_reducible (refine mop_cT trivial ?_ ?_)); (focus (first | assumption | omega | with_reducible rfl | exact fun h => Bool.noConfusion h)); (with_reducible (refine mif_true ?_; refine mop_c ?_ ?_)); (focus omega); (with_reducible (refine mop_c trivial ?_; refine mop_c trivial ?_; refine mm_st hM ?_; clear hM; intro _ hM; refine mop_c ?_ ?_)); (focus omega); (with_reducible (refine mop_c ?_ ?_)); (focus omega))
          refine ⟨.inr (.inr (.inr (.inl ⟨by first | rfl | (congr 1; omega), rfl, hM⟩))), by first | decide | (dsimp only; omega) | (simp; done)⟩
        · ((with_reducible (refine mop_cT trivial ?_ ?_)); (focus (first | assumption | omega | with_reducible rfl | exact fun h => Bool.noConfusion h)); (with_reducible (refine mif_true ?_; refine mop_c ?_ ?_)); (focus omega); (with_reducible (refine mop_c trivial ?_; refine mop_c trivial ?_; refine mm_st hM ?_; clear hM; intro _ hM; refine mop_c ?_ ?_)); (focus omega); (with_reducible (refine mop_c ?_ ?_)); (focus omega))
          refine ⟨.inr (.inr (.inr (.inr (.inl ⟨by first | rfl | (congr 1; omega), rfl, hM⟩)))), by first | decide | (dsimp only; omega) | (simp; done)⟩
        · ((with_reducible (refine mop_cT trivial ?_ ?_)); (focus (first | assumption | omega | with_reducible rfl | exact fun h => Bool.noConfusion h)); (with_reducible (refine mif_true ?_; refine mop_c ?_ ?_)); (focus omega); (with_reducible (refine mop_c trivial ?_; refine mop_c trivial ?_; refine mm_st hM ?_; clear hM; intro _ hM; refine mop_c ?_ ?_)); (focus omega); (with_reducible (refine mop_c ?_ ?_)); (focus omega))
          refine ⟨.inr (.inr (.inr (.inr (.inr (.inl ⟨by first | rfl | (congr 1; omega), rfl, hM⟩))))), by first | decide | (dsimp only; omega) | (simp; done)⟩
        · ((with_reducible (refine mop_cT trivial ?_ ?_)); (focus (first | assumption | omega | with_reducible rfl | exact fun h => Bool.noConfusion h)); (with_reducible (refine mif_true ?_; refine mop_c ?_ ?_)); (focus omega); (with_reducible (refine mop_c trivial ?_; refine mop_c trivial ?_; refine mm_st hM ?_; clear hM; intro _ hM; refine mop_c ?_ ?_)); (focus omega); (with_reducible (refine mop_c ?_ ?_)); (focus omega))
          refine ⟨.inr (.inr (.inr (.inr (.inr (.inr (.inl ⟨by first | rfl | (congr 1; omega), rfl, hM⟩)))))), by first | decide | (dsimp only; omega) | (simp; done)⟩
        · ((with_reducible (refine mop_cT trivial ?_ ?_)); (focus (first | assumption | omega | with_reducible rfl | exact fun h => Bool.noConfusion h)); (with_reducible (refine mif_true ?_; refine mop_c ?_ ?_)); (focus omega); (with_reducible (refine mop_c trivial ?_; refine mop_c trivial ?_; refine mm_st hM ?_; clear hM; intro _ hM; refine mop_c ?_ ?_)); (focus omega); (with_reducible (refine mop_c ?_ ?_)); (focus omega))
          refine ⟨.inr (.inr (.inr (.inr (.inr (.inr (.inr (.inl ⟨by first | rfl | (congr 1; omega), rfl, hM⟩))))))), by first | decide | (dsimp only; omega) | (simp; done)⟩
        · ((with_reducible (refine mop_cT trivial ?_ ?_)); (focus (first | assumption | omega | with_reducible rfl | exact fun h => Bool.noConfusion h)); (with_reducible (refine mif_true ?_; refine mop_c ?_ ?_)); (focus omega); (with_reducible (refine mop_c trivial ?_; refine mop_c trivial ?_; refine mm_st hM ?_; clear hM; intro _ hM; refine mop_c ?_ ?_)); (focus omega); (with_reducible (refine mop_c ?_ ?_)); (focus omega))
          refine ⟨.inr (.inr (.inr (.inr (.inr (.inr (.inr (.inr (⟨by first | rfl | (congr 1; omega), rfl, hM⟩)))))))), by first | decide | (dsimp only; omega) | (simp; done)⟩
        · ((with_reducible (refine mop_cF trivial ?_ ?_)); (focus (first | assumption | omega | with_reducible rfl | exact fun h => Bool.noConfusion h)); (with_reducible (refine mif_false ?_; refine mop_c trivial ?_; refine mm_ld hM ?_; refine mop_c trivial ?_; refine mop_c trivial ?_; refine mm_st hM ?_; clear hM; intro _ hM; refine mop_c trivial ?_)))
          have hM := Mem.refd (fs' := [.arr 8 (u8s [(n / 72057594037927936 % 256 % 256 + 192) % 256, n / 281474976710656 % 256 % 256, n / 1099511627776 % 256 % 256, n / 4294967296 % 256 % 256, n / 16777216 % 256 % 256, n / 65536 % 256 % 256, n / 256 % 256 % 256, n % 256 % 256])]) hM rfl ⟨fun f hf => by
            rw [List.mem_singleton.1 hf]
            exact ⟨rfl, fun u hu => u8s_one _ u hu⟩⟩
          ((with_reducible (refine mm_cvb hM ?_)))
          refine ⟨?_, hM.st⟩
          unfold numB
          rw [if_neg h1, if_neg h2, if_neg h3]
          simp only [Int.emod_emod_of_dvd _ (Int.dvd_refl 256)]
          rw [show (n / 72057594037927936 % 256 + 192) % 256 = 192 + n / 72057594037927936 by omega]
instance (n : Int) : PurC Tryz.prog 50 [.int .i64 n] (0 ≤ n ∧ n ≤ 4611686018427387903) (.string (strOfNums (numB n))) := ⟨fun h w => rnum_ok n h w⟩
end
end Go.Proofs.YtopcnkejobomaaaGreat
namespace Go.Proofs.YtopcnkejobomaaaGreat
open Go.RowKit
set_option maxRecDepth 100000 in
theorem lr_fin : ∀ n : Fin 65, ∀ x : Fin 127, thr (n.val : Int) (x.val : Int) → x.val % 2 = 1 →
    (thr (n.val : Int) (lf n.val x.val) ∧ thr (n.val : Int) (rt n.val x.val)) ∧ (level (lf n.val x.val) < level x.val ∧ level (rt n.val x.val) < level x.val) ∧ (fro n.val (lf n.val x.val) = fro n.val x.val ∧ til n.val (lf n.val x.val) = fro n.val (rt n.val x.val) ∧ til n.val (rt n.val x.val) = til n.val x.val) ∧
    (bs n.val (lf n.val x.val) = rt n.val x.val ∧ bs n.val (rt n.val x.val) = lf n.val x.val) := by decide +kernel
theorem lr_eq {n x : Int} (h : thr n x) (ho : x % 2 = 1) : (thr n (lf n x) ∧ thr n (rt n x)) ∧ (level (lf n x) < level x ∧ level (rt n x) < level x) ∧ (fro n (lf n x) = fro n x ∧ til n (lf n x) = fro n (rt n x) ∧ til n (rt n x) = til n x) ∧ (bs n (lf n x) = rt n x ∧ bs n (rt n x) = lf n x) := by
  obtain ⟨h1, h2, h3⟩ := id h
  have := lr_fin ⟨n.toNat, by omega⟩ ⟨x.toNat, by omega⟩
  simp only [Int.toNat_of_nonneg h2, Int.toNat_of_nonneg (show 0 ≤ n by omega)] at this
  exact this h (by omega)
end Go.Proofs.YtopcnkejobomaaaGreat
namespace Go.Proofs.YtopcnkejobomaaaGreat
open Go.RowKit Go.Lib
def shaH (l : List Int) : H32 := ⟨shaSum l, shaSum_length l, shaSum_range l⟩
theorem cat2 (a b : ByteArray) : cat [a, b] = ints a ++ ints b := by simp [cat]
theorem cat1 (a : ByteArray) : cat [a] = ints a := by simp [cat]
abbrev sleaf : List Int := [108, 101, 97, 102]
abbrev snode : List Int := [110, 111, 100, 101]
abbrev snone : List Int := [110, 111, 110, 101]
def leafB (l : Lf) : List Int := if 0 < l.name then [1] ++ numB l.name ++ l.pub.1 ++ l.ver.1 ++ l.abv.1 else [0]
def parentB (p : Pn) : List Int := if p.set = true then [1] ++ p.pub.1 ++ p.abv.1 ++ numB p.loose.length ++ p.loose.flatMap numB else [0]
def leafAt (t : Tr) (i : Int) : Lf := t.ls.getD i.toNat Lf.zero
def parAt (t : Tr) (i : Int) : Pn := t.ps.getD i.toNat Pn.zero
def hAt : Nat → Tr → Int → H32
  | 0, t, x => shaH (sleaf ++ leafB (leafAt t (x / 2)))
  | f + 1, t, x => if x % 2 = 0 then shaH (sleaf ++ leafB (leafAt t (x / 2))) else shaH (snode ++ (parentB (parAt t (x / 2)) ++ (hAt f t (lf t.size x)).1 ++ (hAt f t (rt t.size x)).1))
theorem hAt_leaf {f : Nat} {t : Tr} {x : Int} (h : x % 2 = 0) : hAt f t x = shaH (sleaf ++ leafB (leafAt t (x / 2))) := by
  cases f with
  | zero => rfl
  | succ f => rw [hAt, if_pos h]
def hRoot (t : Tr) : H32 := if t.ls = [] then shaH snone else hAt 8 t (root t.size)
structure Tr.Gd (t : Tr) : Prop where
  len : 1 ≤ t.ls.length ∧ t.ls.length ≤ 64 ∧ t.ps.length + 1 = t.ls.length
  nm : ∀ l ∈ t.ls, 0 ≤ l.name ∧ l.name ≤ 64
  lo : ∀ p ∈ t.ps, p.loose.length ≤ 64 ∧ ∀ q ∈ p.loose, 0 ≤ q ∧ q ≤ 64
theorem Tr.Rt.gd {t : Tr} (h : t.Rt) (hn : t.ls ≠ []) : t.Gd := by
  have hl := h.len
  have h0 : 0 < t.ls.length := List.length_pos_iff.2 hn
  refine ⟨by omega, fun l hm => ?_, fun p hp => ⟨(h.loose p hp).1, fun q hq => ?_⟩⟩
  · rcases leavesB_spec h.leaves l hm with rfl | h
    · simp [Lf.zero]
    · omega
  · obtain ⟨i, hi, rfl⟩ := List.getElem_of_mem hp
    have := hld_rng ((looseB_spec (parB_spec h.par i hi).2).1 q hq).1
    unfold Tr.size at this
    omega
theorem byt_len {f : Int → List Int} {l : List Int} {k : Nat} (h : ∀ x ∈ l, (f x).length ≤ k) : (l.flatMap f).length ≤ l.length * k := by
  induction l with
  | nil => simp
  | cons x r ih =>
    have h1 := h x (List.mem_cons_self ..)
    have h2 := ih fun y hy => h y (List.mem_cons_of_mem _ hy)
    simp only [List.flatMap_cons, List.length_append, List.length_cons, Nat.succ_mul]
    omega
theorem leafB_len (l : Lf) : (leafB l).length ≤ 105 := by
  have := numB_length l.name
  unfold leafB
  split
  · simp [l.pub.2.1, l.ver.2.1, l.abv.2.1]
    omega
  · simp
theorem parentB_len {p : Pn} (h : p.loose.length ≤ 64) : (parentB p).length ≤ 600 := by
  have := numB_length p.loose.length
  have h2 := byt_len (f := numB) (l := p.loose) (k := 8) fun x _ => (numB_length x).1
  unfold parentB
  split
  · simp only [List.length_append, p.pub.2.1, p.abv.2.1, List.length_singleton]
    omega
  · simp
end Go.Proofs.YtopcnkejobomaaaGreat
namespace Go.Proofs.YtopcnkejobomaaaGreat
open Go.RowKit Go.Lib
abbrev bleaf : ByteArray := ByteArray.mk #[108, 101, 97, 102]
abbrev bnode : ByteArray := ByteArray.mk #[110, 111, 100, 101]
abbrev bnone : ByteArray := ByteArray.mk #[110, 111, 110, 101]
section
variable {H : Hp} {w0 w : World} {L R : List Res} {g : Nat} {out : List Int} {bad : Bool} {A B : Option Addr} {a b : Nat} {t : Tr} {qs : List (List Fd)}
theorem sum2_ok {A : Option Addr} {e : Nat} (a b : ByteArray) (hs : a.size + b.size < 1000000000000) (hM : Mem H w0 L w) [k : AtA L A 2 2 e 1 [[.one (.string a)], [.one (.string b)]] R] :
    Calls Tryz.prog 40 #[.slice A 2 2] w fun en w' => en = .returned (.agg (u8s (shaH (ints a ++ ints b)).1).toArray) ∧ St w [] w' := by
  have h := sum_ok A [a, b] 2 w (hM.rd k) (by simp) (by rw [cat2, List.length_append, ints_length, ints_length]; omega)
  rw [cat2] at h
  exact h
theorem sum1_ok {A : Option Addr} {e : Nat} (a : ByteArray) (hs : a.size < 1000000000000) (hM : Mem H w0 L w) [k : AtA L A 1 1 e 1 [[.one (.string a)]] R] :
    Calls Tryz.prog 40 #[.slice A 1 1] w fun en w' => en = .returned (.agg (u8s (shaH (ints a)).1).toArray) ∧ St w [] w' := by
  have h := sum_ok A [a] 1 w (hM.rd k) (by simp) (by rw [cat1, ints_length]; omega)
  rw [cat1] at h
  exact h
theorem wflag_ok (b : Bool) (hb : out.length < 1000000000) (hM : Mem H w0 (wrR g out bad :: L) w) : Calls Tryz.prog 93 #[.pointer (some ⟨g, 0, none⟩), .bool b] w fun en w' => ∃ v, en = .returned v ∧ v = .tuple #[] ∧ Mem H w0 (wrR g (out ++ [if b = true then 1 else 0]) bad :: L) w' := by
  refine C_wire_Writer_Flag ?_
  unfold F_wire_Writer_Flag
  obtain ⟨A, c, hM⟩ := hM.wr
  cases b
  · ((with_reducible (refine mop_c trivial ?_; refine mif_false ?_; refine mif_false ?_; refine mop_c trivial ?_; refine mop_c trivial ?_; refine mm_ld hM ?_; refine mm_bsl hM ?_ ?_ ?_)); (focus rfl); (focus (constructor <;> simp)); (with_reducible (clear hM; intro _ _ hM; refine mm_appo hM ?_ ?_)); (focus omega); (with_reducible (clear hM; intro _ _ _ hM; refine mop_c trivial ?_; refine mop_c trivial ?_; refine mm_st hM ?_; clear hM; intro _ hM)))
    rename_i A' c' _ _
    have e : byts out ++ [[.one (.int .u8 0)]] = byts (out ++ [0]) := by rw [byts_app]; rfl
    rw [e] at hM
    have hM : Mem H w0 (fb g 140 [.one (.slice A' (out.length + 1) c'), .one (.bool bad)] :: rowR 5 1 A' (out.length + 1) c' (byts (out ++ [0])) :: L) _ := hM.sub
    exact ⟨_, rfl, rfl, Mem.unwr hM (by simp)⟩
  · ((with_reducible (refine mop_c trivial ?_; refine mif_false ?_; refine mif_true ?_; refine mop_c trivial ?_; refine mop_c trivial ?_; refine mm_ld hM ?_; refine mm_bsl hM ?_ ?_ ?_)); (focus rfl); (focus (constructor <;> simp)); (with_reducible (clear hM; intro _ _ hM; refine mm_appo hM ?_ ?_)); (focus omega); (with_reducible (clear hM; intro _ _ _ hM; refine mop_c trivial ?_; refine mop_c trivial ?_; refine mm_st hM ?_; clear hM; intro _ hM)))
    rename_i A' c' _ _
    have e : byts out ++ [[.one (.int .u8 1)]] = byts (out ++ [1]) := by rw [byts_app]; rfl
    rw [e] at hM
    have hM : Mem H w0 (fb g 140 [.one (.slice A' (out.length + 1) c'), .one (.bool bad)] :: rowR 5 1 A' (out.length + 1) c' (byts (out ++ [1])) :: L) _ := hM.sub
    exact ⟨_, rfl, rfl, Mem.unwr hM (by simp)⟩
theorem leafBytes_ok (l : Lf) (hn : 0 ≤ l.name ∧ l.name ≤ 64) (hb : out.length < 1000000) (hM : Mem H w0 (wrR g out false :: L) w) : Calls Tryz.prog 47 #[.pointer (some ⟨g, 0, none⟩), lv l] w fun en w' => ∃ v, en = .returned v ∧ v = .tuple #[] ∧ Mem H w0 (wrR g (out ++ leafB l) false :: L) w' := by
  refine C_tree_leafBytes ?_
  unfold F_tree_leafBytes
  have hnl := numB_length l.name
  ((with_reducible (refine mm_box hM ?_; clear hM; intro _ _ hM; refine mop_c trivial ?_; refine mm_ld hM ?_)))
  ((with_reducible (refine mop_cS trivial ?_ ?_)))
  · intro h
    skip
    refine mm_own (wflag_ok true (by omega) (hM.at_ (wrR g out false))) ?_
    rintro v w2 ⟨rfl, hM⟩
    ((with_reducible (refine mop_c trivial ?_; refine mm_ld hM ?_; refine mop_cT trivial ?_ ?_)); (focus (first | assumption | omega | with_reducible rfl | exact fun h => Bool.noConfusion h)); (with_reducible (refine mif_true ?_; refine mop_c trivial ?_; refine mm_ld hM ?_)))
    refine mm_own (wnum_ok l.name (by omega) (by simp; omega) hM) ?_
    rintro v w2 ⟨rfl, hM⟩
    ((with_reducible (refine mop_c trivial ?_; refine mm_ld hM ?_)))
    refine mm_own (whash_ok l.pub (by simp; omega) hM) ?_
    rintro v w2 ⟨rfl, hM⟩
    ((with_reducible (refine mop_c trivial ?_; refine mm_ld hM ?_)))
    refine mm_own (whash_ok l.ver (by simp [l.pub.2.1]; omega) hM) ?_
    rintro v w2 ⟨rfl, hM⟩
    ((with_reducible (refine mop_c trivial ?_; refine mm_ld hM ?_)))
    refine mm_own (whash_ok l.abv (by simp [l.pub.2.1, l.ver.2.1]; omega) hM) ?_
    rintro v w2 ⟨rfl, hM⟩
    skip
    have e : out ++ [if true = true then 1 else 0] ++ numB l.name ++ l.pub.1 ++ l.ver.1 ++ l.abv.1 = out ++ leafB l := by
      unfold leafB
      rw [if_pos (show 0 < l.name by omega)]
      simp
    rw [e] at hM
    exact ⟨_, rfl, rfl, hM.sub⟩
  · intro h
    skip
    refine mm_own (wflag_ok false (by omega) (hM.at_ (wrR g out false))) ?_
    rintro v w2 ⟨rfl, hM⟩
    ((with_reducible (refine mop_c trivial ?_; refine mm_ld hM ?_; refine mop_cF trivial ?_ ?_)); (focus (first | assumption | omega | with_reducible rfl | exact fun h => Bool.noConfusion h)); (with_reducible (refine mif_false ?_)))
    have e : out ++ [if false = true then 1 else 0] = out ++ leafB l := by
      unfold leafB
      rw [if_neg (show ¬ 0 < l.name by omega)]
      rfl
    rw [e] at hM
    exact ⟨_, rfl, rfl, hM.sub⟩
theorem parentBytes_ok (p : Pn) {C : Option Addr} {c : Nat} (hs : Sl H 1 C (ints8 p.loose)) (hp : p.loose.length ≤ 64 ∧ ∀ q ∈ p.loose, 0 ≤ q ∧ q ≤ 64) (hb : out.length < 1000000) (hM : Mem H w0 (wrR g out false :: L) w) : Calls Tryz.prog 48 #[.pointer (some ⟨g, 0, none⟩), .agg (fl (p.row C c)).toArray] w fun en w' => ∃ v, en = .returned v ∧ v = .tuple #[] ∧ Mem H w0 (wrR g (out ++ parentB p) false :: L) w' := by
  refine C_tree_parentBytes ?_
  unfold F_tree_parentBytes
  ((with_reducible (refine mm_box hM ?_; clear hM; intro _ _ hM; refine mop_c trivial ?_; refine mm_ld hM ?_)))
  rename_i g1 _
  refine mm_own (wflag_ok p.set (by omega) (hM.at_ (wrR g out false))) ?_
  rintro v w2 ⟨rfl, hM⟩
  ((with_reducible (refine mop_c trivial ?_; refine mm_ld hM ?_)))
  rcases Bool.eq_false_or_eq_true p.set with hset | hset
  · have e : parentB p = [1] ++ p.pub.1 ++ p.abv.1 ++ numB p.loose.length ++ p.loose.flatMap numB := if_pos hset
    rw [hset] at hM ⊢
    ((with_reducible (refine mif_true ?_; refine mop_c trivial ?_; refine mm_ld hM ?_)))
    refine mm_own (whash_ok p.pub (by simp; omega) (hM.at_ (wrR g (out ++ [if true = true then 1 else 0]) false))) ?_
    rintro v w2 ⟨rfl, hM⟩
    ((with_reducible (refine mop_c trivial ?_; refine mm_ld hM ?_)))
    refine mm_own (whash_ok p.abv (by simp [p.pub.2.1]; omega) hM) ?_
    rintro v w2 ⟨rfl, hM⟩
    ((with_reducible (refine mop_c trivial ?_; refine mm_ld hM ?_; refine mop_c trivial ?_)))
    refine mm_own (wnum_ok p.loose.length (by omega) (by simp [p.pub.2.1, p.abv.2.1]; omega) hM) ?_
    rintro v w2 ⟨rfl, hM⟩
    have hnl := numB_length p.loose.length
    generalize hbase : out ++ [if true = true then 1 else 0] ++ p.pub.1 ++ p.abv.1 ++ numB p.loose.length = base at hM
    have hbl : base.length ≤ out.length + 73 := by rw [← hbase]; simp [p.pub.2.1, p.abv.2.1]; omega
    ((with_reducible (refine mop_c trivial ?_; refine mm_ld hM ?_; refine mop_c trivial ?_)))
    refine ⟨fun v w' => ∃ k : Nat, v = .int .i64 k ∧ k ≤ p.loose.length ∧ Mem H w0 (wrR g (base ++ (p.loose.take k).flatMap numB) false :: fb g1 61 (p.row C c) :: L) w', fun v _ => match v with | .int _ k => p.loose.length - k.toNat | _ => 0, ⟨0, rfl, by omega, by simpa using hM⟩, ?_⟩
    clear hM
    rintro v u w3 ⟨k, rfl, hk, hM⟩
    ((with_reducible (refine mop_cS trivial ?_ ?_)))
    · intro hlt
      have hlt' : k < p.loose.length := by omega
      have e1 := ints8_at (l := p.loose) (i := k) hlt'
      have hq := hp.2 _ (List.getElem_mem hlt')
      have hfl := byt_len (f := numB) (l := p.loose.take k) (k := 8) fun x _ => (numB_length x).1
      rw [List.length_take] at hfl
      ((with_reducible (refine mif_true ?_)); (with_reducible refine mm_ixs ‹_› ?_ ?_ ?_); (focus (simp only [List.length_map]; omega)); (focus (simp only [List.length_map]; first | done | omega)); (with_reducible (intro _ _ hA)); (cases hA); (with_reducible refine mm_lds0 hM ‹_› (map_atI ?_) ?_); (focus omega))
      refine mm_own (wnum_ok (out := base ++ (p.loose.take k).flatMap numB) p.loose[k] (by omega) (by rw [List.length_append]; omega) hM) ?_
      rintro v w4 ⟨rfl, hM⟩
      ((with_reducible (refine mop_c ?_ ?_)); (focus omega))
      refine ⟨⟨k + 1, rfl, by omega, ?_⟩, by simp only; omega⟩
      rw [List.take_succ_eq_append_getElem hlt', List.flatMap_append, ← List.append_assoc]
      simpa using hM
    · intro hge
      obtain rfl : k = p.loose.length := by omega
      rw [List.take_length] at hM
      ((with_reducible (refine mif_false ?_)))
      have e2 : base ++ p.loose.flatMap numB = out ++ parentB p := by
        rw [e, ← hbase]
        simp
      rw [e2] at hM
      exact ⟨_, rfl, rfl, hM.sub⟩
  · have e : parentB p = [0] := if_neg (by rw [hset]; simp)
    rw [hset] at hM ⊢
    ((with_reducible (refine mif_false ?_)))
    have e2 : out ++ [if false = true then 1 else 0] = out ++ parentB p := by
      rw [e]
      rfl
    rw [e2] at hM
    exact ⟨_, rfl, rfl, hM.sub⟩
theorem level_odd (x : Int) : x % 2 = 1 → 1 ≤ level x := fun h => by
  have := lev_rng 7 (x / 2)
  unfold level
  rw [lev, if_pos h]
  omega
theorem leafB_byt (l : Lf) (hn : 0 ≤ l.name ∧ l.name ≤ 64) : ∀ x ∈ leafB l, 0 ≤ x ∧ x < 256 := fun x hx => by
  unfold leafB at hx
  split at hx
  · simp only [List.mem_append, List.mem_singleton] at hx
    rcases hx with (((rfl | hx) | hx) | hx) | hx
    · omega
    · exact numB_range l.name (by omega) x hx
    · exact l.pub.2.2 x hx
    · exact l.ver.2.2 x hx
    · exact l.abv.2.2 x hx
  · rw [List.mem_singleton.1 hx]
    omega
theorem parentB_byt (p : Pn) (hp : p.loose.length ≤ 64 ∧ ∀ q ∈ p.loose, 0 ≤ q ∧ q ≤ 64) : ∀ x ∈ parentB p, 0 ≤ x ∧ x < 256 := fun x hx => by
  unfold parentB at hx
  split at hx
  · simp only [List.mem_append, List.mem_singleton] at hx
    rcases hx with (((rfl | hx) | hx) | hx) | hx
    · omega
    · exact p.pub.2.2 x hx
    · exact p.abv.2.2 x hx
    · exact numB_range p.loose.length (by omega) x hx
    · obtain ⟨q, hq, hx⟩ := List.mem_flatMap.1 hx
      exact numB_range q (by have := hp.2 q hq; omega) x hx
  · rw [List.mem_singleton.1 hx]
    omega
theorem hashLeaf_ok {f : Nat} {x : Int} (hG : t.Gd) (h1 : Sl H 97 A (t.ls.map Lf.fds)) (he : x % 2 = 0) (ht : thr t.size x) (hf : Fz H w) :
    Calls Tryz.prog 41 #[tv A t.ls.length a B t.ps.length b, .int .i64 x] w fun en w' => en = .returned (ha (hAt f t x)) ∧ St w [] w' := by
  have hM := Mem.start hf
  have hlen := hG.len
  have hts : t.size = t.ls.length := rfl
  obtain ⟨k1, k2, k3⟩ := id ht
  refine C_tree_hashAt ?_
  unfold F_tree_hashAt
  ((with_reducible (refine mm_box hM ?_; clear hM; intro _ _ hM; refine mm_new hM ?_; clear hM; intro _ _ hM)))
  refine mm_own (wnew_ok hM) ?_
  rintro v w2 ⟨g, rfl, hM⟩
  have hix : (x / 2).toNat < t.ls.length := by omega
  have hla : leafAt t (x / 2) = t.ls[(x / 2).toNat] := by
    unfold leafAt
    rw [List.getD_eq_getElem?_getD, List.getElem?_eq_getElem hix]
    rfl
  have hlb := leafB_len t.ls[(x / 2).toNat]
  ((with_reducible (refine mop_c ?_ ?_)); (focus omega); (with_reducible (refine mop_cT trivial ?_ ?_)); (focus (first | assumption | omega | with_reducible rfl | exact fun h => Bool.noConfusion h)); (with_reducible (refine mif_true ?_; refine mop_c trivial ?_; refine mm_ld hM ?_; refine mop_c ?_ ?_)); (focus omega); (with_reducible refine mm_ixs ‹_› ?_ ?_ ?_); (focus (simp only [List.length_map]; omega)); (focus (simp only [List.length_map]; first | done | omega)); (with_reducible (intro _ _ hA)); (cases hA); (with_reducible refine mm_lds0 hM ‹_› (map_at ?_) ?_); (focus omega))
  refine mm_own (leafBytes_ok t.ls[(x / 2).toNat] (hG.nm _ (List.getElem_mem _)) (by simp) (hM.at_ (wrR g [] false))) ?_
  rintro v w3 ⟨rfl, hM⟩
  refine mm_pure hM (wend_ok hM) (fun w hM => ?_)
  ((with_reducible (refine mop_c trivial ?_; refine mop_c trivial ?_; refine mm_bsl hM ?_ ?_ ?_)); (focus rfl); (focus (constructor <;> simp)); (with_reducible (clear hM; intro _ _ hM)))
  refine mm_pure hM (sum2_ok bleaf (strOfNums ([] ++ leafB t.ls[(x / 2).toNat])) (by rw [strOfNums_size]; simp; have : bleaf.size = 4 := rfl; omega) hM) (fun w hM => ?_)
  ((with_reducible (refine mm_st hM ?_; clear hM; intro _ hM; refine rm_ld hM ?_)))
  refine ⟨?_, hM.st⟩
  rw [List.nil_append, ints_str _ (leafB_byt _ (hG.nm _ (List.getElem_mem _))), hAt_leaf he, hla]
  rfl
theorem hashAt_ok (hG : t.Gd) (h1 : Sl H 97 A (t.ls.map Lf.fds)) (h2 : Sl H 66 B qs) (h3 : All2 (PnF H) qs t.ps) : ∀ (f : Nat) (x : Int), level x ≤ f → thr t.size x → ∀ w, Fz H w →
    Calls Tryz.prog 41 #[tv A t.ls.length a B t.ps.length b, .int .i64 x] w fun en w' => en = .returned (ha (hAt f t x)) ∧ St w [] w' := by
  have hlen := hG.len
  have hts : t.size = t.ls.length := rfl
  have hq : qs.length = t.ps.length := h3.len
  intro f
  induction f with
  | zero =>
    intro x hx ht w hf
    have he : x % 2 = 0 := by
      have := level_odd x
      omega
    exact hashLeaf_ok hG h1 he ht hf
  | succ f ih =>
    intro x hx ht w hf
    by_cases he : x % 2 = 0
    · exact hashLeaf_ok hG h1 he ht hf
    have ho : x % 2 = 1 := by omega
    obtain ⟨k1, k2, k3⟩ := id ht
    obtain ⟨⟨t1, t2⟩, ⟨l1, l2⟩, -⟩ := lr_eq ht ho
    have hM := Mem.start hf
    refine C_tree_hashAt ?_
    unfold F_tree_hashAt
    ((with_reducible (refine mm_box hM ?_; clear hM; intro _ _ hM; refine mm_new hM ?_; clear hM; intro _ _ hM)))
    refine mm_own (wnew_ok hM) ?_
    rintro v w2 ⟨g, rfl, hM⟩
    have hix : (x / 2).toNat < t.ps.length := by omega
    obtain ⟨q, hq1, C, c, rfl, hC, hcl⟩ := h3.at_ (i := (x / 2).toNat) hix
    obtain ⟨p, hpe⟩ : ∃ p, t.ps[(x / 2).toNat] = p := ⟨_, rfl⟩
    have hpa : parAt t (x / 2) = p := by
      unfold parAt
      rw [List.getD_eq_getElem?_getD, List.getElem?_eq_getElem hix, hpe]
      rfl
    have hlo := hG.lo p (hpe ▸ List.getElem_mem _)
    have hpl := parentB_len hlo.1
    rw [hpe] at hq1 hC hcl
    ((with_reducible (refine mop_c ?_ ?_)); (focus omega); (with_reducible (refine mop_cF trivial ?_ ?_)); (focus (first | assumption | omega | with_reducible rfl | exact fun h => Bool.noConfusion h)); (with_reducible (refine mif_false ?_; refine mop_c trivial ?_; refine mm_ld hM ?_; refine mop_c trivial ?_; refine mop_c trivial ?_; refine mm_ld hM ?_; refine mop_c ?_ ?_)); (focus omega))
    refine mm_ixs h2 (by omega) hq.symm (fun bb oo hB => ?_)
    cases hB
    refine mm_lds0 hM h2 hq1 ?_
    refine mm_own (parentBytes_ok p hC hlo (by simp) (hM.at_ (wrR g [] false))) ?_
    rintro v w3 ⟨rfl, hM⟩
    ((with_reducible (refine dm_ld hM ?_; refine dm_purC hM ?_ (fun _ _ hM => ?_))); (focus (first | exact trivial | assumption | omega)))
    have hbl : ∀ y ∈ snode ++ (parentB p ++ (hAt f t (lf t.size x)).1 ++ (hAt f t (rt t.size x)).1), 0 ≤ y ∧ y < 256 := fun y hy => by
      simp only [List.mem_append] at hy
      rcases hy with hy | (hy | hy) | hy
      · simp at hy
        omega
      · exact parentB_byt p hlo y hy
      · exact (hAt f t (lf t.size x)).2.2 y hy
      · exact (hAt f t (rt t.size x)).2.2 y hy
    refine dm_pure hM (fun w hM => ih (lf t.size x) (by omega) t1 w hM.fz) (fun w' hx hM => ?_)
    refine dm_own hM (fun w hM => whash_ok (hAt f t (lf t.size x)) (by simp; omega) (hM.at_ (wrR g ([] ++ parentB p) false))) ?_
    rintro v w4 ⟨rfl, hM⟩
    ((with_reducible (refine mm_end hM ?_; clear hM; intro _ hM; refine dm_ld hM ?_; refine dm_purC hM ?_ (fun _ _ hM => ?_))); (focus (first | exact trivial | assumption | omega)))
    refine dm_pure hM (fun w hM => ih (rt t.size x) (by omega) t2 w hM.fz) (fun w' hx hM => ?_)
    refine dm_own hM (fun w hM => whash_ok (hAt f t (rt t.size x)) (by simp [(hAt f t (lf t.size x)).2.1]; omega) (hM.at_ (wrR g ([] ++ parentB p ++ (hAt f t (lf t.size x)).1) false))) ?_
    rintro v w5 ⟨rfl, hM⟩
    ((with_reducible (refine mm_end hM ?_; clear hM; intro _ hM)))
    refine mm_pure hM (wend_ok hM) (fun w hM => ?_)
    ((with_reducible (refine mop_c trivial ?_; refine mop_c trivial ?_; refine mm_bsl hM ?_ ?_ ?_)); (focus rfl); (focus (constructor <;> simp)); (with_reducible (clear hM; intro _ _ hM)))
    refine mm_pure hM (sum2_ok bnode (strOfNums ([] ++ parentB p ++ (hAt f t (lf t.size x)).1 ++ (hAt f t (rt t.size x)).1)) (by rw [strOfNums_size]; simp [(hAt f t (lf t.size x)).2.1, (hAt f t (rt t.size x)).2.1]; have : bnode.size = 4 := rfl; omega) hM) (fun w hM => ?_)
    ((with_reducible (refine mm_st hM ?_; clear hM; intro _ hM; refine rm_ld hM ?_)))
    refine ⟨?_, hM.st⟩
    rw [List.nil_append, ints_str _ (fun y hy => hbl y (List.mem_append.2 (.inr hy))), hAt, if_neg he, hpa]
    rfl
end
end Go.Proofs.YtopcnkejobomaaaGreat
namespace Go.Proofs.YtopcnkejobomaaaGreat
open Go.RowKit Go.Lib
theorem root_fin : ∀ n : Fin 65, 1 ≤ n.val → thr (n.val : Int) (root n.val) := by decide +kernel
theorem root_thr {n : Int} (h : 1 ≤ n ∧ n ≤ 64) : thr n (root n) := by
  have := root_fin ⟨n.toNat, by omega⟩ (by simp only; omega)
  simpa only [Int.toNat_of_nonneg (show 0 ≤ n by omega)] using this
section
variable {H : Hp} {w0 w : World} {L R : List Res} {g : Nat} {A B : Option Addr} {a b : Nat} {t : Tr} {qs : List (List Fd)}
theorem rflag_ok (b : Bool) (w : World) : Calls Tryz.prog 94 #[.bool b] w fun en w' => en = .returned (.string (strOfNums [if b = true then 1 else 0])) ∧ St w [] w' := by
  have hM := Mem.start (Fz.of w)
  refine C_bevyref01_Flag ?_
  unfold F_bevyref01_Flag
  cases b
  · ((with_reducible (refine mif_false ?_)))
    exact ⟨rfl, hM.st⟩
  · ((with_reducible (refine mif_true ?_)))
    exact ⟨rfl, hM.st⟩
instance (b : Bool) : PurC Tryz.prog 94 [.bool b] True (.string (strOfNums [if b = true then 1 else 0])) := ⟨fun _ w => rflag_ok b w⟩
theorem ttext_ok (h : H32) (w : World) : Calls Tryz.prog 55 #[ha h] w fun en w' => en = .returned (.string (strOfNums h.1)) ∧ St w [] w' := by
  have hM := Mem.start (Fz.of w)
  refine C_bevyref08_text ?_
  unfold F_bevyref08_text
  ((with_reducible (refine mm_box hM ?_; clear hM; intro _ _ hM; refine mop_c trivial ?_; refine mm_cvb hM ?_)))
  exact ⟨rfl, hM.st⟩
instance (h : H32) : PurC Tryz.prog 55 [.agg (u8s h.1).toArray] True (.string (strOfNums h.1)) := ⟨fun _ w => ttext_ok h w⟩
theorem rleaf_ok (l : Lf) (hn : 0 ≤ l.name ∧ l.name ≤ 64) (w : World) : Calls Tryz.prog 51 #[lv l] w fun en w' => en = .returned (.string (strOfNums (leafB l))) ∧ St w [] w' := by
  have hM := Mem.start (Fz.of w)
  have hnl := numB_length l.name
  refine C_bevyref08_leaf ?_
  unfold F_bevyref08_leaf
  ((with_reducible (refine mm_box hM ?_; clear hM; intro _ _ hM; refine mop_c trivial ?_; refine mm_ld hM ?_)))
  ((with_reducible (refine mop_cS trivial ?_ ?_)))
  · intro h
    ((with_reducible (refine mm_purC hM ?_ ?_)); (focus (first | exact trivial | assumption | omega)); (with_reducible (clear hM; intro _ hM)))
    refine ⟨fun v w' => v = .string (strOfNums (leafB l)) ∧ hM.now w', ?_, ?_⟩
    · have e : leafB l = [1] ++ numB l.name ++ l.pub.1 ++ l.ver.1 ++ l.abv.1 := if_pos (by omega)
      ((with_reducible (refine mop_c trivial ?_; refine mm_ld hM ?_; refine mop_cT trivial ?_ ?_)); (focus (first | assumption | omega | with_reducible rfl | exact fun h => Bool.noConfusion h)); (with_reducible (refine mif_true ?_; refine dp_c trivial ?_; refine dm_ld hM ?_; refine dm_purC hM ?_ (fun _ _ hM => ?_))); (focus (first | exact trivial | assumption | omega)))
      refine dp_cat _ _ (by simp; omega) ?_
      ((with_reducible (refine dp_c trivial ?_)); (with_reducible refine dm_ld ‹Mem _ _ _ _› ?_); (with_reducible (refine dm_purC hM ?_ (fun _ _ hM => ?_))); (focus (first | exact trivial | assumption | omega)))
      refine dp_cat _ _ (by simp [l.pub.2.1]; omega) ?_
      ((with_reducible (refine dp_c trivial ?_)); (with_reducible refine dm_ld ‹Mem _ _ _ _› ?_); (with_reducible (refine dm_purC hM ?_ (fun _ _ hM => ?_))); (focus (first | exact trivial | assumption | omega)))
      refine dp_cat _ _ (by simp [l.pub.2.1, l.ver.2.1]; omega) ?_
      ((with_reducible (refine dp_c trivial ?_)); (with_reducible refine dm_ld ‹Mem _ _ _ _› ?_); (with_reducible (refine dm_purC hM ?_ (fun _ _ hM => ?_))); (focus (first | exact trivial | assumption | omega)))
      refine dp_cat _ _ (by simp [l.pub.2.1, l.ver.2.1, l.abv.2.1]; omega) ?_
      ((with_reducible (refine mm_end hM ?_; clear hM; intro _ hM)))
      rw [e]
      exact ⟨rfl, hM⟩
    rintro v u w2 ⟨rfl, hM⟩
    exact ⟨rfl, hM.st⟩
  · intro h
    ((with_reducible (refine mm_purC hM ?_ ?_)); (focus (first | exact trivial | assumption | omega)); (with_reducible (clear hM; intro _ hM)))
    have e : leafB l = [0] := if_neg (by omega)
    refine ⟨fun v w' => v = .string (strOfNums (leafB l)) ∧ hM.now w', ?_, ?_⟩
    · ((with_reducible (refine mop_c trivial ?_; refine mm_ld hM ?_; refine mop_cF trivial ?_ ?_)); (focus (first | assumption | omega | with_reducible rfl | exact fun h => Bool.noConfusion h)); (with_reducible (refine mif_false ?_)))
      rw [e]
      exact ⟨rfl, hM⟩
    rintro v u w2 ⟨rfl, hM⟩
    exact ⟨rfl, hM.st⟩
theorem rparent_ok (p : Pn) {C : Option Addr} {c : Nat} (hs : Sl H 1 C (ints8 p.loose)) (hp : p.loose.length ≤ 64 ∧ ∀ q ∈ p.loose, 0 ≤ q ∧ q ≤ 64) (hf : Fz H w) : Calls Tryz.prog 52 #[.agg (fl (p.row C c)).toArray] w fun en w' => en = .returned (.string (strOfNums (parentB p))) ∧ St w [] w' := by
  have hM := Mem.start hf
  have hnl := numB_length p.loose.length
  refine C_bevyref08_parent ?_
  unfold F_bevyref08_parent
  ((with_reducible (refine mm_box hM ?_; clear hM; intro _ _ hM; refine mop_c trivial ?_; refine mm_ld hM ?_; refine mm_purC hM ?_ ?_)); (focus (first | exact trivial | assumption | omega)); (with_reducible (clear hM; intro _ hM)))
  rename_i g1 _ _
  refine ⟨fun v w' => v = .string (strOfNums (parentB p)) ∧ Mem H w [] w', ?_, ?_⟩
  · ((with_reducible (refine mop_c trivial ?_; refine mm_ld hM ?_)))
    rcases Bool.eq_false_or_eq_true p.set with hset | hset
    · have e : parentB p = [1] ++ p.pub.1 ++ p.abv.1 ++ numB p.loose.length ++ p.loose.flatMap numB := if_pos hset
      rw [hset]
      ((with_reducible (refine mif_true ?_; refine dp_c trivial ?_; refine dm_ld hM ?_; refine dm_purC hM ?_ (fun _ _ hM => ?_))); (focus (first | exact trivial | assumption | omega)))
      refine dp_cat _ _ (by simp [p.pub.2.1]) ?_
      ((with_reducible (refine dp_c trivial ?_)); (with_reducible refine dm_ld ‹Mem _ _ _ _› ?_); (with_reducible (refine dm_purC hM ?_ (fun _ _ hM => ?_))); (focus (first | exact trivial | assumption | omega)))
      refine dp_cat _ _ (by simp [p.pub.2.1, p.abv.2.1]) ?_
      ((with_reducible (refine dp_c trivial ?_)); (with_reducible refine dm_ld ‹Mem _ _ _ _› ?_); (with_reducible (refine dp_c trivial ?_; refine dm_purC hM ?_ (fun _ _ hM => ?_))); (focus (first | exact trivial | assumption | omega)))
      refine dp_cat _ _ (by simp [p.pub.2.1, p.abv.2.1]; omega) ?_
      ((with_reducible (refine mm_end hM ?_; clear hM; intro _ hM)))
      generalize hbase : [if true = true then 1 else 0] ++ p.pub.1 ++ p.abv.1 ++ numB p.loose.length = base
      have hbl : base.length ≤ 73 := by rw [← hbase]; simp [p.pub.2.1, p.abv.2.1]; omega
      refine ⟨fun v u w' => ∃ k : Nat, v = .string (strOfNums (base ++ (p.loose.take k).flatMap numB)) ∧ u = .int .i64 k ∧ k ≤ p.loose.length ∧ Mem H w [fb g1 61 (p.row C c)] w', fun _ u _ => match u with | .int _ k => p.loose.length - k.toNat | _ => 0, ⟨0, by simp, rfl, by omega, hM.sub⟩, ?_⟩
      clear hM
      rintro v u u2 w3 ⟨k, rfl, rfl, hk, hM⟩
      ((with_reducible (refine mop_c trivial ?_; refine mm_ld hM ?_; refine mop_c trivial ?_)))
      ((with_reducible (refine mop_cS trivial ?_ ?_)))
      · intro hlt
        have hlt' : k < p.loose.length := by omega
        have e1 := ints8_at (l := p.loose) (i := k) hlt'
        have hq := hp.2 _ (List.getElem_mem hlt')
        have hfl := byt_len (f := numB) (l := p.loose.take k) (k := 8) fun x _ => (numB_length x).1
        have hnk := numB_length p.loose[k]
        rw [List.length_take] at hfl
        ((with_reducible (refine mif_true ?_; refine mop_c trivial ?_; refine mm_ld hM ?_)); (with_reducible refine mm_ixs ‹_› ?_ ?_ ?_); (focus (simp only [List.length_map]; omega)); (focus (simp only [List.length_map]; first | done | omega)); (with_reducible (intro _ _ hA)); (cases hA); (with_reducible refine mm_lds0 hM ‹_› (map_atI ?_) ?_); (focus omega); (with_reducible (refine mm_purC hM ?_ ?_)); (focus (first | exact trivial | assumption | omega)); (with_reducible (clear hM; intro _ hM)))
        refine mop_cat _ _ (by rw [List.length_append]; omega) ?_
        ((with_reducible (refine mop_c ?_ ?_)); (focus omega))
        refine ⟨⟨k + 1, ?_, rfl, by omega, hM⟩, by simp only; omega⟩
        rw [List.take_succ_eq_append_getElem hlt', List.flatMap_append, List.append_assoc]
        simp
      · intro hge
        obtain rfl : k = p.loose.length := by omega
        rw [List.take_length]
        ((with_reducible (refine mif_false ?_)))
        refine ⟨?_, hM.sub⟩
        rw [e, ← hbase]
        rfl
    · have e : parentB p = [0] := if_neg (by rw [hset]; simp)
      rw [hset]
      ((with_reducible (refine mif_false ?_)))
      rw [e]
      exact ⟨rfl, hM.sub⟩
  rintro v u w2 ⟨rfl, hM⟩
  exact ⟨rfl, hM.st⟩
theorem rsum_ok (l : List Int) (hl : ∀ x ∈ l, 0 ≤ x ∧ x < 256) (hn : l.length ≤ 1000000) (w : World) : Calls Tryz.prog 43 #[.string (strOfNums l)] w fun en w' => en = .returned (.agg (u8s (shaH l).1).toArray) ∧ St w [] w' := by
  have h := refsum_ok (strOfNums l) w (by rw [strOfNums_size]; omega)
  rw [ints_str _ hl] at h
  exact h
theorem rhashAt_ok (hG : t.Gd) (h1 : Sl H 97 A (t.ls.map Lf.fds)) (h2 : Sl H 66 B qs) (h3 : All2 (PnF H) qs t.ps) : ∀ (f : Nat) (x : Int), level x ≤ f → thr t.size x → ∀ w, Fz H w →
    Calls Tryz.prog 21 #[tv A t.ls.length a B t.ps.length b, .int .i64 x] w fun en w' => en = .returned (ha (hAt f t x)) ∧ St w [] w' := by
  have hlen := hG.len
  have hts : t.size = t.ls.length := rfl
  have hq : qs.length = t.ps.length := h3.len
  have hleaf : ∀ (f : Nat) (x : Int), x % 2 = 0 → thr t.size x → ∀ w, Fz H w → Calls Tryz.prog 21 #[tv A t.ls.length a B t.ps.length b, .int .i64 x] w fun en w' => en = .returned (ha (hAt f t x)) ∧ St w [] w' := by
    intro f x he ht w hf
    have hM := Mem.start hf
    obtain ⟨k1, k2, k3⟩ := id ht
    have hix : (x / 2).toNat < t.ls.length := by omega
    have hla : leafAt t (x / 2) = t.ls[(x / 2).toNat] := by
      unfold leafAt
      rw [List.getD_eq_getElem?_getD, List.getElem?_eq_getElem hix]
      rfl
    have hlb := leafB_len t.ls[(x / 2).toNat]
    have hnm := hG.nm _ (List.getElem_mem hix)
    refine C_bevyref08_HashAt ?_
    unfold F_bevyref08_HashAt
    ((with_reducible (refine mm_box hM ?_; clear hM; intro _ _ hM; refine mm_new hM ?_; clear hM; intro _ _ hM; refine mop_c ?_ ?_)); (focus omega); (with_reducible (refine mop_cT trivial ?_ ?_)); (focus (first | assumption | omega | with_reducible rfl | exact fun h => Bool.noConfusion h)); (with_reducible (refine mif_true ?_; refine mop_c trivial ?_; refine mm_ld hM ?_; refine mop_c ?_ ?_)); (focus omega); (with_reducible refine mm_ixs ‹_› ?_ ?_ ?_); (focus (simp only [List.length_map]; omega)); (focus (simp only [List.length_map]; first | done | omega)); (with_reducible (intro _ _ hA)); (cases hA); (with_reducible refine mm_lds0 hM ‹_› (map_at ?_) ?_); (focus omega))
    refine mm_pure hM (rleaf_ok _ hnm _) (fun w hM => ?_)
    rw [show (ByteArray.mk #[108, 101, 97, 102]) = strOfNums sleaf from rfl]
    refine mop_cat _ _ (by simp; omega) ?_
    refine mm_pure hM (rsum_ok _ (fun y hy => by
      rcases List.mem_append.1 hy with hy | hy
      · simp at hy
        omega
      · exact leafB_byt _ hnm y hy) (by simp; omega) _) (fun w hM => ?_)
    ((with_reducible (refine mm_st hM ?_; clear hM; intro _ hM; refine rm_ld hM ?_)))
    exact ⟨by rw [hAt_leaf he, hla], hM.st⟩
  intro f
  induction f with
  | zero =>
    intro x hx ht w hf
    have he : x % 2 = 0 := by
      have := level_odd x
      omega
    exact hleaf 0 x he ht w hf
  | succ f ih =>
    intro x hx ht w hf
    by_cases he : x % 2 = 0
    · exact hleaf (f + 1) x he ht w hf
    have ho : x % 2 = 1 := by omega
    obtain ⟨k1, k2, k3⟩ := id ht
    obtain ⟨⟨t1, t2⟩, ⟨l1, l2⟩, -⟩ := lr_eq ht ho
    have hM := Mem.start hf
    have hix : (x / 2).toNat < t.ps.length := by omega
    obtain ⟨q, hq1, C, c, rfl, hC, hcl⟩ := h3.at_ (i := (x / 2).toNat) hix
    obtain ⟨p, hpe⟩ : ∃ p, t.ps[(x / 2).toNat] = p := ⟨_, rfl⟩
    have hpa : parAt t (x / 2) = p := by
      unfold parAt
      rw [List.getD_eq_getElem?_getD, List.getElem?_eq_getElem hix, hpe]
      rfl
    have hlo := hG.lo p (hpe ▸ List.getElem_mem _)
    have hpl := parentB_len hlo.1
    rw [hpe] at hq1 hC hcl
    refine C_bevyref08_HashAt ?_
    unfold F_bevyref08_HashAt
    ((with_reducible (refine mm_box hM ?_; clear hM; intro _ _ hM; refine mm_new hM ?_; clear hM; intro _ _ hM; refine mop_c ?_ ?_)); (focus omega); (with_reducible (refine mop_cF trivial ?_ ?_)); (focus (first | assumption | omega | with_reducible rfl | exact fun h => Bool.noConfusion h)); (with_reducible (refine mif_false ?_; refine mop_c trivial ?_; refine mm_ld hM ?_; refine mop_c trivial ?_; refine dp_c trivial ?_; refine dm_ld hM ?_; refine dp_c ?_ ?_)); (focus omega))
    refine dp_ixs h2 (by omega) hq.symm (fun bb oo hB => ?_)
    cases hB
    refine dm_lds0 hM h2 hq1 ?_
    refine dm_pure hM (fun w hM => rparent_ok p hC hlo hM.fz) (fun w' hx hM => ?_)
    rw [show (ByteArray.mk #[110, 111, 100, 101]) = strOfNums snode from rfl]
    refine dp_cat _ _ (by simp; omega) ?_
    ((with_reducible refine dm_ld ‹Mem _ _ _ _› ?_); (with_reducible (refine dm_purC hM ?_ (fun _ _ hM => ?_))); (focus (first | exact trivial | assumption | omega)))
    have hbl : ∀ y ∈ snode ++ parentB p ++ (hAt f t (lf t.size x)).1 ++ (hAt f t (rt t.size x)).1, 0 ≤ y ∧ y < 256 := fun y hy => by
      simp only [List.mem_append] at hy
      rcases hy with ((hy | hy) | hy) | hy
      · simp at hy
        omega
      · exact parentB_byt p hlo y hy
      · exact (hAt f t (lf t.size x)).2.2 y hy
      · exact (hAt f t (rt t.size x)).2.2 y hy
    have hM0 := hM
    refine dm_pure hM (fun w hM => ih (lf t.size x) (by omega) t1 w hM.fz) (fun w' hx hM => ?_)
    ((with_reducible (refine dm_purC hM ?_ (fun _ _ hM => ?_))); (focus (first | exact trivial | assumption | omega)))
    refine dp_cat _ _ (by simp [(hAt f t (lf t.size x)).2.1]; omega) ?_
    ((with_reducible refine dm_ld ‹Mem _ _ _ _› ?_); (with_reducible (refine dm_purC hM ?_ (fun _ _ hM => ?_))); (focus (first | exact trivial | assumption | omega)))
    refine dm_pure hM (fun w hM => ih (rt t.size x) (by omega) t2 w hM.fz) (fun w' hx hM => ?_)
    ((with_reducible (refine dm_purC hM ?_ (fun _ _ hM => ?_))); (focus (first | exact trivial | assumption | omega)))
    refine dp_cat _ _ (by simp [(hAt f t (lf t.size x)).2.1, (hAt f t (rt t.size x)).2.1]; omega) ?_
    refine dm_pure hM (fun w hM => rsum_ok _ hbl (by simp [(hAt f t (lf t.size x)).2.1, (hAt f t (rt t.size x)).2.1]; omega) w) (fun w' hx hM => ?_)
    ((with_reducible (refine dS_st hM ?_; clear hM; intro _ hM; refine mm_end hM ?_; clear hM; intro _ hM; refine rm_ld hM ?_)))
    refine ⟨?_, hM.st⟩
    rw [hAt, if_neg he, hpa]
    simp only [List.append_assoc]
theorem hash_c {v : Value} (h : TrF H v t) (hf : Fz H w) (hR : t.Rt) : Calls Tryz.prog 12 #[v] w fun en w' => en = .returned (ha (hRoot t)) ∧ St w [] w' := by
  obtain ⟨A, a, B, b, qs, rfl, h1, h2, h3⟩ := h.ex
  have hM := Mem.start hf
  have hlen := hR.len
  refine C_tree_Hash ?_
  unfold F_tree_Hash
  ((with_reducible (refine mm_box hM ?_; clear hM; intro _ _ hM; refine mm_new hM ?_; clear hM; intro _ _ hM; refine mm_ld hM ?_)))
  refine mm_pure hM (sound_ok h1 h2 h3 h.len.1 h.len.2 hM.fz) (fun w hM => ?_)
  rw [if_pos (Tr.rt.2 hR)]
  ((with_reducible (refine mm_st hM ?_; clear hM; intro _ hM; refine mop_c trivial ?_; refine mm_ld hM ?_; refine mop_c trivial ?_)))
  unfold hRoot
  by_cases hn : t.ls = []
  · have hl0 : t.ls.length = 0 := by rw [hn]; rfl
    rw [if_pos hn]
    ((with_reducible (refine mop_cT trivial ?_ ?_)); (focus (first | assumption | omega | with_reducible rfl | exact fun h => Bool.noConfusion h)); (with_reducible (refine mif_true ?_; refine mm_bsl hM ?_ ?_ ?_)); (focus rfl); (focus (constructor <;> simp)); (with_reducible (clear hM; intro _ _ hM)))
    refine mm_pure hM (sum1_ok bnone (by decide) hM) (fun w hM => ?_)
    ((with_reducible (refine mm_st hM ?_; clear hM; intro _ hM; refine rm_ld hM ?_)))
    exact ⟨rfl, hM.st⟩
  · have hl0 : 0 < t.ls.length := List.length_pos_iff.2 hn
    rw [if_neg hn]
    have hts : t.size = t.ls.length := rfl
    have hrt : thr t.size (root t.size) := root_thr ⟨by omega, by omega⟩
    have hlv : level (root t.size) ≤ 8 := by
      have := (up_eq (x := root t.size) (by have := hrt.2; omega)).2.2.2.2
      omega
    ((with_reducible (refine mop_cF trivial ?_ ?_)); (focus (first | assumption | omega | with_reducible rfl | exact fun h => Bool.noConfusion h)); (with_reducible (refine mif_false ?_; refine dm_ld hM ?_; refine dp_c trivial ?_; refine dm_ld hM ?_; refine dp_c trivial ?_; refine dm_purC hM ?_ (fun _ _ hM => ?_))); (focus (first | exact trivial | assumption | omega)))
    refine dm_pure hM (fun w hM => hashAt_ok (hR.gd hn) h1 h2 h3 8 (root t.size) hlv hrt w hM.fz) (fun w' hx hM => ?_)
    ((with_reducible (refine dS_st hM ?_; clear hM; intro _ hM; refine mm_end hM ?_; clear hM; intro _ hM; refine rm_ld hM ?_)))
    exact ⟨rfl, hM.st⟩
theorem rhash_c {v : Value} (h : TrF H v t) (hf : Fz H w) (hR : t.Rt) : Calls Tryz.prog 13 #[v] w fun en w' => en = .returned (ha (hRoot t)) ∧ St w [] w' := by
  obtain ⟨A, a, B, b, qs, rfl, h1, h2, h3⟩ := h.ex
  have hM := Mem.start hf
  have hlen := hR.len
  refine C_bevyref08_Hash ?_
  unfold F_bevyref08_Hash
  ((with_reducible (refine mm_box hM ?_; clear hM; intro _ _ hM; refine mm_new hM ?_; clear hM; intro _ _ hM; refine mop_c trivial ?_; refine mm_ld hM ?_; refine mop_c trivial ?_)))
  unfold hRoot
  by_cases hn : t.ls = []
  · have hl0 : t.ls.length = 0 := by rw [hn]; rfl
    rw [if_pos hn]
    ((with_reducible (refine mop_cT trivial ?_ ?_)); (focus (first | assumption | omega | with_reducible rfl | exact fun h => Bool.noConfusion h)); (with_reducible (refine mif_true ?_)))
    rw [show (ByteArray.mk #[110, 111, 110, 101]) = strOfNums snone from rfl]
    refine mm_pure hM (rsum_ok snone (by simp) (by simp) _) (fun w hM => ?_)
    ((with_reducible (refine mm_st hM ?_; clear hM; intro _ hM; refine rm_ld hM ?_)))
    exact ⟨rfl, hM.st⟩
  · have hl0 : 0 < t.ls.length := List.length_pos_iff.2 hn
    rw [if_neg hn]
    have hts : t.size = t.ls.length := rfl
    have hrt : thr t.size (root t.size) := root_thr ⟨by omega, by omega⟩
    have hlv : level (root t.size) ≤ 8 := by
      have := (up_eq (x := root t.size) (by have := hrt.2; omega)).2.2.2.2
      omega
    ((with_reducible (refine mop_cF trivial ?_ ?_)); (focus (first | assumption | omega | with_reducible rfl | exact fun h => Bool.noConfusion h)); (with_reducible (refine mif_false ?_; refine dm_ld hM ?_; refine dp_c trivial ?_; refine dm_ld hM ?_; refine dp_c trivial ?_; refine dm_purC hM ?_ (fun _ _ hM => ?_))); (focus (first | exact trivial | assumption | omega)))
    refine dm_pure hM (fun w hM => rhashAt_ok (hR.gd hn) h1 h2 h3 8 (root t.size) hlv hrt w hM.fz) (fun w' hx hM => ?_)
    ((with_reducible (refine dS_st hM ?_; clear hM; intro _ hM; refine mm_end hM ?_; clear hM; intro _ hM; refine rm_ld hM ?_)))
    exact ⟨rfl, hM.st⟩
end
end Go.Proofs.YtopcnkejobomaaaGreat
namespace Go.Proofs.YtopcnkejobomaaaGreat
open Go.RowKit Go.Lib
structure Ac where
  op : Int
  name : Int
  at_ : Int
  key : Int
abbrev Ac.fds (x : Ac) : List Fd := [.one (.int .u8 x.op), .one (.int .i64 x.name), .one (.int .i64 x.at_), .one (.int .u8 x.key)]
def Ac.good (x : Ac) : Prop := (0 ≤ x.op ∧ x.op < 256) ∧ 0 ≤ x.key ∧ x.key < 256
end Go.Proofs.YtopcnkejobomaaaGreat
namespace Go.Proofs.YtopcnkejobomaaaGreat
open Go.RowKit Go.Lib
end Go.Proofs.YtopcnkejobomaaaGreat
namespace Go.Proofs.YtopcnkejobomaaaGreat
open Go.RowKit Go.Lib
end Go.Proofs.YtopcnkejobomaaaGreat
namespace Go.Proofs.YtopcnkejobomaaaGreat
open Go.RowKit Go.Lib
section
variable {P : Program} {H : Hp} {w0 w : World} {L R : List Res} {n cap e sz : Nat} {A B : Option Addr} {a b : Nat} {t : Tr} {qs ps : List (List Fd)} {X : List Xp}
theorem hashAtT_ok (x : Int) {v : Value} (h : TrF H v t) (hf : Fz H w) : Calls Tryz.prog 14 #[v, .int .i64 x] w fun en w' => en = .returned (ha (if t.right = true ∧ 0 ≤ x ∧ x ≤ 2 * t.size - 2 then hAt 8 t x else hzero)) ∧ St w [] w' := by
  obtain ⟨A, a, B, b, qs, rfl, h1, h2, h3⟩ := h.ex
  have hM := Mem.start hf
  refine C_tree_HashAt ?_
  unfold F_tree_HashAt
  ((with_reducible (refine mm_box hM ?_; clear hM; intro _ _ hM; refine mm_new hM ?_; clear hM; intro _ _ hM; refine mm_ld hM ?_)))
  refine mm_pure hM (sound_ok h1 h2 h3 h.len.1 h.len.2 hM.fz) (fun w hM => ?_)
  cases hr : t.right
  · rw [if_neg (by simp), if_neg (by simp)]
    ((with_reducible (refine mm_st hM ?_; clear hM; intro _ hM)))
    refine ⟨fun v w' => v = .bool true ∧ hM.now w', ?_, ?_⟩
    · ((with_reducible (refine mop_cS trivial ?_ ?_)))
      · intro hx
        ((with_reducible ((iterate 7 refine mguard_n1 ?_); refine mop_c trivial ?_)))
        exact ⟨rfl, hM⟩
      · intro hx
        ((with_reducible (refine mguard_yes ?_; refine mop_c trivial ?_; refine mguard_yes ?_; refine mop_c trivial ?_; refine mguard_yes ?_; refine mm_ld hM ?_; refine mguard_yes ?_; refine mop_c trivial ?_; refine mguard_yes ?_; refine mop_c ?_ ?_)); (focus omega); (with_reducible (refine mguard_yes ?_; refine mop_c ?_ ?_)); (focus omega); (with_reducible (refine mguard_yes ?_; refine mop_cT trivial ?_ ?_)); (focus (first | assumption | omega | with_reducible rfl | exact fun h => Bool.noConfusion h)); (with_reducible (refine mop_c trivial ?_)))
        exact ⟨rfl, hM⟩
    rintro v u w3 ⟨rfl, hM⟩
    ((with_reducible (refine mif_true ?_; refine mop_c trivial ?_; refine mm_st hM ?_; clear hM; intro _ hM; refine rm_ld hM ?_)))
    exact ⟨rfl, hM.st⟩
  · have hR := Tr.rt.1 hr
    have hlen := hR.len
    have hts : t.size = t.ls.length := rfl
    rw [if_pos rfl]
    ((with_reducible (refine mm_st hM ?_; clear hM; intro _ hM)))
    refine ⟨fun v w' => v = .bool (decide (¬ (0 ≤ x ∧ x ≤ 2 * t.size - 2))) ∧ hM.now w', ?_, ?_⟩
    · ((with_reducible (refine mop_cS trivial ?_ ?_)))
      · intro hx
        ((with_reducible ((iterate 7 refine mguard_n1 ?_); refine mop_c trivial ?_)))
        exact ⟨by rw [decide_eq_true (by omega)], hM⟩
      · intro hx
        ((with_reducible (refine mguard_yes ?_; refine mop_c trivial ?_; refine mguard_yes ?_; refine mop_c trivial ?_; refine mguard_yes ?_; refine mm_ld hM ?_; refine mguard_yes ?_; refine mop_c trivial ?_; refine mguard_yes ?_; refine mop_c ?_ ?_)); (focus omega); (with_reducible (refine mguard_yes ?_; refine mop_c ?_ ?_)); (focus omega); (with_reducible (refine mguard_yes ?_)))
        ((with_reducible (refine mop_cS trivial ?_ ?_)))
        · intro hx2
          ((with_reducible (refine mop_c trivial ?_)))
          exact ⟨by rw [decide_eq_true (by omega)], hM⟩
        · intro hx2
          ((with_reducible (refine mop_c trivial ?_)))
          exact ⟨by rw [decide_eq_false (by omega)], hM⟩
    rintro v u w3 ⟨rfl, hM⟩
    by_cases hc : 0 ≤ x ∧ x ≤ 2 * t.size - 2
    · rw [decide_eq_false (by simpa using hc), if_pos ⟨rfl, hc⟩]
      ((with_reducible (refine mif_false ?_; refine mm_ld hM ?_)))
      have hne : t.ls ≠ [] := fun e => by rw [hts, e] at hc; simp at hc; omega
      refine mm_pure hM (hashAt_ok (hR.gd hne) h1 h2 h3 8 x (by have := (up_eq (x := x) (by omega)).2.2.2.2; omega) ⟨by omega, hc.1, hc.2⟩ _ hM.fz) (fun w hM => ?_)
      ((with_reducible (refine mm_st hM ?_; clear hM; intro _ hM; refine rm_ld hM ?_)))
      exact ⟨rfl, hM.st⟩
    · rw [decide_eq_true hc, if_neg (fun h => hc h.2)]
      ((with_reducible (refine mif_true ?_; refine mop_c trivial ?_; refine mm_st hM ?_; clear hM; intro _ hM; refine rm_ld hM ?_)))
      exact ⟨rfl, hM.st⟩
end
end Go.Proofs.YtopcnkejobomaaaGreat
namespace Go.Proofs.YtopcnkejobomaaaGreat
open Go.RowKit Go.Lib
end Go.Proofs.YtopcnkejobomaaaGreat
namespace Go.Proofs.YtopcnkejobomaaaGreat
open Go.RowKit Go.Lib
end Go.Proofs.YtopcnkejobomaaaGreat
namespace Go.Proofs.YtopcnkejobomaaaGreat
open Go.RowKit Go.Lib
end Go.Proofs.YtopcnkejobomaaaGreat
namespace Go.Proofs.YtopcnkejobomaaaGreat
open Go.RowKit Go.Lib
def resL : Nat → Tr → Int → List Int
  | 0, t, x => if 0 < (leafAt t (x / 2)).name then [x] else []
  | f + 1, t, x => if x % 2 = 0 then (if 0 < (leafAt t (x / 2)).name then [x] else []) else if (parAt t (x / 2)).set = true then x :: (parAt t (x / 2)).loose.map (2 * ·) else resL f t (lf t.size x) ++ resL f t (rt t.size x)
theorem resL_leaf {f : Nat} {t : Tr} {x : Int} (h : x % 2 = 0) : resL f t x = if 0 < (leafAt t (x / 2)).name then [x] else [] := by
  cases f with
  | zero => rfl
  | succ f => rw [resL, if_pos h]
theorem parAt_mem {t : Tr} {x : Int} (h : (x / 2).toNat < t.ps.length) : parAt t (x / 2) = t.ps[(x / 2).toNat] := by
  unfold parAt
  rw [List.getD_eq_getElem?_getD, List.getElem?_eq_getElem h]
  rfl
theorem resL_len {t : Tr} (h : t.Rt) : ∀ (f : Nat) (x : Int), thr t.size x → (resL f t x).length ≤ 65 * 2 ^ f
  | 0, x, _ => by
    unfold resL
    split <;> simp
  | f + 1, x, ht => by
    have hp : 0 < 2 ^ f := Nat.pow_pos (by decide)
    have h2 : (2 : Nat) ^ (f + 1) = 2 ^ f * 2 := Nat.pow_succ 2 f
    unfold resL
    by_cases he : x % 2 = 0
    · rw [if_pos he]
      split <;> simp <;> omega
    · rw [if_neg he]
      have hlen := h.len
      obtain ⟨k1, k2, k3⟩ := id ht
      have hts : t.size = t.ls.length := rfl
      have hix : (x / 2).toNat < t.ps.length := by omega
      by_cases hs : (parAt t (x / 2)).set = true
      · rw [if_pos hs, parAt_mem hix]
        have := (h.loose _ (List.getElem_mem hix)).1
        simp only [List.length_cons, List.length_map]
        omega
      · rw [if_neg hs]
        obtain ⟨⟨t1, t2⟩, -⟩ := lr_eq ht (by omega)
        have := resL_len h f _ t1
        have := resL_len h f _ t2
        rw [List.length_append]
        omega
end Go.Proofs.YtopcnkejobomaaaGreat
namespace Go.Proofs.YtopcnkejobomaaaGreat
open Go.RowKit Go.Lib
theorem ints8_snoc (l : List Int) (x : Int) : ints8 (l ++ [x]) = ints8 l ++ [[.one (.int .i64 x)]] := by simp [ints8]
section
variable {H : Hp} {w0 w : World} {L R : List Res} {A B K : Option Addr} {a b kc gt go gw gn : Nat} {t : Tr} {qs : List (List Fd)}
theorem resLeaf_ok {f : Nat} {x : Int} (hR : t.Rt) (h1 : Sl H 97 A (t.ls.map Lf.fds)) (he : x % 2 = 0) (ht : thr t.size x) (out : List Int) (ho : out.length ≤ 100000) (hM : Mem H w0 (fb gt 25 (tfd A t.ls.length a B t.ps.length b) :: fb go 29 [.one (.slice K out.length kc)] :: fb gw 69 [.one (.func (.func 37) #[] #[.pointer (some ⟨gt, 0, none⟩), .pointer (some ⟨go, 0, none⟩), .pointer (some ⟨gw, 0, none⟩), .pointer (some ⟨gn, 0, none⟩)])] :: fb gn 3 [.one (.int .i64 t.ls.length)] :: rowR 3 1 K out.length kc (ints8 (out)) :: L) w) :
    Calls Tryz.prog 37 #[.int .i64 x, .pointer (some ⟨gt, 0, none⟩), .pointer (some ⟨go, 0, none⟩), .pointer (some ⟨gw, 0, none⟩), .pointer (some ⟨gn, 0, none⟩)] w fun en w' => ∃ v, en = .returned v ∧ v = .tuple #[] ∧ ∃ K' kc', Mem H w0 (fb gt 25 (tfd A t.ls.length a B t.ps.length b) :: fb go 29 [.one (.slice K' (out ++ resL f t x).length kc')] :: fb gw 69 [.one (.func (.func 37) #[] #[.pointer (some ⟨gt, 0, none⟩), .pointer (some ⟨go, 0, none⟩), .pointer (some ⟨gw, 0, none⟩), .pointer (some ⟨gn, 0, none⟩)])] :: fb gn 3 [.one (.int .i64 t.ls.length)] :: rowR 3 1 K' (out ++ resL f t x).length kc' (ints8 (out ++ resL f t x)) :: L) w' := by
  have hlen := hR.len
  have hts : t.size = t.ls.length := rfl
  obtain ⟨k1, k2, k3⟩ := id ht
  have hix : (x / 2).toNat < t.ls.length := by omega
  have hla : leafAt t (x / 2) = t.ls[(x / 2).toNat] := by
    unfold leafAt
    rw [List.getD_eq_getElem?_getD, List.getElem?_eq_getElem hix]
    rfl
  rw [resL_leaf he, hla]
  refine C_tree_Resolve_1 ?_
  unfold F_tree_Resolve_1
  ((with_reducible (refine mop_c ?_ ?_)); (focus omega); (with_reducible (refine mop_cT trivial ?_ ?_)); (focus (first | assumption | omega | with_reducible rfl | exact fun h => Bool.noConfusion h)); (with_reducible (refine mif_true ?_; refine mop_c trivial ?_; refine mm_ld hM ?_; refine mop_c ?_ ?_)); (focus omega); (with_reducible refine mm_ixs ‹_› ?_ ?_ ?_); (focus (simp only [List.length_map]; omega)); (focus (simp only [List.length_map]; first | done | omega)); (with_reducible (intro _ _ hA)); (cases hA); (with_reducible (refine mop_c trivial ?_)); (with_reducible refine mm_lds hM ‹_› (map_at ?_) ?_); (focus omega))
  ((with_reducible (refine mop_cS trivial ?_ ?_)))
  · intro hn
    rw [if_pos hn, List.length_append, List.length_singleton, ints8_snoc]
    ((with_reducible (refine mif_true ?_; refine mm_ld hM ?_; refine mm_bsl hM ?_ ?_ ?_)); (focus rfl); (focus (constructor <;> simp)); (with_reducible (clear hM; intro _ _ hM; refine mm_appo hM ?_ ?_)); (focus omega); (with_reducible (clear hM; intro _ _ _ hM; refine mm_st hM ?_; clear hM; intro _ hM)))
    rename_i A2 c2 _ _
    exact ⟨_, rfl, rfl, A2, c2, hM.sub⟩
  · intro hn
    rw [if_neg hn, List.append_nil]
    ((with_reducible (refine mif_false ?_)))
    exact ⟨_, rfl, rfl, K, kc, hM⟩
theorem resolve1_ok (hR : t.Rt) (h1 : Sl H 97 A (t.ls.map Lf.fds)) (h2 : Sl H 66 B qs) (h3 : All2 (PnF H) qs t.ps) : ∀ (f : Nat) (x : Int), level x ≤ f → f ≤ 8 → thr t.size x → ∀ (out : List Int) (K : Option Addr) (kc : Nat) (w : World), out.length + 65 * 2 ^ f ≤ 50000 → Mem H w0 (fb gt 25 (tfd A t.ls.length a B t.ps.length b) :: fb go 29 [.one (.slice K out.length kc)] :: fb gw 69 [.one (.func (.func 37) #[] #[.pointer (some ⟨gt, 0, none⟩), .pointer (some ⟨go, 0, none⟩), .pointer (some ⟨gw, 0, none⟩), .pointer (some ⟨gn, 0, none⟩)])] :: fb gn 3 [.one (.int .i64 t.ls.length)] :: rowR 3 1 K out.length kc (ints8 (out)) :: L) w →
    Calls Tryz.prog 37 #[.int .i64 x, .pointer (some ⟨gt, 0, none⟩), .pointer (some ⟨go, 0, none⟩), .pointer (some ⟨gw, 0, none⟩), .pointer (some ⟨gn, 0, none⟩)] w fun en w' => ∃ v, en = .returned v ∧ v = .tuple #[] ∧ ∃ K' kc', Mem H w0 (fb gt 25 (tfd A t.ls.length a B t.ps.length b) :: fb go 29 [.one (.slice K' (out ++ resL f t x).length kc')] :: fb gw 69 [.one (.func (.func 37) #[] #[.pointer (some ⟨gt, 0, none⟩), .pointer (some ⟨go, 0, none⟩), .pointer (some ⟨gw, 0, none⟩), .pointer (some ⟨gn, 0, none⟩)])] :: fb gn 3 [.one (.int .i64 t.ls.length)] :: rowR 3 1 K' (out ++ resL f t x).length kc' (ints8 (out ++ resL f t x)) :: L) w' := by
  have hlen := hR.len
  have hts : t.size = t.ls.length := rfl
  have hq : qs.length = t.ps.length := h3.len
  intro f
  induction f with
  | zero =>
    intro x hx _ ht out K kc w ho hM
    have he : x % 2 = 0 := by
      have := level_odd x
      omega
    exact resLeaf_ok hR h1 he ht out (by omega) hM
  | succ f ih =>
    intro x hx hf8 ht out K kc w ho hM
    have hp2 : 0 < 2 ^ f := Nat.pow_pos (by decide)
    have h22 : (2 : Nat) ^ (f + 1) = 2 ^ f * 2 := Nat.pow_succ 2 f
    generalize (2 : Nat) ^ (f + 1) = q2 at *
    by_cases he : x % 2 = 0
    · exact resLeaf_ok hR h1 he ht out (by omega) hM
    have hodd : x % 2 = 1 := by omega
    obtain ⟨k1, k2, k3⟩ := id ht
    obtain ⟨⟨t1, t2⟩, ⟨l1, l2⟩, -⟩ := lr_eq ht hodd
    have hix : (x / 2).toNat < t.ps.length := by omega
    obtain ⟨q, hq1, C, c, rfl, hC, hcl⟩ := h3.at_ (i := (x / 2).toNat) hix
    obtain ⟨p, hpe⟩ : ∃ p, t.ps[(x / 2).toNat] = p := ⟨_, rfl⟩
    have hpa : parAt t (x / 2) = p := by
      unfold parAt
      rw [List.getD_eq_getElem?_getD, List.getElem?_eq_getElem hix, hpe]
      rfl
    have hlo := hR.loose p (hpe ▸ List.getElem_mem _)
    obtain ⟨-, hd, -⟩ := hR.parts.2 _ hix
    rw [hpe] at hq1 hC hcl hd
    have hres : resL (f + 1) t x = if p.set = true then x :: p.loose.map (2 * ·) else resL f t (lf t.size x) ++ resL f t (rt t.size x) := by
      rw [resL, if_neg he, hpa]
    rw [hres]
    refine C_tree_Resolve_1 ?_
    unfold F_tree_Resolve_1
    ((with_reducible (refine mop_c ?_ ?_)); (focus omega); (with_reducible (refine mop_cF trivial ?_ ?_)); (focus (first | assumption | omega | with_reducible rfl | exact fun h => Bool.noConfusion h)); (with_reducible (refine mif_false ?_; refine mop_c trivial ?_; refine mm_ld hM ?_; refine mop_c ?_ ?_)); (focus omega))
    refine mm_ixs h2 (by omega) hq.symm (fun bb oo hB => ?_)
    cases hB
    ((with_reducible (refine mop_c trivial ?_)))
    refine mm_lds0 hM h2 hq1 ?_
    rcases Bool.eq_false_or_eq_true p.set with hset | hset
    · rw [hset, if_pos rfl]
      ((with_reducible (refine mif_true ?_; refine mm_ld hM ?_; refine mm_bsl hM ?_ ?_ ?_)); (focus rfl); (focus (constructor <;> simp)); (with_reducible (clear hM; intro _ _ hM; refine mm_appo hM ?_ ?_)); (focus omega); (with_reducible (clear hM; intro _ _ _ hM; refine mm_st hM ?_; clear hM; intro _ hM; refine mop_c trivial ?_; refine mm_ld hM ?_; refine mop_c ?_ ?_)); (focus omega); (with_reducible (refine mop_c ?_ ?_)); (focus omega); (with_reducible (refine mop_c trivial ?_)))
      rename_i A2 c2 _ _
      refine mm_lds hM h2 hq1 ?_
      ((with_reducible (refine mop_c trivial ?_)))
      refine ⟨fun v w' => ∃ (k : Nat) (K' : Option Addr) (kc' : Nat), v = .int .i64 k ∧ k ≤ p.loose.length ∧ Mem H w0 (fb gt 25 (tfd A t.ls.length a (some ⟨bb, oo, none⟩) t.ps.length b) :: fb go 29 [.one (.slice K' (out ++ x :: (p.loose.take k).map (2 * ·)).length kc')] :: fb gw 69 [.one (.func (.func 37) #[] #[.pointer (some ⟨gt, 0, none⟩), .pointer (some ⟨go, 0, none⟩), .pointer (some ⟨gw, 0, none⟩), .pointer (some ⟨gn, 0, none⟩)])] :: fb gn 3 [.one (.int .i64 t.ls.length)] :: rowR 3 1 K' (out ++ x :: (p.loose.take k).map (2 * ·)).length kc' (ints8 (out ++ x :: (p.loose.take k).map (2 * ·))) :: L) w', fun v _ => match v with | .int _ k => p.loose.length - k.toNat | _ => 0, ⟨0, A2, c2, rfl, by omega, ?_⟩, ?_⟩
      · rw [List.take_zero, List.map_nil, List.length_append, List.length_singleton, ints8_snoc]
        exact hM.sub
      clear hM
      rintro v u w3 ⟨k, K', kc', rfl, hk, hM⟩
      have hol : (out ++ x :: (p.loose.take k).map (2 * ·)).length = out.length + (k + 1) := by
        simp
        omega
      ((with_reducible (refine mop_cS trivial ?_ ?_)))
      · intro hlt
        have hlt' : k < p.loose.length := by omega
        have e1 := ints8_at (l := p.loose) (i := k) hlt'
        have hq := hld_rng (hd _ (List.getElem_mem hlt')).1
        ((with_reducible (refine mif_true ?_)); (with_reducible refine mm_ixs ‹_› ?_ ?_ ?_); (focus (simp only [List.length_map]; omega)); (focus (simp only [List.length_map]; first | done | omega)); (with_reducible (intro _ _ hA)); (cases hA); (with_reducible refine mm_lds0 hM ‹_› (map_atI ?_) ?_); (focus omega); (with_reducible (refine mm_ld hM ?_; refine mop_c ?_ ?_)); (focus omega); (with_reducible (refine mm_bsl hM ?_ ?_ ?_)); (focus rfl); (focus (constructor <;> simp)); (with_reducible (clear hM; intro _ _ hM; refine mm_appo hM ?_ ?_)); (focus omega); (with_reducible (clear hM; intro _ _ _ hM; refine mm_st hM ?_; clear hM; intro _ hM; refine mop_c ?_ ?_)); (focus omega))
        rename_i A3 c3 _ _
        refine ⟨⟨k + 1, A3, c3, rfl, by omega, ?_⟩, by simp only; omega⟩
        have e : out ++ x :: (p.loose.take (k + 1)).map (2 * ·) = (out ++ x :: (p.loose.take k).map (2 * ·)) ++ [2 * p.loose[k]] := by
          rw [List.take_succ_eq_append_getElem hlt', List.map_append, List.append_assoc]
          rfl
        rw [e, List.length_append, List.length_singleton, ints8_snoc]
        exact hM.sub
      · intro hge
        obtain rfl : k = p.loose.length := by omega
        rw [List.take_length] at hM
        ((with_reducible (refine mif_false ?_)))
        exact ⟨_, rfl, rfl, _, _, hM⟩
    · rw [hset, if_neg (by simp)]
      have z1 := resL_len hR f _ t1
      ((with_reducible (refine mif_false ?_; refine dm_ld hM ?_; refine dm_ld hM ?_; refine dm_purC hM ?_ (fun _ _ hM => ?_))); (focus (first | exact trivial | assumption | omega)))
      refine df_no hM (fun w hM => ?_)
      refine mop_callv (ih (lf t.size x) (by omega) (by omega) t1 out K kc w (by omega) hM) ?_
      rintro e w' ⟨v, rfl, rfl, K1, kc1, hM⟩
      dsimp only
      ((with_reducible (refine mm_end hM ?_; clear hM; intro _ hM; refine dm_ld hM ?_; refine dm_ld hM ?_; refine dm_purC hM ?_ (fun _ _ hM => ?_))); (focus (first | exact trivial | assumption | omega)))
      refine df_no hM (fun w hM => ?_)
      refine mop_callv (ih (rt t.size x) (by omega) (by omega) t2 (out ++ resL f t (lf t.size x)) K1 kc1 w (by rw [List.length_append]; omega) hM) ?_
      rintro e w' ⟨v, rfl, rfl, K2, kc2, hM⟩
      dsimp only
      ((with_reducible (refine mm_end hM ?_; clear hM; intro _ hM)))
      rw [← List.append_assoc]
      exact ⟨_, rfl, rfl, _, _, hM⟩
def resT (t : Tr) (x : Int) : List Int := if thr t.size x then resL 8 t x else []
theorem resolve_ok (x : Int) (hx : x ≤ 1000) (hR : t.Rt) {v : Value} (h : TrF H v t) (hf : Fz H w) : Calls Tryz.prog 11 #[v, .int .i64 x] w (Outp H w fun H' r => ∃ K kc, r = .slice K (resT t x).length kc ∧ Sl H' 1 K (ints8 (resT t x))) := by
  obtain ⟨A, a, B, b, q, rfl, h1, h2, h3⟩ := h.ex
  obtain ⟨w1, hw1⟩ : ∃ w1, w1 = w := ⟨_, rfl⟩
  rw [← hw1]
  rw [← hw1] at hf
  have hlen := hR.len
  have hts : t.size = t.ls.length := rfl
  have hM := Mem.start hf
  refine C_tree_Resolve ?_
  unfold F_tree_Resolve
  ((with_reducible (refine mm_box hM ?_; clear hM; intro _ _ hM; refine mm_ld hM ?_)))
  rename_i g1 _
  refine mm_pure hM (sound_ok h1 h2 h3 h.len.1 h.len.2 hM.fz) (fun w hM => ?_)
  rw [if_pos (Tr.rt.2 hR)]
  ((with_reducible (refine mm_st hM ?_; clear hM; intro _ hM; refine mop_c trivial ?_; refine mm_ld hM ?_; refine mop_c trivial ?_; refine mm_new hM ?_; clear hM; intro _ _ hM; refine mm_st hM ?_; clear hM; intro _ hM; refine mm_new hM ?_; clear hM; intro _ _ hM; refine mm_new hM ?_; clear hM; intro _ _ hM; refine mop_c trivial ?_; refine mm_st hM ?_; clear hM; intro _ hM)))
  rename_i _ g2 _ _ g3 _ g4 _ _
  refine ⟨fun w' => ∃ K kc, Mem H w1 [fb g3 29 [.one (.slice K (resT t x).length kc)], rowR 3 1 K (resT t x).length kc (ints8 (resT t x))] w', ?_, ?_⟩
  · refine ⟨fun v w' => v = .bool (decide (thr t.size x)) ∧ hM.now w', ?_, ?_⟩
    · ((with_reducible (refine mop_cS trivial ?_ ?_)))
      · intro c1
        ((with_reducible (refine mguard_yes ?_; refine mop_c trivial ?_; refine mguard_yes ?_; refine mm_ld hM ?_; refine mguard_yes ?_; refine mop_c ?_ ?_)); (focus omega); (with_reducible (refine mguard_yes ?_; refine mop_c ?_ ?_)); (focus omega); (with_reducible (refine mguard_yes ?_)))
        refine ⟨?_, hM⟩
        rw [if_pos rfl, Value.bool.injEq, decide_eq_decide]
        unfold thr
        omega
      · intro c1
        ((with_reducible ((iterate 5 refine mguard_n2 ?_); refine mop_c trivial ?_)))
        exact ⟨by rw [decide_eq_false (by unfold thr; omega)], hM⟩
    rintro v u w2 ⟨rfl, hM⟩
    by_cases c : thr t.size x
    · rw [decide_eq_true c]
      have hr : resT t x = resL 8 t x := if_pos c
      rw [hr]
      have h0 : Mem H w1 (rowR 3 1 none 0 0 (ints8 []) :: _) _ := hM.row0 3 1
      have hM : Mem H w1 (fb g1 25 (tfd A t.ls.length a B t.ps.length b) :: fb g3 29 [.one (.slice none 0 0)] :: fb g4 69 [.one (.func (.func 37) #[] #[.pointer (some ⟨g1, 0, none⟩), .pointer (some ⟨g3, 0, none⟩), .pointer (some ⟨g4, 0, none⟩), .pointer (some ⟨g2, 0, none⟩)])] :: fb g2 3 [.one (.int .i64 t.ls.length)] :: rowR 3 1 none 0 0 (ints8 []) :: []) _ := h0.sub
      ((with_reducible (refine mif_true ?_; refine mm_ld hM ?_)))
      refine mop_callv (resolve1_ok (t := t) hR h1 h2 h3 8 x (by have := lev_rng 8 x; unfold level; omega) (by omega) c [] none 0 _ (by simp) hM) ?_
      rintro e w' ⟨v, rfl, rfl, K1, kc1, hM⟩
      dsimp only
      rw [List.nil_append] at hM
      skip
      exact ⟨K1, kc1, hM.sub⟩
    · rw [decide_eq_false c]
      have hr : resT t x = [] := if_neg c
      rw [hr]
      ((with_reducible (refine mif_false ?_)))
      have h0 : Mem H w1 (rowR 3 1 none 0 0 (ints8 []) :: _) _ := hM.row0 3 1
      exact ⟨none, 0, h0.sub⟩
  clear hM
  rintro u w2 ⟨K, kc, hM⟩
  ((with_reducible (refine mm_ld hM ?_)))
  have hM : Mem H w1 [rowR 3 1 K (resT t x).length kc (ints8 (resT t x))] _ := hM.sub
  obtain ⟨H4, l4, hM, hs, -⟩ := hM.fz0
  exact hM.out l4 ⟨K, kc, rfl, hs⟩
end
end Go.Proofs.YtopcnkejobomaaaGreat
namespace Go.Proofs.YtopcnkejobomaaaGreat
open Go.RowKit Go.Lib
theorem none_rt' : Tr.none.Rt := Tr.rt.1 (by decide)
def packB (t : Tr) : List Int := numB t.ls.length ++ t.ls.flatMap leafB ++ t.ps.flatMap parentB
section
variable {H : Hp} {w0 w : World} {L R : List Res} {A B C : Option Addr} {a b c n : Nat} {t : Tr} {v : Value}
theorem place_bad (x : Int) (hr : t.right = false) (h : TrF H v t) (hf : Fz H w) : Calls Tryz.prog 9 #[v, .int .i64 x] w fun en w' => en = .returned (.int .i64 (-1)) ∧ St w [] w' := by
  obtain ⟨A, a, B, b, q, rfl, h1, h2, h3⟩ := h.ex
  have := place_ok (a := a) (b := b) x h1 h2 h3 h.len.1 h.len.2 hf
  have e : t.sound = Tr.none := if_neg (by rw [hr]; exact Bool.false_ne_true)
  rw [e] at this
  have e2 : Tr.none.place x = -1 := by
    unfold Tr.place Tr.none
    split <;> rfl
  rwa [e2] at this
theorem placeT_c (x : Int) (hR : t.Rt) (h : TrF H v t) (hf : Fz H w) : Calls Tryz.prog 9 #[v, .int .i64 x] w fun en w' => en = .returned (.int .i64 (t.place x)) ∧ St w [] w' := by
  obtain ⟨A, a, B, b, q, rfl, h1, h2, h3⟩ := h.ex
  have := place_ok (a := a) (b := b) x h1 h2 h3 h.len.1 h.len.2 hf
  rwa [show t.sound = t from if_pos (Tr.rt.2 hR)] at this
theorem rplaceT_c (x : Int) (h : TrF H v t) (hf : Fz H w) : Calls Tryz.prog 16 #[v, .int .i64 x] w fun en w' => en = .returned (.int .i64 (t.place x)) ∧ St w [] w' := by
  obtain ⟨A, a, B, b, q, rfl, h1, h2, h3⟩ := h.ex
  exact rplace_ok x h1 h.len.1 hf
theorem names_bad (hr : t.right = false) (h : TrF H v t) (hf : Fz H w) : Calls Tryz.prog 10 #[v] w fun en w' => ∃ v, en = .returned v ∧ ∃ K kc, v = .slice K 0 kc ∧ St w [] w' := by
  obtain ⟨A, a, B, b, q, rfl, h1, h2, h3⟩ := h.ex
  obtain ⟨w1, hw1⟩ : ∃ w1, w1 = w := ⟨_, rfl⟩
  rw [← hw1]
  rw [← hw1] at hf
  have hM := Mem.start hf
  refine C_tree_Names ?_
  unfold F_tree_Names
  ((with_reducible (refine mm_box hM ?_; clear hM; intro _ _ hM; refine mm_ld hM ?_)))
  refine mm_pure hM (sound_ok h1 h2 h3 h.len.1 h.len.2 hM.fz) (fun w hM => ?_)
  rw [if_neg (by rw [hr]; exact Bool.false_ne_true)]
  ((with_reducible (refine mop_c trivial ?_; refine mop_c trivial ?_)))
  have h0 : Mem H w1 (rowR 3 1 none 0 0 (ints8 []) :: _) _ := hM.row0 3 1
  refine ⟨fun v u w' => v = .slice none 0 0 ∧ u = .int .i64 0 ∧ Mem H w1 [rowR 3 1 none 0 0 (ints8 [])] w', fun _ _ _ => 0, ⟨rfl, rfl, h0.sub⟩, ?_⟩
  clear hM h0
  rintro v u u2 w3 ⟨rfl, rfl, hM⟩
  ((with_reducible (refine mop_cF trivial ?_ ?_)); (focus (first | assumption | omega | with_reducible rfl | exact fun h => Bool.noConfusion h)); (with_reducible (refine mif_false ?_)))
  refine mm_own (ssort_ok [] (by simp) hM) ?_
  rintro v w6 ⟨rfl, hM⟩
  skip
  exact ⟨_, rfl, none, 0, rfl, hM.st⟩
theorem hash_bad (hr : t.right = false) (h : TrF H v t) (hf : Fz H w) : Calls Tryz.prog 12 #[v] w fun en w' => en = .returned (ha (hRoot Tr.none)) ∧ St w [] w' := by
  obtain ⟨A, a, B, b, q, rfl, h1, h2, h3⟩ := h.ex
  have hM := Mem.start hf
  refine C_tree_Hash ?_
  unfold F_tree_Hash
  ((with_reducible (refine mm_box hM ?_; clear hM; intro _ _ hM; refine mm_new hM ?_; clear hM; intro _ _ hM; refine mm_ld hM ?_)))
  refine mm_pure hM (sound_ok h1 h2 h3 h.len.1 h.len.2 hM.fz) (fun w hM => ?_)
  rw [if_neg (by rw [hr]; exact Bool.false_ne_true)]
  ((with_reducible (refine mm_st hM ?_; clear hM; intro _ hM; refine mop_c trivial ?_; refine mm_ld hM ?_; refine mop_c trivial ?_; refine mop_cT trivial ?_ ?_)); (focus (first | assumption | omega | with_reducible rfl | exact fun h => Bool.noConfusion h)); (with_reducible (refine mif_true ?_; refine mm_bsl hM ?_ ?_ ?_)); (focus rfl); (focus (constructor <;> simp)); (with_reducible (clear hM; intro _ _ hM)))
  refine mm_pure hM (sum1_ok bnone (by decide) hM) (fun w hM => ?_)
  ((with_reducible (refine mm_st hM ?_; clear hM; intro _ hM; refine rm_ld hM ?_)))
  exact ⟨rfl, hM.st⟩
theorem resolve_bad (x : Int) (hb : ¬ (t.right = true ∧ thr t.size x)) (h : TrF H v t) (hf : Fz H w) : Calls Tryz.prog 11 #[v, .int .i64 x] w fun en w' => ∃ v, en = .returned v ∧ ∃ K kc, v = .slice K 0 kc ∧ St w [] w' := by
  obtain ⟨A, a, B, b, q, rfl, h1, h2, h3⟩ := h.ex
  have hlen := h.len
  simp only [maxLen] at hlen
  have hM := Mem.start hf
  refine C_tree_Resolve ?_
  unfold F_tree_Resolve
  ((with_reducible (refine mm_box hM ?_; clear hM; intro _ _ hM; refine mm_ld hM ?_)))
  refine mm_pure hM (sound_ok h1 h2 h3 h.len.1 h.len.2 hM.fz) (fun w hM => ?_)
  obtain ⟨u, C, c, D, d, he, hu⟩ : ∃ (u : Tr) (C : Option Addr) (c : Nat) (D : Option Addr) (d : Nat), (if t.right = true then tv A t.ls.length a B t.ps.length b else tv none 0 0 none 0 0) = tv C u.ls.length c D u.ps.length d ∧ u.ls.length ≤ 64 ∧ ¬ (0 ≤ x ∧ x < 2 * (u.ls.length : Int) - 1) := by
    by_cases hr : t.right = true
    · have hR := Tr.rt.1 hr
      have hl := hR.len
      have hts : t.size = t.ls.length := rfl
      refine ⟨t, A, a, B, b, if_pos hr, hl.1, fun hc => hb ⟨hr, ?_⟩⟩
      unfold thr
      omega
    · exact ⟨Tr.none, none, 0, none, 0, if_neg hr, by simp [Tr.none], fun hc => by have h4 := hc.1; have h5 := hc.2; simp [Tr.none] at h5; omega⟩
  rw [he]
  ((with_reducible (refine mm_st hM ?_; clear hM; intro _ hM; refine mop_c trivial ?_; refine mm_ld hM ?_; refine mop_c trivial ?_; refine mm_new hM ?_; clear hM; intro _ _ hM; refine mm_st hM ?_; clear hM; intro _ hM; refine mm_new hM ?_; clear hM; intro _ _ hM; refine mm_new hM ?_; clear hM; intro _ _ hM; refine mop_c trivial ?_; refine mm_st hM ?_; clear hM; intro _ hM)))
  rename_i _ g2 _ _ g3 _ g4 _ _
  refine ⟨fun w' => hM.now w', ?_, ?_⟩
  · refine ⟨fun v w' => v = .bool false ∧ hM.now w', ?_, ?_⟩
    · ((with_reducible (refine mop_cS trivial ?_ ?_)))
      · intro c1
        ((with_reducible (refine mguard_yes ?_; refine mop_c trivial ?_; refine mguard_yes ?_; refine mm_ld hM ?_; refine mguard_yes ?_; refine mop_c ?_ ?_)); (focus omega); (with_reducible (refine mguard_yes ?_; refine mop_c ?_ ?_)); (focus omega); (with_reducible (refine mguard_yes ?_; refine mop_cF trivial ?_ ?_)); (focus (first | assumption | omega | with_reducible rfl | exact fun h => Bool.noConfusion h)); (with_reducible (refine mop_c trivial ?_)))
        refine ⟨?_, hM⟩
        first | rfl | exact congrArg Value.bool (decide_eq_false (by omega))
      · intro c1
        ((with_reducible ((iterate 5 refine mguard_n2 ?_); refine mop_c trivial ?_)))
        exact ⟨rfl, hM⟩
    rintro v u w2 ⟨rfl, hM⟩
    ((with_reducible (refine mif_false ?_)))
    exact hM
  rintro u w2 hM
  ((with_reducible (refine mm_ld hM ?_)))
  exact ⟨_, rfl, none, 0, rfl, hM.st⟩
theorem fm_len {α : Type} {f : α → List Int} {l : List α} {k : Nat} (h : ∀ x ∈ l, (f x).length ≤ k) : (l.flatMap f).length ≤ l.length * k := by
  induction l with
  | nil => simp
  | cons x r ih =>
    have h1 := h x (List.mem_cons_self ..)
    have h2 := ih fun y hy => h y (List.mem_cons_of_mem _ hy)
    simp only [List.flatMap_cons, List.length_append, List.length_cons, Nat.succ_mul]
    omega
theorem fm_take {α : Type} {f : α → List Int} {l : List α} {i : Nat} (h : i < l.length) : (l.take (i + 1)).flatMap f = (l.take i).flatMap f ++ f l[i] := by
  rw [List.take_succ_eq_append_getElem h, List.flatMap_append]
  simp
theorem Tr.Rt.gd2 (h : t.Rt) : (∀ l ∈ t.ls, 0 ≤ l.name ∧ l.name ≤ 64) ∧ ∀ p ∈ t.ps, p.loose.length ≤ 64 ∧ ∀ q ∈ p.loose, 0 ≤ q ∧ q ≤ 64 := by
  by_cases hn : t.ls = []
  · have hl := h.len
    have e : t.ps = [] := List.eq_nil_of_length_eq_zero (by rw [hl.2, hn]; rfl)
    rw [hn, e]
    exact ⟨fun _ h => (by cases h), fun _ h => (by cases h)⟩
  · exact ⟨(h.gd hn).nm, (h.gd hn).lo⟩
theorem pack_c (hR : t.Rt) (h : TrF H v t) (hf : Fz H w) : Calls Tryz.prog 15 #[v] w fun en w' => en = .returned (.string (strOfNums (packB t))) ∧ St w [] w' := by
  obtain ⟨A, a, B, b, q, hv, h1, h2, h3⟩ := h.ex
  rw [hv] at h ⊢
  obtain ⟨w1, hw1⟩ : ∃ w1, w1 = w := ⟨_, rfl⟩
  rw [← hw1]
  rw [← hw1] at hf
  have hlen := hR.len
  obtain ⟨gn, gl⟩ := hR.gd2
  have hM := Mem.start hf
  refine C_tree_Pack ?_
  unfold F_tree_Pack
  ((with_reducible (refine mm_box hM ?_; clear hM; intro _ _ hM; refine mm_ld hM ?_)))
  rename_i g1 _
  refine mm_pure hM (right_c h hM.fz) (fun w hM => ?_)
  rw [Tr.rt.2 hR]
  ((with_reducible (refine mop_c trivial ?_; refine mif_false ?_)))
  refine mm_own (wnew_ok hM) ?_
  rintro v w2 ⟨gw, rfl, hM⟩
  ((with_reducible (refine mop_c trivial ?_; refine mm_ld hM ?_; refine mop_c trivial ?_)))
  refine mm_own (wnum_ok (t.ls.length : Int) (by omega) (by simp) hM) ?_
  rintro v w3 ⟨rfl, hM⟩
  rw [List.nil_append] at hM
  have hnb := numB_length (t.ls.length : Int)
  ((with_reducible (refine mop_c trivial ?_; refine mm_ld hM ?_; refine mop_c trivial ?_)))
  refine ⟨fun v w' => ∃ i : Nat, v = .int .i64 i ∧ i ≤ t.ls.length ∧ Mem H w1 [wrR gw (numB t.ls.length ++ (t.ls.take i).flatMap leafB) false, fb g1 25 (tfd A t.ls.length a B t.ps.length b)] w', fun v _ => match v with | .int _ k => t.ls.length - k.toNat | _ => 0, ⟨0, rfl, by omega, by simpa using hM⟩, ?_⟩
  clear hM
  rintro v u w4 ⟨i, rfl, hi, hM⟩
  ((with_reducible (refine mop_cS trivial ?_ ?_)))
  · intro hlt
    have hlt' : i < t.ls.length := by omega
    have hfl := fm_len (l := t.ls.take i) (f := leafB) (k := 105) fun l _ => leafB_len l
    rw [List.length_take] at hfl
    ((with_reducible (refine mif_true ?_)); (with_reducible refine mm_ixs ‹_› ?_ ?_ ?_); (focus (simp only [List.length_map]; omega)); (focus (simp only [List.length_map]; first | done | omega)); (with_reducible (intro _ _ hA)); (cases hA); (with_reducible refine mm_lds0 hM ‹_› (map_atI ?_) ?_); (focus omega); (with_reducible (refine mm_new hM ?_; clear hM; intro _ _ hM; refine mm_st hM ?_; clear hM; intro _ hM; refine mm_ld hM ?_)))
    have hM : Mem H w1 (wrR gw (numB t.ls.length ++ (t.ls.take i).flatMap leafB) false :: _) _ := hM.perm (List.Perm.swap _ _ _)
    refine mm_own (leafBytes_ok t.ls[i] (gn _ (List.getElem_mem hlt')) (by rw [List.length_append]; omega) hM) ?_
    rintro v w5 ⟨rfl, hM⟩
    rw [List.append_assoc, ← fm_take hlt'] at hM
    ((with_reducible (refine mop_c ?_ ?_)); (focus omega))
    exact ⟨⟨i + 1, rfl, by omega, hM.sub⟩, by simp only; omega⟩
  intro hge
  obtain rfl : i = t.ls.length := by omega
  rw [List.take_length] at hM
  have hfl := fm_len (l := t.ls) (f := leafB) (k := 105) fun l _ => leafB_len l
  ((with_reducible (refine mif_false ?_; refine mop_c trivial ?_; refine mm_ld hM ?_; refine mop_c trivial ?_)))
  refine ⟨fun v w' => ∃ i : Nat, v = .int .i64 i ∧ i ≤ t.ps.length ∧ Mem H w1 [wrR gw (numB t.ls.length ++ t.ls.flatMap leafB ++ (t.ps.take i).flatMap parentB) false, fb g1 25 (tfd A t.ls.length a B t.ps.length b)] w', fun v _ => match v with | .int _ k => t.ps.length - k.toNat | _ => 0, ⟨0, rfl, by omega, by simpa using hM⟩, ?_⟩
  clear hM
  rintro v u w6 ⟨i, rfl, hi, hM⟩
  ((with_reducible (refine mop_cS trivial ?_ ?_)))
  · intro hlt
    have hlt' : i < t.ps.length := by omega
    obtain ⟨q', hq1, C, c, rfl, hC, hcl⟩ := h3.at_ (i := i) hlt'
    have hlo := gl _ (List.getElem_mem hlt')
    have hfp := fm_len (l := t.ps.take i) (f := parentB) (k := 600) fun p hp => parentB_len (gl p (List.mem_of_mem_take hp)).1
    rw [List.length_take] at hfp
    have hql : q.length = t.ps.length := h3.len
    ((with_reducible (refine mif_true ?_)))
    refine mm_ixs h2 (by omega) hql.symm (fun bb oo hB => ?_)
    cases hB
    refine mm_lds0 hM h2 hq1 ?_
    ((with_reducible (refine mm_new hM ?_; clear hM; intro _ _ hM; refine mm_st hM ?_; clear hM; intro _ hM; refine mm_ld hM ?_)))
    have hM : Mem H w1 (wrR gw (numB t.ls.length ++ t.ls.flatMap leafB ++ (t.ps.take i).flatMap parentB) false :: _) _ := hM.perm (List.Perm.swap _ _ _)
    refine mm_own (parentBytes_ok t.ps[i] hC hlo (by rw [List.length_append, List.length_append]; omega) hM) ?_
    rintro v w7 ⟨rfl, hM⟩
    rw [List.append_assoc, ← fm_take hlt'] at hM
    ((with_reducible (refine mop_c ?_ ?_)); (focus omega))
    exact ⟨⟨i + 1, rfl, by omega, hM.sub⟩, by simp only; omega⟩
  intro hge2
  obtain rfl : i = t.ps.length := by omega
  rw [List.take_length] at hM
  ((with_reducible (refine mif_false ?_)))
  refine mm_pure hM (wend_ok hM) (fun w hM => ?_)
  ((with_reducible (refine mop_c trivial ?_; refine mop_c trivial ?_)))
  exact ⟨rfl, hM.st⟩
theorem pack_bad (hr : t.right = false) (h : TrF H v t) (hf : Fz H w) : Calls Tryz.prog 15 #[v] w fun en w' => en = .returned (.string (ByteArray.mk #[])) ∧ St w [] w' := by
  obtain ⟨A, a, B, b, q, hv, h1, h2, h3⟩ := h.ex
  rw [hv] at h ⊢
  have hM := Mem.start hf
  refine C_tree_Pack ?_
  unfold F_tree_Pack
  ((with_reducible (refine mm_box hM ?_; clear hM; intro _ _ hM; refine mm_ld hM ?_)))
  refine mm_pure hM (right_c h hM.fz) (fun w hM => ?_)
  rw [hr]
  ((with_reducible (refine mop_c trivial ?_; refine mif_true ?_)))
  exact ⟨rfl, hM.st⟩
theorem rpack_c (hR : t.Rt) (h : TrF H v t) (hf : Fz H w) : Calls Tryz.prog 19 #[v] w fun en w' => en = .returned (.string (strOfNums (packB t))) ∧ St w [] w' := by
  obtain ⟨A, a, B, b, q, hv, h1, h2, h3⟩ := h.ex
  rw [hv] at h ⊢
  have hlen := hR.len
  obtain ⟨gn, gl⟩ := hR.gd2
  have hM := Mem.start hf
  have hnb := numB_length (t.ls.length : Int)
  have hql : q.length = t.ps.length := h3.len
  refine C_bevyref08_Pack ?_
  unfold F_bevyref08_Pack
  ((with_reducible (refine mm_box hM ?_; clear hM; intro _ _ hM; refine mop_c trivial ?_; refine mm_ld hM ?_; refine mop_c trivial ?_; refine mm_purC hM ?_ ?_)); (focus (first | exact trivial | assumption | omega)); (with_reducible (clear hM; intro _ hM)))
  refine ⟨fun v u w' => ∃ i : Nat, v = .string (strOfNums (numB t.ls.length ++ (t.ls.take i).flatMap leafB)) ∧ u = .int .i64 i ∧ i ≤ t.ls.length ∧ hM.now w', fun _ v _ => match v with | .int _ k => t.ls.length - k.toNat | _ => 0, ⟨0, by simp, rfl, by omega, hM⟩, ?_⟩
  rintro v u u4 w4 ⟨i, rfl, rfl, hi, hM⟩
  ((with_reducible (refine mop_c trivial ?_; refine mm_ld hM ?_; refine mop_c trivial ?_)))
  ((with_reducible (refine mop_cS trivial ?_ ?_)))
  · intro hlt
    have hlt' : i < t.ls.length := by omega
    have hfl := fm_len (l := t.ls.take i) (f := leafB) (k := 105) fun l _ => leafB_len l
    have hl1 := leafB_len t.ls[i]
    rw [List.length_take] at hfl
    ((with_reducible (refine mif_true ?_; refine mop_c trivial ?_; refine mm_ld hM ?_)); (with_reducible refine mm_ixs ‹_› ?_ ?_ ?_); (focus (simp only [List.length_map]; omega)); (focus (simp only [List.length_map]; first | done | omega)); (with_reducible (intro _ _ hA)); (cases hA); (with_reducible refine mm_lds0 hM ‹_› (map_atI ?_) ?_); (focus omega))
    refine mm_pure hM (rleaf_ok _ (gn _ (List.getElem_mem hlt')) _) (fun w hM => ?_)
    refine mop_cat _ _ (by rw [List.length_append]; omega) ?_
    rw [List.append_assoc, ← fm_take hlt']
    ((with_reducible (refine mop_c ?_ ?_)); (focus omega))
    exact ⟨⟨i + 1, rfl, rfl, by omega, hM⟩, by simp only; omega⟩
  intro hge
  obtain rfl : i = t.ls.length := by omega
  rw [List.take_length]
  have hfl := fm_len (l := t.ls) (f := leafB) (k := 105) fun l _ => leafB_len l
  ((with_reducible (refine mif_false ?_)))
  refine ⟨fun v u w' => ∃ i : Nat, v = .string (strOfNums (numB t.ls.length ++ t.ls.flatMap leafB ++ (t.ps.take i).flatMap parentB)) ∧ u = .int .i64 i ∧ i ≤ t.ps.length ∧ hM.now w', fun _ v _ => match v with | .int _ k => t.ps.length - k.toNat | _ => 0, ⟨0, by simp, rfl, by omega, hM⟩, ?_⟩
  rintro v u u6 w6 ⟨i, rfl, rfl, hi, hM⟩
  ((with_reducible (refine mop_c trivial ?_; refine mm_ld hM ?_; refine mop_c trivial ?_)))
  ((with_reducible (refine mop_cS trivial ?_ ?_)))
  · intro hlt
    have hlt' : i < t.ps.length := by omega
    obtain ⟨q', hq1, C, c, rfl, hC, hcl⟩ := h3.at_ (i := i) hlt'
    have hlo := gl _ (List.getElem_mem hlt')
    have hfp := fm_len (l := t.ps.take i) (f := parentB) (k := 600) fun p hp => parentB_len (gl p (List.mem_of_mem_take hp)).1
    have hp1 := parentB_len hlo.1
    rw [List.length_take] at hfp
    ((with_reducible (refine mif_true ?_; refine mop_c trivial ?_; refine mm_ld hM ?_)))
    refine mm_ixs h2 (by omega) hql.symm (fun bb oo hB => ?_)
    cases hB
    refine mm_lds0 hM h2 hq1 ?_
    skip
    refine mm_pure hM (rparent_ok t.ps[i] hC hlo hM.fz) (fun w hM => ?_)
    refine mop_cat _ _ (by rw [List.length_append, List.length_append]; omega) ?_
    rw [List.append_assoc (numB (t.ls.length : Int) ++ t.ls.flatMap leafB), ← fm_take hlt']
    ((with_reducible (refine mop_c ?_ ?_)); (focus omega))
    exact ⟨⟨i + 1, rfl, rfl, by omega, hM⟩, by simp only; omega⟩
  intro hge2
  obtain rfl : i = t.ps.length := by omega
  rw [List.take_length]
  ((with_reducible (refine mif_false ?_)))
  exact ⟨rfl, hM.st⟩
end
end Go.Proofs.YtopcnkejobomaaaGreat
namespace Go.Proofs.YtopcnkejobomaaaGreat
open Go.RowKit Go.Lib
section
variable {H : Hp} {w0 w : World} {L R : List Res} {A B : Option Addr} {a b n : Nat} {t : Tr} {qs : List (List Fd)}
theorem rresolve_ok (hR : t.Rt) (h1 : Sl H 97 A (t.ls.map Lf.fds)) (h2 : Sl H 66 B qs) (h3 : All2 (PnF H) qs t.ps) : ∀ (f : Nat) (x : Int), level x ≤ f → f ≤ 8 → thr t.size x → ∀ (H : Hp), Sl H 97 A (t.ls.map Lf.fds) → Sl H 66 B qs → All2 (PnF H) qs t.ps → ∀ w, Fz H w →
    Calls Tryz.prog 20 #[tv A t.ls.length a B t.ps.length b, .int .i64 x] w (Outp H w fun H' r => ∃ K kc, r = .slice K (resL f t x).length kc ∧ Sl H' 1 K (ints8 (resL f t x))) := by
  have hlen := hR.len
  have hts : t.size = t.ls.length := rfl
  have hq : qs.length = t.ps.length := h3.len
  have hnm := hR.gd2.1
  clear h1 h2 h3
  have hleaf : ∀ (f : Nat) (x : Int), x % 2 = 0 → thr t.size x → ∀ (H : Hp), Sl H 97 A (t.ls.map Lf.fds) → ∀ w, Fz H w → Calls Tryz.prog 20 #[tv A t.ls.length a B t.ps.length b, .int .i64 x] w (Outp H w fun H' r => ∃ K kc, r = .slice K (resL f t x).length kc ∧ Sl H' 1 K (ints8 (resL f t x))) := by
    intro f x he ht H h1 w hf
    obtain ⟨w1, hw1⟩ : ∃ w1, w1 = w := ⟨_, rfl⟩
    rw [← hw1]
    rw [← hw1] at hf
    have hM := Mem.start hf
    obtain ⟨k1, k2, k3⟩ := id ht
    have hix : (x / 2).toNat < t.ls.length := by omega
    have hla : leafAt t (x / 2) = t.ls[(x / 2).toNat] := by
      unfold leafAt
      rw [List.getD_eq_getElem?_getD, List.getElem?_eq_getElem hix]
      rfl
    have hn0 := hnm _ (List.getElem_mem hix)
    refine C_bevyref08_Resolve ?_
    unfold F_bevyref08_Resolve
    ((with_reducible (refine mm_box hM ?_; clear hM; intro _ _ hM; refine mop_c trivial ?_; refine mm_ld hM ?_; refine mop_c trivial ?_; refine mop_c ?_ ?_)); (focus omega); (with_reducible (refine mop_cT trivial ?_ ?_)); (focus (first | assumption | omega | with_reducible rfl | exact fun h => Bool.noConfusion h)); (with_reducible (refine mif_true ?_)))
    refine ⟨fun v w' => ∃ K kc, v = .slice K (resL f t x).length kc ∧ Mem H w1 [rowR 3 1 K (resL f t x).length kc (ints8 (resL f t x))] w', ?_, ?_⟩
    · rw [resL_leaf he, hla]
      ((with_reducible (refine mop_c trivial ?_; refine mm_ld hM ?_; refine mop_c ?_ ?_)); (focus omega); (with_reducible refine mm_ixs ‹_› ?_ ?_ ?_); (focus (simp only [List.length_map]; omega)); (focus (simp only [List.length_map]; first | done | omega)); (with_reducible (intro _ _ hA)); (cases hA); (with_reducible (refine mop_c trivial ?_)); (with_reducible refine mm_lds hM ‹_› (map_at ?_) ?_); (focus omega))
      ((with_reducible (refine mop_cS trivial ?_ ?_)))
      · intro c
        rw [if_pos (by omega)]
        have h0 : Mem H w1 (rowR 3 1 none 0 0 (ints8 []) :: _) _ := hM.row0 3 1
        have hM := h0
        ((with_reducible (refine mif_true ?_; refine mm_bsl hM ?_ ?_ ?_)); (focus rfl); (focus (constructor <;> simp)); (with_reducible (clear hM; intro _ _ hM; refine mm_appo hM ?_ ?_)); (focus omega); (with_reducible (clear hM; intro _ _ _ hM)))
        rename_i A7 c7 _
        have hM : Mem H w1 (rowR 3 1 A7 1 c7 (ints8 [x]) :: _) _ := hM
        exact ⟨A7, c7, rfl, (show Mem H w1 [rowR 3 1 A7 1 c7 (ints8 [x])] _ from hM.sub)⟩
      · intro c
        rw [if_neg (by omega)]
        have h0 : Mem H w1 (rowR 3 1 none 0 0 (ints8 []) :: _) _ := hM.row0 3 1
        ((with_reducible (refine mif_false ?_)))
        exact ⟨none, 0, rfl, h0.sub⟩
    clear hM
    rintro v u w3 ⟨K, kc, rfl, hM⟩
    obtain ⟨H4, l4, hM, hs, -⟩ := hM.fz0
    exact hM.out l4 ⟨K, kc, rfl, hs⟩
  intro f
  induction f with
  | zero =>
    intro x hx _ ht H h1 h2 h3 w hf
    have he : x % 2 = 0 := by
      have := level_odd x
      omega
    exact hleaf 0 x he ht H h1 w hf
  | succ f ih =>
    intro x hx hf8 ht H h1 h2 h3 w hf
    by_cases he : x % 2 = 0
    · exact hleaf (f + 1) x he ht H h1 w hf
    have hodd : x % 2 = 1 := by omega
    obtain ⟨k1, k2, k3⟩ := id ht
    obtain ⟨⟨t1, t2⟩, ⟨l1, l2⟩, -⟩ := lr_eq ht hodd
    obtain ⟨w1, hw1⟩ : ∃ w1, w1 = w := ⟨_, rfl⟩
    rw [← hw1]
    rw [← hw1] at hf
    have hM := Mem.start hf
    have hix : (x / 2).toNat < t.ps.length := by omega
    obtain ⟨q, hq1, C, c, rfl, hC, hcl⟩ := h3.at_ (i := (x / 2).toNat) hix
    obtain ⟨p, hpe⟩ : ∃ p, t.ps[(x / 2).toNat] = p := ⟨_, rfl⟩
    have hpa : parAt t (x / 2) = p := by rw [parAt_mem hix, hpe]
    have hpl := (hR.loose p (hpe ▸ List.getElem_mem _)).1
    have hbd := (hR.gd2.2 p (hpe ▸ List.getElem_mem _)).2
    rw [hpe] at hq1 hC
    have hrs : resL (f + 1) t x = if p.set = true then x :: p.loose.map (2 * ·) else resL f t (lf t.size x) ++ resL f t (rt t.size x) := by
      rw [resL, if_neg he, hpa]
    refine C_bevyref08_Resolve ?_
    unfold F_bevyref08_Resolve
    ((with_reducible (refine mm_box hM ?_; clear hM; intro _ _ hM; refine mop_c trivial ?_; refine mm_ld hM ?_; refine mop_c trivial ?_; refine mop_c ?_ ?_)); (focus omega); (with_reducible (refine mop_cF trivial ?_ ?_)); (focus (first | assumption | omega | with_reducible rfl | exact fun h => Bool.noConfusion h)); (with_reducible (refine mif_false ?_; refine mop_c trivial ?_; refine mm_ld hM ?_; refine mop_c ?_ ?_)); (focus omega))
    refine mm_ixs h2 (by omega) hq.symm (fun bb oo hB => ?_)
    cases hB
    refine mm_lds0 hM h2 hq1 ?_
    ((with_reducible (refine mm_new hM ?_; clear hM; intro _ _ hM; refine mm_st hM ?_; clear hM; intro _ hM; refine mop_c trivial ?_; refine mm_ld hM ?_)))
    rename_i g7 _ _
    cases hps : p.set
    · rw [hps, if_neg Bool.false_ne_true] at hrs
      rw [hrs]
      have b1 := resL_len hR f _ t1
      have b2 := resL_len hR f _ t2
      have hp8 : 2 ^ f ≤ 2 ^ 7 := Nat.pow_le_pow_right (by decide) (by omega)
      generalize 2 ^ f = q2 at b1 b2 hp8
      ((with_reducible (refine mif_false ?_; refine dm_ld hM ?_; refine dm_purC hM ?_ (fun _ _ hM => ?_))); (focus (first | exact trivial | assumption | omega)))
      refine dm_call hM (fun w hM => ih (lf t.size x) (by omega) (by omega) t1 H h1 h2 h3 w hM.fz) ?_
      rintro H2 v w4 hx2 le2 hM ⟨K, kc, rfl, hK⟩
      refine df_no hM (fun w hM => mm_apps0 hM hK (by simp) (by omega) ?_)
      clear hM
      intro K2 kc2 w5 hM
      ((with_reducible (refine mm_end hM ?_; clear hM; intro _ hM; refine dm_ld hM ?_; refine dm_purC hM ?_ (fun _ _ hM => ?_))); (focus (first | exact trivial | assumption | omega)))
      refine dm_call hM (fun w hM => ih (rt t.size x) (by omega) (by omega) t2 H2 (h1.mono le2.le) (h2.mono le2.le) (All2.mono (fun _ _ k => PnF.mono k le2.le) h3) w hM.fz) ?_
      rintro H3 v w6 hx3 le3 hM ⟨K3, kc3, rfl, hK3⟩
      refine df_no hM (fun w hM => mm_apps hM hK3 (by simp) (by omega) ?_)
      clear hM
      intro K4 kc4 w7 hM
      ((with_reducible (refine mm_end hM ?_; clear hM; intro _ hM)))
      have hM : Mem H3 w1 [rowR 3 1 K4 ((resL f t (lf t.size x)).length + (resL f t (rt t.size x)).length) kc4 (ints8 (resL f t (lf t.size x)) ++ ints8 (resL f t (rt t.size x)))] _ := hM.sub
      obtain ⟨H4, l4, hM, hs, -⟩ := hM.fz0
      refine hM.out ((le2.trans le3).trans l4) ⟨K4, kc4, by rw [List.length_append], ?_⟩
      rw [show ints8 (resL f t (lf t.size x) ++ resL f t (rt t.size x)) = ints8 (resL f t (lf t.size x)) ++ ints8 (resL f t (rt t.size x)) by simp [ints8]]
      exact hs
    · rw [hps, if_pos rfl] at hrs
      rw [hrs]
      have h0 : Mem H w1 (rowR 3 1 none 0 0 (ints8 []) :: _) _ := hM.row0 3 1
      have hM := h0
      ((with_reducible (refine mif_true ?_; refine mm_bsl hM ?_ ?_ ?_)); (focus rfl); (focus (constructor <;> simp)); (with_reducible (clear hM; intro _ _ hM; refine mm_appo hM ?_ ?_)); (focus omega); (with_reducible (clear hM; intro _ _ _ hM)))
      rename_i A7 c7 _
      have hM : Mem H w1 (rowR 3 1 A7 1 c7 (ints8 [x]) :: _) _ := hM
      refine ⟨fun v u w' => ∃ (i : Nat) (K : Option Addr) (kc : Nat), v = .slice K (i + 1) kc ∧ u = .int .i64 i ∧ i ≤ p.loose.length ∧ Mem H w1 [rowR 3 1 K (i + 1) kc (ints8 (x :: (p.loose.take i).map (2 * ·))), fb g7 61 [.one (.bool p.set), .arr 32 (u8s p.pub.1), .arr 32 (u8s p.abv.1), .one (.slice C p.loose.length c)]] w', fun _ v _ => match v with | .int _ k => p.loose.length - k.toNat | _ => 0, ⟨0, A7, c7, rfl, rfl, by omega, (show Mem H w1 [rowR 3 1 A7 1 c7 (ints8 [x]), fb g7 61 [.one (.bool p.set), .arr 32 (u8s p.pub.1), .arr 32 (u8s p.abv.1), .one (.slice C p.loose.length c)]] _ from hM.sub)⟩, ?_⟩
      clear hM h0
      rintro v u u4 w4 ⟨i, K, kc, rfl, rfl, hi, hM⟩
      ((with_reducible (refine mop_c trivial ?_; refine mm_ld hM ?_; refine mop_c trivial ?_)))
      ((with_reducible (refine mop_cS trivial ?_ ?_)))
      · intro hlt
        have hlt' : i < p.loose.length := by omega
        have hb := hbd _ (List.getElem_mem hlt')
        have e : ints8 (x :: (p.loose.take (i + 1)).map (2 * ·)) = ints8 (x :: (p.loose.take i).map (2 * ·)) ++ [[.one (.int .i64 (2 * p.loose[i]))]] := by
          rw [List.take_succ_eq_append_getElem hlt', ints8, ints8, List.map_append, ← List.cons_append, List.map_append]
          rfl
        ((with_reducible (refine mif_true ?_; refine mop_c trivial ?_; refine mm_ld hM ?_)); (with_reducible refine mm_ixs ‹_› ?_ ?_ ?_); (focus (simp only [List.length_map]; omega)); (focus (simp only [List.length_map]; first | done | omega)); (with_reducible (intro _ _ hA)); (cases hA); (with_reducible refine mm_lds0 hM ‹_› (map_atI ?_) ?_); (focus omega); (with_reducible (refine mop_c ?_ ?_)); (focus omega); (with_reducible (refine mm_bsl hM ?_ ?_ ?_)); (focus rfl); (focus (constructor <;> simp)); (with_reducible (clear hM; intro _ _ hM; refine mm_appo hM ?_ ?_)); (focus omega); (with_reducible (clear hM; intro _ _ _ hM; refine mop_c ?_ ?_)); (focus omega))
        rename_i A8 c8 _
        rw [← e] at hM
        exact ⟨⟨i + 1, A8, c8, rfl, rfl, by omega, hM.sub⟩, by simp only; omega⟩
      · intro hge
        obtain rfl : i = p.loose.length := by omega
        rw [List.take_length] at hM
        ((with_reducible (refine mif_false ?_)))
        obtain ⟨H4, l4, hM, hs, -⟩ := hM.fz0
        exact hM.out l4 ⟨K, kc, by simp, hs⟩
end
end Go.Proofs.YtopcnkejobomaaaGreat
namespace Go.Proofs.YtopcnkejobomaaaGreat
open Go.RowKit Go.Lib
section
variable {H : Hp} {w0 w : World} {L R : List Res} {v : Value} {t : Tr}
local instance (b : Bool) : StepC Tryz.prog (o_bin .neq 4 false (.bool b) (.bool b)) True (.bool false) := ⟨fun _ w => by cases b <;> kernel_rfl⟩
theorem treeAsks_ok (x y : Int) (h : TrF H v t) (hf : Fz H w) : Calls Tryz.prog 3 #[v, .int .i64 x, .int .i64 y] w fun en w' => en = .returned (.bool true) ∧ St w [] w' := by
  obtain ⟨A, a, B, b, q, rfl, h1, h2, h3⟩ := h.ex
  obtain ⟨w1, hw1⟩ : ∃ w1, w1 = w := ⟨_, rfl⟩
  rw [← hw1]
  rw [← hw1] at hf
  have hM := Mem.start hf
  refine C_bevylaw08_TreeAsks ?_
  unfold F_bevylaw08_TreeAsks
  ((with_reducible (refine mm_box hM ?_; clear hM; intro _ _ hM)))
  rename_i g1 _
  refine ⟨fun v w' => v = .bool (decide (¬ t.few)) ∧ hM.now w', ?_, ?_⟩
  · refine mm_pure hM (tawake_ok _) (fun w hM => ?_)
    ((with_reducible (refine mop_c trivial ?_; refine mguard_yes ?_; refine mm_ld hM ?_; refine mguard_yes ?_)))
    refine mm_pure hM (few_c h hM.fz) (fun w hM => ?_)
    by_cases hc : t.few
    · rw [decide_eq_true hc]
      ((with_reducible (refine mguard_yes ?_; refine mop_c trivial ?_; refine mop_c trivial ?_)))
      exact ⟨by simp [hc], hM⟩
    · rw [decide_eq_false hc]
      ((with_reducible (refine mguard_yes ?_; refine mop_c trivial ?_; refine mop_c trivial ?_)))
      exact ⟨by simp [hc], hM⟩
  rintro v u w2 ⟨rfl, hM⟩
  by_cases hc : ¬ t.few
  · rw [decide_eq_true hc]
    ((with_reducible (refine mif_true ?_; refine mm_purC hM ?_ ?_)); (focus (first | exact trivial | assumption | omega)); (with_reducible (clear hM; intro _ hM)))
    exact ⟨rfl, hM.st⟩
  rw [decide_eq_false hc]
  ((with_reducible (refine mif_false ?_; refine mm_ld hM ?_)))
  refine mm_pure hM (tright_c h hM.fz) (fun w hM => ?_)
  ((with_reducible (refine mm_ld hM ?_)))
  refine mm_pure hM (right_c h hM.fz) (fun w hM => ?_)
  cases hr : t.right
  · ((with_reducible (refine mop_c trivial ?_; refine mif_false ?_; refine mop_c trivial ?_; refine mif_true ?_; refine mm_ld hM ?_)))
    refine mm_pure hM (place_bad x hr h hM.fz) (fun w hM => ?_)
    ((with_reducible (refine mop_cT trivial ?_ ?_)); (focus (first | assumption | omega | with_reducible rfl | exact fun h => Bool.noConfusion h)); (with_reducible (refine mguard_yes ?_; refine mm_ld hM ?_; refine mguard_yes ?_)))
    refine mm_own (Q := fun v w' => (∃ K kc, v = .slice K 0 kc) ∧ hM.now w') ((names_bad hr h hM.fz).mono fun en w' ⟨v, he, K, kc, hv, hs⟩ => ⟨v, he, ⟨K, kc, hv⟩, hM.call0 hs⟩) ?_
    rintro v w3 ⟨⟨K, kc, rfl⟩, hM⟩
    ((with_reducible (refine mguard_yes ?_; refine mop_c trivial ?_; refine mguard_yes ?_; refine mop_cT trivial ?_ ?_)); (focus (first | assumption | omega | with_reducible rfl | exact fun h => Bool.noConfusion h)); (with_reducible (refine mop_c trivial ?_; refine mguard_yes ?_; refine mm_ld hM ?_; refine mguard_yes ?_; refine mop_c trivial ?_; refine mguard_yes ?_)))
    refine mm_own (Q := fun v w' => (∃ K kc, v = .slice K 0 kc) ∧ hM.now w') ((resolve_bad y (fun c => by rw [hr] at c; cases c.1) h hM.fz).mono fun en w' ⟨v, he, K, kc, hv, hs⟩ => ⟨v, he, ⟨K, kc, hv⟩, hM.call0 hs⟩) ?_
    rintro v w4 ⟨⟨K2, kc2, rfl⟩, hM⟩
    ((with_reducible (refine mguard_yes ?_; refine mop_c trivial ?_; refine mguard_yes ?_; refine mop_cT trivial ?_ ?_)); (focus (first | assumption | omega | with_reducible rfl | exact fun h => Bool.noConfusion h)); (with_reducible (refine mop_c trivial ?_; refine mguard_yes ?_; refine mm_ld hM ?_; refine mguard_yes ?_)))
    refine mm_pure hM (hash_bad hr h hM.fz) (fun w hM => ?_)
    ((with_reducible (refine mguard_yes ?_; refine mop_c trivial ?_; refine mguard_yes ?_)))
    refine mm_pure hM (rhash_c (trF_none _) hM.fz none_rt') (fun w hM => ?_)
    ((with_reducible (refine mguard_yes ?_; refine mop_cT trivial ?_ ?_)); (focus (first | assumption | omega | with_reducible rfl | exact fun h => Bool.noConfusion h)); (with_reducible (refine mop_c trivial ?_; refine mguard_yes ?_; refine mm_ld hM ?_; refine mguard_yes ?_; refine mop_c trivial ?_; refine mguard_yes ?_)))
    refine mm_pure hM (hashAtT_ok y h hM.fz) (fun w hM => ?_)
    rw [if_neg (fun c => by rw [hr] at c; cases c.1)]
    ((with_reducible (refine mguard_yes ?_; refine mop_c trivial ?_; refine mguard_yes ?_; refine mop_cT trivial ?_ ?_)); (focus (first | assumption | omega | with_reducible rfl | exact fun h => Bool.noConfusion h)); (with_reducible (refine mop_c trivial ?_; refine mguard_yes ?_; refine mm_ld hM ?_; refine mguard_yes ?_)))
    refine mm_pure hM (pack_bad hr h hM.fz) (fun w hM => ?_)
    ((with_reducible (refine mguard_yes ?_; refine mop_cT trivial ?_ ?_)); (focus (first | assumption | omega | with_reducible rfl | exact fun h => Bool.noConfusion h)); (with_reducible (refine mop_c trivial ?_)))
    exact ⟨rfl, hM.st⟩
  have hR := Tr.rt.1 hr
  have hnl := rnmL_len t 64
  have hlen := hR.len
  have hts : t.size = t.ls.length := rfl
  ((with_reducible (refine mop_c trivial ?_; refine mif_false ?_; refine mop_c trivial ?_; refine mif_false ?_)))
  refine ⟨fun v w' => v = .bool false ∧ ∃ H3, H.le H3 ∧ Mem H3 w1 [fb g1 25 (tfd A t.ls.length a B t.ps.length b)] w', ?_, ?_⟩
  · ((with_reducible (refine dm_ld hM ?_)))
    refine dm_pure hM (fun w hM => placeT_c x hR h hM.fz) (fun w' hx hM => ?_)
    ((with_reducible refine dm_ld ‹Mem _ _ _ _› ?_))
    refine dm_pure hM (fun w hM => rplaceT_c x h hM.fz) (fun w' hx hM => ?_)
    ((with_reducible (refine dp_cF trivial ?_ ?_)); (focus (first | assumption | omega | with_reducible rfl | exact fun h => Bool.noConfusion h)); (with_reducible (refine qguard_yes ?_; refine dm_ld hM ?_; refine mguard_yes ?_)))
    refine dm_call hM (fun w hM => names_ok hR h hM.fz) ?_
    rintro H2 v w4 hx2 l2 hM ⟨K, kc, rfl, hK⟩
    ((with_reducible (refine qguard_yes ?_)); (with_reducible refine dm_ld ‹Mem _ _ _ _› ?_); (with_reducible (refine mguard_yes ?_)))
    refine dm_call hM (fun w hM => rnames_ok hR (h.mono l2.le) hM.fz) ?_
    rintro H3 v w5 hx3 l3 hM ⟨K2, kc2, rfl, hK2⟩
    ((with_reducible (refine mguard_yes ?_)))
    refine dm_own (Q := fun v w' => v = .bool true ∧ hM.now w') hM (fun w hM => (rsame_ok _ _ (by simp only [maxLen]; omega) (hK.mono l3.le) hK2 hM).mono fun en w' ⟨e, hm⟩ => ⟨_, e, by rw [decide_eq_true rfl], hm⟩) ?_
    rintro v w6 ⟨rfl, hM⟩
    have h := h.mono (l2.le.trans l3.le)
    ((with_reducible (refine qguard_yes ?_; refine dp_c trivial ?_; refine dp_c trivial ?_; refine qguard_yes ?_; refine dm_ld hM ?_; refine mguard_yes ?_)))
    refine dm_pure hM (fun w hM => hash_c h hM.fz hR) (fun w' hx hM => ?_)
    ((with_reducible (refine qguard_yes ?_)); (with_reducible refine dm_ld ‹Mem _ _ _ _› ?_); (with_reducible (refine mguard_yes ?_)))
    refine dm_pure hM (fun w hM => rhash_c h hM.fz hR) (fun w' hx hM => ?_)
    ((with_reducible (refine qguard_yes ?_)))
    refine dp_cF (p := hRoot t ≠ hRoot t) trivial (fun c => c rfl) ?_
    ((with_reducible (refine dp_c trivial ?_; refine qguard_yes ?_; refine dm_ld hM ?_; refine mguard_yes ?_)))
    refine dm_pure hM (fun w hM => pack_c hR h hM.fz) (fun w' hx hM => ?_)
    ((with_reducible (refine qguard_yes ?_)); (with_reducible refine dm_ld ‹Mem _ _ _ _› ?_); (with_reducible (refine mguard_yes ?_)))
    refine dm_pure hM (fun w hM => rpack_c hR h hM.fz) (fun w' hx hM => ?_)
    ((with_reducible (refine qguard_yes ?_)))
    refine dp_cF (p := strOfNums (packB t) ≠ strOfNums (packB t)) trivial (fun c => c rfl) ?_
    ((with_reducible (refine dp_c trivial ?_; refine mm_end hM ?_; clear hM; intro _ hM)))
    exact ⟨rfl, H3, l2.le.trans l3.le, hM⟩
  clear hM
  rintro v u w3 ⟨rfl, H5, l5, hM⟩
  replace h := h.mono l5
  replace h1 := h1.mono l5
  replace h2 := h2.mono l5
  replace h3 := All2.mono (fun _ _ k => PnF.mono k l5) h3
  ((with_reducible (refine mif_false ?_)))
  refine ⟨fun v w' => v = .bool (decide (¬ (0 ≤ y ∧ y ≤ 2 * t.size - 2))) ∧ hM.now w', ?_, ?_⟩
  · skip
    ((with_reducible (refine mop_cS trivial ?_ ?_)))
    · intro c
      ((with_reducible ((iterate 7 refine mguard_n1 ?_); refine mop_c trivial ?_)))
      exact ⟨by rw [decide_eq_true (by omega)], hM⟩
    · intro c
      ((with_reducible (refine mguard_yes ?_; refine mop_c trivial ?_; refine mguard_yes ?_; refine mop_c trivial ?_; refine mguard_yes ?_; refine mm_ld hM ?_; refine mguard_yes ?_; refine mop_c trivial ?_; refine mguard_yes ?_; refine mop_c ?_ ?_)); (focus omega); (with_reducible (refine mguard_yes ?_; refine mop_c ?_ ?_)); (focus omega); (with_reducible (refine mguard_yes ?_)))
      refine ⟨congrArg Value.bool (decide_eq_decide.2 (by omega)), hM⟩
  rintro v u w4 ⟨rfl, hM⟩
  by_cases hy : 0 ≤ y ∧ y ≤ 2 * t.size - 2
  · rw [decide_eq_false (fun c => c hy)]
    have ht : thr t.size y := ⟨by omega, hy⟩
    have hre : resT t y = resL 8 t y := if_pos ht
    have hn : t.ls ≠ [] := by
      intro hc
      have := ht.1.1
      rw [hts, hc] at this
      simp at this
    ((with_reducible (refine mif_false ?_; refine dm_ld hM ?_)))
    refine dm_call hM (fun w hM => resolve_ok y (by omega) hR h hM.fz) ?_
    rintro H2 v w4 hx2 l2 hM ⟨K, kc, rfl, hK⟩
    rw [hre] at hK ⊢
    ((with_reducible refine dm_ld ‹Mem _ _ _ _› ?_))
    have hl8 : level y ≤ 8 := (level_rng y).2
    refine dm_call hM (fun w hM => rresolve_ok hR h1 h2 h3 8 y hl8 (by omega) ht H2 (h1.mono l2.le) (h2.mono l2.le) (All2.mono (fun _ _ k => PnF.mono k l2.le) h3) w hM.fz) ?_
    rintro H3 v w5 hx3 l3 hM ⟨K2, kc2, rfl, hK2⟩
    skip
    have hrl := resL_len hR 8 y ht
    refine dm_own (Q := fun v w' => v = .bool true ∧ hM.now w') hM (fun w hM => (rsame_ok _ _ (by simp only [maxLen]; omega) (hK.mono l3.le) hK2 hM).mono fun en w' ⟨e, hm⟩ => ⟨_, e, by rw [decide_eq_true rfl], hm⟩) ?_
    rintro v w6 ⟨rfl, hM⟩
    have l23 := l2.le.trans l3.le
    have h := h.mono l23
    ((with_reducible (refine qguard_yes ?_; refine dm_ld hM ?_; refine qguard_yes ?_; refine dp_c trivial ?_; refine mguard_yes ?_)))
    refine dm_pure hM (fun w hM => hashAtT_ok y h hM.fz) (fun w' hx hM => ?_)
    rw [if_pos ⟨hr, hy⟩]
    ((with_reducible (refine qguard_yes ?_)); (with_reducible refine dm_ld ‹Mem _ _ _ _› ?_); (with_reducible (refine qguard_yes ?_; refine dp_c trivial ?_; refine mguard_yes ?_)))
    refine dm_pure hM (fun w hM => rhashAt_ok (hR.gd hn) (h1.mono l23) (h2.mono l23) (All2.mono (fun _ _ k => PnF.mono k l23) h3) 8 y hl8 ht w hM.fz) (fun w' hx hM => ?_)
    ((with_reducible (refine qguard_yes ?_; refine dp_cT trivial ?_ ?_)); (focus (first | assumption | omega | with_reducible rfl | exact fun h => Bool.noConfusion h)); (with_reducible (refine dp_c trivial ?_; refine mm_end hM ?_; clear hM; intro _ hM)))
    exact ⟨rfl, hM.st⟩
  rw [decide_eq_true hy]
  have hb : ¬ (t.right = true ∧ thr t.size y) := fun c => hy c.2.2
  ((with_reducible (refine mif_true ?_; refine mm_ld hM ?_)))
  refine mm_own (Q := fun v w' => (∃ K kc, v = .slice K 0 kc) ∧ hM.now w') ((resolve_bad y hb h hM.fz).mono fun en w' ⟨v, he, K, kc, hv, hs⟩ => ⟨v, he, ⟨K, kc, hv⟩, hM.call0 hs⟩) ?_
  rintro v w4 ⟨⟨K2, kc2, rfl⟩, hM⟩
  ((with_reducible (refine mop_c trivial ?_; refine mop_cT trivial ?_ ?_)); (focus (first | assumption | omega | with_reducible rfl | exact fun h => Bool.noConfusion h)); (with_reducible (refine mguard_yes ?_; refine mm_ld hM ?_; refine mguard_yes ?_; refine mop_c trivial ?_; refine mguard_yes ?_)))
  refine mm_pure hM (hashAtT_ok y h hM.fz) (fun w hM => ?_)
  rw [if_neg (fun c => hy c.2)]
  ((with_reducible (refine mguard_yes ?_; refine mop_c trivial ?_; refine mguard_yes ?_; refine mop_cT trivial ?_ ?_)); (focus (first | assumption | omega | with_reducible rfl | exact fun h => Bool.noConfusion h)); (with_reducible (refine mop_c trivial ?_)))
  exact ⟨rfl, hM.st⟩
end
end Go.Proofs.YtopcnkejobomaaaGreat
namespace Go.Proofs.YtopcnkejobomaaaGreat
open Go.ChangeShapes Go.WideShapes Go.ChangeAt Go.RowKit
set_option linter.unusedVariables false
theorem fl_arr1 (n : Nat) (l : List Value) : fl [.arr n l] = l := by simp [fl, Fd.cells]
theorem own : ownKnob Tryz.prog.godebug = none := by kernel_rfl
theorem laidOut : laidOutB Tryz.prog = true := by kernel_rfl
set_option maxRecDepth 100000 in
theorem treeAsks_lifted (os : Os) (started : os.Started) (H : Type) (enc : TypeId × Value → H) :
    ReturnsInHanded {} Tryz.checked os 3 .any (Rows.treeAsksSpec.pre6 enc Tryz.prog Tryz.f3 Rows.treeAsksRow.domain false) (Rows.treeAsksSpec.post enc Tryz.prog Tryz.f3 false true false false) := by
  refine returnsInHanded_of_change (C := Tryz.checked) own started (by kernel_rfl) Tryz.func3
    (ChangeSpec.witness6 (enc := enc) (C := Tryz.checked) false ⟨#[], #[tv none 0 0 none 0 0, .int .i64 0, .int .i64 0], []⟩ 8 (by kernel_rfl) (by kernel_rfl) (by kernel_rfl) (by kernel_rfl)) ?_
  intro W base args ds gs before hval0 hW hcnd _
  have hval : ∀ (j : Nat) t v, Tryz.f3.params[j]? = some t → args[j]? = some v → Value.okWide Tryz.prog W .any base t v := hval0
  have hW' := hW
  obtain ⟨p, q, hA0, hV, rfl, hfz, hnd⟩ := hW
  have hA : DataW.TrodAll enc Tryz.prog W 0 (fun _ => true) true Tryz.f3.params.toList args.toList ds p := hA0
  rw [Tryz.params3] at hA hval
  obtain ⟨v0, vs0, d0, ds0, p0, q0, hargs, rfl, rfl, h0, r0⟩ := trodAll_cons hA
  obtain ⟨v1, vs1, d1, ds1, p1, q1, rfl, rfl, rfl, h1, r1⟩ := trodAll_cons r0
  obtain ⟨v2, vs2, d2, ds2, p2, q2, rfl, rfl, rfl, h2, r2⟩ := trodAll_cons r1
  obtain ⟨rfl, rfl, rfl⟩ := trodAll_nil r2
  obtain rfl : args = #[v0, v1, v2] := by cases args; simp_all
  obtain ⟨rfl, rfl⟩ := trodVars_none hV
  have k0 := h0
  have lt0 : ∀ x ∈ p0, x.block < W.heap.size := by obtain ⟨m, hm⟩ := k0; exact DataW.trod_lt m _ _ _ hm
  have k1 := h1
  have lt1 : ∀ x ∈ p1, x.block < W.heap.size := by obtain ⟨m, hm⟩ := k1; exact DataW.trod_lt m _ _ _ hm
  have k2 := h2
  have lt2 : ∀ x ∈ p2, x.block < W.heap.size := by obtain ⟨m, hm⟩ := k2; exact DataW.trod_lt m _ _ _ hm
  obtain ⟨m0, hm0⟩ := h0
  obtain ⟨fs0, x0, e0, ok0, -, hr0⟩ := (rdr_tr).read enc W 0 _ _ m0 _ _ hm0
  obtain ⟨hx0, hl0⟩ := hr0
  obtain rfl := arg_agg (t := 25) (by kernel_rfl) (hval 0 25 v0 rfl rfl) e0
  obtain ⟨m1, hm1⟩ := h1
  obtain ⟨fs1, x1, e1, ok1, -, hr1⟩ := (rdr_i64).read enc W 0 _ _ m1 _ _ hm1
  obtain ⟨rfl, -⟩ := hr1
  obtain rfl := arg_one (t := 3) (by kernel_rfl) (hval 1 3 v1 rfl rfl) e1
  obtain ⟨m2, hm2⟩ := h2
  obtain ⟨fs2, x2, e2, ok2, -, hr2⟩ := (rdr_i64).read enc W 0 _ _ m2 _ _ hm2
  obtain ⟨rfl, -⟩ := hr2
  obtain rfl := arg_one (t := 3) (by kernel_rfl) (hval 2 3 v2 rfl rfl) e2
  clear hA0 hval0
  have hc := treeAsks_ok x1 x2 ⟨hx0, hl0⟩ (Fz.of W)
  refine hc.mono fun e W' ⟨he, hst⟩ => ?_
  subst he
  have bel : Below W.heap.size W W' := hst.only.below (Nat.le_refl _) (fun _ _ h => by obtain ⟨_, hb, _⟩ := h; cases hb)
  exact ⟨_, rfl, _, _, _, [], _, [], hW', trodAll_mk1 (shut_bool Tryz.underlying4 _), (trodAll_cons_mk (Below.trod laidOut (by kernel_rfl) (of_decide_eq_true (by kernel_rfl)) k0 bel lt0) (trodAll_cons_mk (Below.trod laidOut (by kernel_rfl) (of_decide_eq_true (by kernel_rfl)) k1 bel lt1) (trodAll_cons_mk (Below.trod laidOut (by kernel_rfl) (of_decide_eq_true (by kernel_rfl)) k2 bel lt2) trodAll_mk0))), rfl, bel.frame _, fun h => by cases h⟩
theorem treeAsks_proved : Rows.TreeAsksSaid :=
  OpenClaim.holds_of_wide 3 Tryz.f3 rfl rfl rfl rfl rfl rfl rfl ⟨rfl, rfl, rfl, rfl, rfl⟩ rfl rfl rfl rfl rfl (by kernel_rfl) Tryz.func3 (by kernel_rfl)
    (of_decide_eq_true (by kernel_rfl)) (by unfold Func.isWrapper; first | (rw [if_pos (by decide +kernel)]; kernel_rfl) | (rw [if_neg (by decide +kernel)]; exact ⟨rfl, rfl⟩))
    (fun os started H enc _ => treeAsks_lifted os started H enc)
#print axioms treeAsks_proved
end Go.Proofs.YtopcnkejobomaaaGreat
