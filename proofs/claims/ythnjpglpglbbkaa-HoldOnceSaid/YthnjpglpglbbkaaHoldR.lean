/- Hold: the document's hold, and the law's small functions. -/
import Derived.Test.YthnjpglpglbbkaaHold3
namespace Go.Proofs.Ythnjpglpglbbkaa
open Go.RowKit

theorem Item.eq_iff (x y : Item) : (x.id = y.id ∧ x.wait = y.wait ∧ x.depth = y.depth ∧ x.text = y.text) ↔ x = y := by
  obtain ⟨a, b, c, d⟩ := x
  obtain ⟨e, f, g, h⟩ := y
  simp
section
variable {H : Hp} {w0 w : World} {L R : List Res}
abbrev ISl (H : Hp) (A : Option Addr) (xs : List Item) : Prop := Sl H 66 A (xs.map Item.fds)
abbrev mv (room : Int) (A : Option Addr) (n cap : Nat) : Value := .agg (fl [.one (.int .i64 room), .one (.slice A n cap)]).toArray
theorem rhas_ok (room : Int) (A : Option Addr) (cap : Nat) (xs : List Item) (a : H32) (hb : xs.length < 100000) (hs : ISl H A xs) (hf : Fz H w) :
    Calls Try.prog 45 #[mv room A xs.length cap, ha a] w fun en w' => en = .returned (.bool (xs.any fun y => decide (y.id = a))) ∧ St w [] w' := by
  have hM := Mem.start hf
  refine C_bevyref16_Hold_Has ?_
  unfold F_bevyref16_Hold_Has
  ((with_reducible (refine mm_box hM ?_; clear hM; intro _ _ hM; refine mm_box hM ?_; clear hM; intro _ _ hM)))
  rename_i g2 _ g3 _
  refine ⟨fun x w' => ∃ i : Nat, x = .int .i64 i ∧ i ≤ xs.length ∧ (∀ j (hj : j < xs.length), j < i → ¬ xs[j].id = a) ∧ Mem H w [fb g3 30 [.arr 32 (u8s a.1)], fb g2 77 [.one (.int .i64 room), .one (.slice A xs.length cap)]] w', fun x _ => match x with | .int _ i => xs.length - i.toNat | _ => 0, ⟨0, rfl, by omega, (by intro j hj h; omega), hM⟩, ?_⟩
  rintro x u w ⟨i, rfl, hi, hne, hM⟩
  ((with_reducible (refine mop_c trivial ?_; refine mm_ld hM ?_; refine mop_c trivial ?_)))
  ((with_reducible (refine mop_cS trivial ?_ ?_)))
  · intro hlt
    have hlt' : i < xs.length := by omega
    ((with_reducible (refine mif_true ?_; refine dp_c trivial ?_; refine dm_ld hM ?_)); (with_reducible refine dp_ixs ‹_› ?_ ?_ ?_); (focus (simp only [List.length_map]; omega)); (focus (simp only [List.length_map]; first | done | omega)); (with_reducible (intro _ _ hA)); (cases hA); (with_reducible (refine dp_c trivial ?_)); (with_reducible refine dm_lds hM ‹_› (map_atI ?_) ?_); (focus omega); (with_reducible (refine dm_ld hM ?_)))
    ((with_reducible (refine dp_cS trivial ?_ ?_)))
    · intro he
      ((with_reducible (refine mm_end hM ?_; clear hM; intro _ hM; refine mif_true ?_)))
      refine ⟨?_, hM.st⟩
      rw [List.any_eq_true.2 ⟨xs[i], List.getElem_mem _, by simp [he]⟩]
    · intro he
      ((with_reducible (refine mm_end hM ?_; clear hM; intro _ hM; refine mif_false ?_; refine mop_c ?_ ?_)); (focus omega))
      exact ⟨⟨i + 1, by simp, by omega, fun j hj hji => by
        rcases Nat.lt_or_ge j i with h | h
        · exact hne j hj h
        · have : j = i := by omega
          subst this
          exact he, hM⟩, by simp; omega⟩
  · intro hge
    ((with_reducible (refine mif_false ?_)))
    refine ⟨?_, hM.st⟩
    rw [List.any_eq_false.2 fun x hx => ?_]
    obtain ⟨j, hj, rfl⟩ := List.mem_iff_getElem.1 hx
    simp [hne j hj (by omega)]
theorem rsame_ok (A B : Option Addr) (c d : Nat) (xs ys : List Item) (hb : xs.length < 100000) (hs : ISl H A xs) (hs' : ISl H B ys) (hf : Fz H w) :
    Calls Try.prog 41 #[.slice A xs.length c, .slice B ys.length d] w fun en w' => en = .returned (.bool (decide (xs = ys))) ∧ St w [] w' := by
  have hM := Mem.start hf
  refine C_bevyref16_Same ?_
  unfold F_bevyref16_Same
  ((with_reducible (refine mop_c trivial ?_; refine mop_c trivial ?_)))
  ((with_reducible (refine mop_cS trivial ?_ ?_)))
  · intro hne
    ((with_reducible (refine mif_true ?_)))
    refine ⟨?_, hM.st⟩
    rw [decide_eq_false]
    rintro rfl
    exact hne rfl
  · intro hne
    have hl : xs.length = ys.length := by omega
    ((with_reducible (refine mif_false ?_)))
    refine ⟨fun x w' => ∃ i : Nat, x = .int .i64 i ∧ i ≤ xs.length ∧ xs.take i = ys.take i ∧ Mem H w [] w', fun x _ => match x with | .int _ i => xs.length - i.toNat | _ => 0, ⟨0, rfl, by omega, rfl, hM⟩, ?_⟩
    rintro x u w ⟨i, rfl, hi, he, hM⟩
    ((with_reducible (refine mop_c trivial ?_)))
    ((with_reducible (refine mop_cS trivial ?_ ?_)))
    · intro hlt
      have hlt' : i < xs.length := by omega
      have hlt2 : i < ys.length := by omega
      ((with_reducible (refine mif_true ?_)); (with_reducible refine dp_ixs ‹_› ?_ ?_ ?_); (focus (simp only [List.length_map]; omega)); (focus (simp only [List.length_map]; first | done | omega)); (with_reducible (intro _ _ hA)); (cases hA); (with_reducible refine dm_lds0 hM ‹_› (map_atI ?_) ?_); (focus omega); (with_reducible refine dp_ixs ‹_› ?_ ?_ ?_); (focus (simp only [List.length_map]; omega)); (focus (simp only [List.length_map]; first | done | omega)); (with_reducible (intro _ _ hA)); (cases hA); (with_reducible refine dm_lds0 hM ‹_› (map_atI ?_) ?_); (focus omega))
      ((with_reducible (refine dp_cS trivial ?_ ?_)))
      · intro hn
        rw [Item.eq_iff] at hn
        ((with_reducible (refine mm_end hM ?_; clear hM; intro _ hM; refine mif_true ?_)))
        refine ⟨?_, hM.st⟩
        rw [decide_eq_false]
        rintro rfl
        exact hn rfl
      · intro hn
        rw [Item.eq_iff, Decidable.not_not] at hn
        ((with_reducible (refine mm_end hM ?_; clear hM; intro _ hM; refine mif_false ?_; refine mop_c ?_ ?_)); (focus omega))
        exact ⟨⟨i + 1, by simp, by omega, by rw [List.take_succ_eq_append_getElem hlt', List.take_succ_eq_append_getElem hlt2, he, hn], hM⟩, by simp; omega⟩
    · intro hge
      have : i = xs.length := by omega
      subst this
      ((with_reducible (refine mif_false ?_)))
      refine ⟨?_, hM.st⟩
      rw [decide_eq_true]
      rw [List.take_of_length_le (by omega), List.take_of_length_le (by omega)] at he
      exact he
theorem any_take {α : Type} (f : α → Bool) (xs : List α) (i : Nat) (h : i < xs.length) (hn : (xs.take i).any f = false) : (xs.take (i + 1)).any f = f xs[i] := by
  rw [List.take_succ_eq_append_getElem h, List.any_append, hn]
  simp
theorem any_stop {α : Type} (f : α → Bool) (xs : List α) (i : Nat) (h : i < xs.length) (hf : f xs[i] = true) : xs.any f = true := List.any_eq_true.2 ⟨xs[i], List.getElem_mem _, hf⟩
/-- What the document's methods answer: a hold, and something beside it. -/
def MOut (room : Int) (xs : List Item) (Q : Hp → Value → Prop) : Hp → Value → Prop := fun H v => ∃ A cap n y, v = .tuple #[mv room A n cap, y] ∧ n = xs.length ∧ ISl H A xs ∧ Q H y
theorem rput_ok (room : Int) (A : Option Addr) (cap : Nat) (xs : List Item) (x : Item) (hb : xs.length < 100000) (hs : ISl H A xs) (hf : Fz H w) :
    Calls Try.prog 39 #[mv room A xs.length cap, iv x] w (Outp H w (MOut room (putL room xs x).1 fun _ y => y = .int .i64 (putL room xs x).2)) := by
  have hM := Mem.start hf
  refine C_bevyref16_Hold_Put ?_
  unfold F_bevyref16_Hold_Put
  ((with_reducible (refine mm_box hM ?_; clear hM; intro _ _ hM; refine mm_box hM ?_; clear hM; intro _ _ hM; refine mm_new hM ?_; clear hM; intro _ _ hM)))
  refine ⟨fun y w' => ∃ i : Nat, y = .int .i64 i ∧ i ≤ xs.length ∧ ((xs.take i).any fun y => decide (y.id = x.id) && decide (y.text = x.text)) = false ∧ hM.now w', fun x _ => match x with | .int _ i => xs.length - i.toNat | _ => 0, ⟨0, rfl, by omega, rfl, hM⟩, ?_⟩
  rintro x u w ⟨i, rfl, hi, hne, hM⟩
  ((with_reducible (refine mop_c trivial ?_; refine mm_ld hM ?_; refine mop_c trivial ?_)))
  ((with_reducible (refine mop_cS trivial ?_ ?_)))
  · intro hlt
    have hlt' : i < xs.length := by omega
    ((with_reducible (refine mif_true ?_)))
    refine ⟨fun v w' => v = .bool (decide (xs[i].id = x.id) && decide (xs[i].text = x.text)) ∧ hM.now w', ?_, ?_⟩
    · ((with_reducible (refine dp_c trivial ?_; refine dm_ld hM ?_)); (with_reducible refine dp_ixs ‹_› ?_ ?_ ?_); (focus (simp only [List.length_map]; omega)); (focus (simp only [List.length_map]; first | done | omega)); (with_reducible (intro _ _ hA)); (cases hA); (with_reducible (refine dp_c trivial ?_)); (with_reducible refine dm_lds hM ‹_› (map_atI ?_) ?_); (focus omega); (with_reducible (refine dp_c trivial ?_; refine dm_ld hM ?_)))
      ((with_reducible (refine dp_cS trivial ?_ ?_)))
      all_goals
        intro h1
        (first | ((with_reducible (refine qguard_yes ?_; refine dp_c trivial ?_; refine qguard_yes ?_; refine dm_ld hM ?_; refine qguard_yes ?_; refine dp_c trivial ?_; refine qguard_yes ?_)); (with_reducible refine dp_ixs ‹_› ?_ ?_ ?_); (focus (simp only [List.length_map]; omega)); (focus (simp only [List.length_map]; first | done | omega)); (with_reducible (intro _ _ hA)); (cases hA); (with_reducible (refine qguard_yes ?_; refine dp_c trivial ?_; refine qguard_yes ?_)); (with_reducible refine dm_lds hM ‹_› (map_atI ?_) ?_); (focus omega); (with_reducible (refine qguard_yes ?_; refine dp_c trivial ?_; refine qguard_yes ?_; refine dm_ld hM ?_; refine qguard_yes ?_))) | ((with_reducible ((iterate 9 refine qguard_n2 ?_); refine dp_c trivial ?_; refine mm_end hM (fun _ hM2 => ?_); replace hM := hM2; clear hM2))))
      · ((with_reducible (refine dp_cS trivial ?_ ?_)))
        all_goals
          intro h2
          ((with_reducible (refine dp_c trivial ?_; refine mm_end hM (fun _ hM2 => ?_); replace hM := hM2; clear hM2)))
          exact ⟨by simp [h1, h2], hM⟩
      · exact ⟨by simp [h1], hM⟩
    · rintro v u w ⟨rfl, hM⟩
      cases hfi : decide (xs[i].id = x.id) && decide (xs[i].text = x.text)
      · ((with_reducible (refine mif_false ?_; refine mop_c ?_ ?_)); (focus omega))
        exact ⟨⟨i + 1, by simp, by omega, by rw [any_take _ _ _ hlt' hne]; exact hfi, hM⟩, by simp; omega⟩
      · ((with_reducible (refine mif_true ?_; refine mm_ld hM ?_; refine mm_st hM ?_; clear hM; intro _ hM; refine rm_ld hM ?_)))
        have : (xs.any fun y => decide (y.id = x.id) && decide (y.text = x.text)) = true := any_stop _ _ i hlt' hfi
        rw [show putL room xs x = (xs, 8) by simp [putL, this]]
        exact hM.out (Le.refl _ _) ⟨_, _, _, _, rfl, rfl, hs, rfl⟩
  · intro hge
    have : i = xs.length := by omega
    subst this
    rw [List.take_length] at hne
    ((with_reducible (refine mif_false ?_; refine mop_c trivial ?_; refine mm_ld hM ?_; refine mop_c trivial ?_; refine mop_c trivial ?_; refine mm_ld hM ?_)))
    ((with_reducible (refine mop_cS trivial ?_ ?_)))
    · intro hr
      ((with_reducible (refine mif_true ?_; refine mm_ld hM ?_; refine mm_st hM ?_; clear hM; intro _ hM; refine rm_ld hM ?_)))
      have hr' : room ≤ xs.length := by omega
      rw [show putL room xs x = (xs, 9) by simp [putL, hne, hr']]
      exact hM.out (Le.refl _ _) ⟨_, _, _, _, rfl, rfl, hs, rfl⟩
    · intro hr
      have hr' : ¬ room ≤ xs.length := by omega
      ((with_reducible (refine mif_false ?_; refine mop_c trivial ?_; refine mm_ld hM ?_)))
      refine mm_apps0 hM hs (by simp) (by omega) (fun A' c' w hM => ?_)
      refine ⟨fun k => A' = some ⟨k, 0, none⟩, ?_⟩
      ((with_reducible (refine dp_c trivial ?_; refine dS_ld hM hM.neA ?_; refine dS_ld hM hM.neA ?_; refine dS_bsl hM ?_ ?_ ?_)); (focus rfl); (focus (constructor <;> simp)); (with_reducible (clear hM; intro _ _ hM; refine dS_appo hM ?_ ?_)); (focus omega); (with_reducible (clear hM; intro _ _ _ hM; refine dp_c trivial ?_; refine dS_st hM ?_; clear hM; intro _ hM; refine mm_end hM ?_; clear hM; intro _ hM; refine rm_ld hM ?_)))
      rw [show putL room xs x = (xs ++ [x], 0) by simp [putL, hne, hr']]
      obtain ⟨H', hl, hM, hs2, _⟩ := hM.fz0
      exact hM.out hl ⟨_, _, _, _, rfl, by simp, by simpa [ISl] using hs2, rfl⟩
abbrev irow (A : Option Addr) (c : Nat) (l : List Item) : Res := rowR 34 66 A l.length c (l.map Item.fds)
theorem rtake_ok (room : Int) (A : Option Addr) (cap : Nat) (xs : List Item) (a : H32) (hb : xs.length < 100000) (hs : ISl H A xs) (hf : Fz H w) :
    Calls Try.prog 40 #[mv room A xs.length cap, ha a] w (Outp H w (MOut room (xs.filter fun y => !decide (y.wait = a)) fun H y => ∃ A cap n, y = .slice A n cap ∧ n = (xs.filter fun y => decide (y.wait = a)).length ∧ ISl H A (xs.filter fun y => decide (y.wait = a)))) := by
  have hM := Mem.start hf
  refine C_bevyref16_Hold_Take ?_
  unfold F_bevyref16_Hold_Take
  ((with_reducible (refine mm_box hM ?_; clear hM; intro _ _ hM; refine mm_box hM ?_; clear hM; intro _ _ hM; refine mm_new hM ?_; clear hM; intro _ _ hM; refine mop_c trivial ?_; refine mm_ld hM ?_; refine mop_c trivial ?_; refine mm_new hM ?_; clear hM; intro _ _ hM; refine mm_st hM ?_; clear hM; intro _ hM)))
  rename_i g2 _ g3 _ g4 _ g6 _ _
  refine ⟨fun x y w' => ∃ (i : Nat) (A1 : Option Addr) (c1 : Nat) (A2 : Option Addr) (c2 : Nat), x = .slice A1 ((xs.take i).filter fun y => decide (y.wait = a)).length c1 ∧ y = .int .i64 i ∧ i ≤ xs.length ∧
    Mem H w [irow A1 c1 ((xs.take i).filter fun y => decide (y.wait = a)), irow A2 c2 ((xs.take i).filter fun y => !decide (y.wait = a)), fb g6 77 [.one (.int .i64 room), .one (.slice A2 ((xs.take i).filter fun y => !decide (y.wait = a)).length c2)],
      fb g4 77 [.one (.int .i64 0), .one (.slice none 0 0)], fb g3 30 [.arr 32 (u8s a.1)], fb g2 77 [.one (.int .i64 room), .one (.slice A xs.length cap)]] w',
    fun _ y _ => match y with | .int _ i => xs.length - i.toNat | _ => 0, ⟨0, none, 0, none, 0, rfl, rfl, by omega, ((hM.row0 34 66).row0 34 66)⟩, ?_⟩
  rintro x y u w2 ⟨i, A1, c1, A2, c2, rfl, rfl, hi, hM⟩
  have l1 : ((xs.take i).filter fun y => decide (y.wait = a)).length ≤ i := Nat.le_trans (List.length_filter_le _ _) (by simp; omega)
  have l2 : ((xs.take i).filter fun y => !decide (y.wait = a)).length ≤ i := Nat.le_trans (List.length_filter_le _ _) (by simp; omega)
  ((with_reducible (refine mop_c trivial ?_; refine mm_ld hM ?_; refine mop_c trivial ?_)))
  ((with_reducible (refine mop_cS trivial ?_ ?_)))
  · intro hlt
    have hlt' : i < xs.length := by omega
    ((with_reducible (refine mif_true ?_)))
    refine ⟨fun x w' => ∃ (A1 : Option Addr) (c1 : Nat) (A2 : Option Addr) (c2 : Nat), x = .slice A1 ((xs.take (i + 1)).filter fun y => decide (y.wait = a)).length c1 ∧
      Mem H w [irow A1 c1 ((xs.take (i + 1)).filter fun y => decide (y.wait = a)), irow A2 c2 ((xs.take (i + 1)).filter fun y => !decide (y.wait = a)), fb g6 77 [.one (.int .i64 room), .one (.slice A2 ((xs.take (i + 1)).filter fun y => !decide (y.wait = a)).length c2)],
      fb g4 77 [.one (.int .i64 0), .one (.slice none 0 0)], fb g3 30 [.arr 32 (u8s a.1)], fb g2 77 [.one (.int .i64 room), .one (.slice A xs.length cap)]] w', ?_, ?_⟩
    · rw [filter_take_succ _ xs i hlt', filter_take_succ (fun y => !decide (y.wait = a)) xs i hlt']
      ((with_reducible (refine dp_c trivial ?_; refine dm_ld hM ?_)); (with_reducible refine dp_ixs ‹_› ?_ ?_ ?_); (focus (simp only [List.length_map]; omega)); (focus (simp only [List.length_map]; first | done | omega)); (with_reducible (intro _ _ hA)); (cases hA); (with_reducible (refine dp_c trivial ?_)); (with_reducible refine dm_lds hM ‹_› (map_atI ?_) ?_); (focus omega); (with_reducible (refine dm_ld hM ?_)))
      ((with_reducible (refine dp_cS trivial ?_ ?_))) <;> intro he
      all_goals
        simp only [irow, he, decide_true, decide_false, Bool.not_true, Bool.not_false, if_true, Bool.false_eq_true, if_false, List.append_nil, List.length_append, List.length_cons, List.length_nil, Nat.zero_add, List.map_append, List.map_cons, List.map_nil]
        (first | ((with_reducible (refine mm_end hM ?_; clear hM; intro _ hM; refine mif_false ?_; refine dp_c trivial ?_; refine dm_ld hM ?_; refine dp_c trivial ?_; refine dm_ld hM ?_)); (with_reducible refine dp_ixs ‹_› ?_ ?_ ?_); (focus (simp only [List.length_map]; omega)); (focus (simp only [List.length_map]; first | done | omega)); (with_reducible (intro _ _ hA)); (cases hA); (with_reducible refine dm_lds0 hM ‹_› (map_atI ?_) ?_); (focus omega); (with_reducible (refine dS_bsl hM ?_ ?_ ?_)); (focus rfl); (focus (constructor <;> simp)); (with_reducible (clear hM; intro _ _ hM; refine df_no hM ?_; clear hM; intro _ hM; refine mm_appo hM ?_ ?_)); (focus omega); (with_reducible (clear hM; intro _ _ _ hM; refine dp_c trivial ?_; refine dS_st hM ?_; clear hM; intro _ hM; refine mm_end hM ?_; clear hM; intro _ hM))) | ((with_reducible (refine mm_end hM ?_; clear hM; intro _ hM; refine mif_true ?_; refine mop_c trivial ?_; refine mm_ld hM ?_)); (with_reducible refine mm_ixs ‹_› ?_ ?_ ?_); (focus (simp only [List.length_map]; omega)); (focus (simp only [List.length_map]; first | done | omega)); (with_reducible (intro _ _ hA)); (cases hA); (with_reducible refine mm_lds0 hM ‹_› (map_atI ?_) ?_); (focus omega); (with_reducible (refine mm_bsl hM ?_ ?_ ?_)); (focus rfl); (focus (constructor <;> simp)); (with_reducible (clear hM; intro _ _ hM; refine mm_appo hM ?_ ?_)); (focus omega); (with_reducible (clear hM; intro _ _ _ hM))))
      · exact ⟨_, _, A2, c2, rfl, hM⟩
      · exact ⟨A1, c1, _, _, rfl, hM.up A1⟩
    · rintro x u w3 ⟨A1, c1, A2, c2, rfl, hM⟩
      ((with_reducible (refine mop_c ?_ ?_)); (focus omega))
      exact ⟨⟨i + 1, A1, c1, A2, c2, rfl, by simp, by omega, hM⟩, by simp; omega⟩
  · intro hge
    have : i = xs.length := by omega
    subst this
    rw [List.take_length] at hM
    rw [List.take_length]
    ((with_reducible (refine mif_false ?_; refine mm_ld hM ?_; refine mm_st hM ?_; clear hM; intro _ hM; refine rm_ld hM ?_)))
    obtain ⟨H', hl, hM, hs1, _⟩ := hM.fz0
    obtain ⟨H2, hl2, hM, hs2, _⟩ := hM.fz0
    exact hM.out (hl.trans hl2) ⟨_, _, _, _, rfl, rfl, hs2, _, _, _, rfl, rfl, hs1.mono hl2.le⟩
theorem rdrop_ok (room : Int) (A : Option Addr) (cap : Nat) (xs : List Item) (a : Int) (hb : xs.length < 100000) (hs : ISl H A xs) (hf : Fz H w) :
    Calls Try.prog 42 #[mv room A xs.length cap, .int .i64 a] w (Outp H w (MOut room (xs.filter fun y => !decide (y.depth < a)) fun _ y => y = .int .i64 (xs.filter fun y => decide (y.depth < a)).length)) := by
  have hM := Mem.start hf
  refine C_bevyref16_Hold_Drop ?_
  unfold F_bevyref16_Hold_Drop
  ((with_reducible (refine mm_box hM ?_; clear hM; intro _ _ hM; refine mm_new hM ?_; clear hM; intro _ _ hM; refine mop_c trivial ?_; refine mm_ld hM ?_; refine mop_c trivial ?_; refine mm_new hM ?_; clear hM; intro _ _ hM; refine mm_st hM ?_; clear hM; intro _ hM)))
  rename_i g2 _ g4 _ g6 _ _
  refine ⟨fun x y w' => ∃ (i : Nat) (A2 : Option Addr) (c2 : Nat), x = .int .i64 ((xs.take i).filter fun y => decide (y.depth < a)).length ∧ y = .int .i64 i ∧ i ≤ xs.length ∧
    Mem H w [irow A2 c2 ((xs.take i).filter fun y => !decide (y.depth < a)), fb g6 77 [.one (.int .i64 room), .one (.slice A2 ((xs.take i).filter fun y => !decide (y.depth < a)).length c2)],
      fb g4 77 [.one (.int .i64 0), .one (.slice none 0 0)], fb g2 77 [.one (.int .i64 room), .one (.slice A xs.length cap)]] w',
    fun _ y _ => match y with | .int _ i => xs.length - i.toNat | _ => 0, ⟨0, none, 0, rfl, rfl, by omega, hM.row0 34 66⟩, ?_⟩
  rintro x y u w2 ⟨i, A2, c2, rfl, rfl, hi, hM⟩
  have l1 : ((xs.take i).filter fun y => decide (y.depth < a)).length ≤ i := Nat.le_trans (List.length_filter_le _ _) (by simp; omega)
  have l2 : ((xs.take i).filter fun y => !decide (y.depth < a)).length ≤ i := Nat.le_trans (List.length_filter_le _ _) (by simp; omega)
  ((with_reducible (refine mop_c trivial ?_; refine mm_ld hM ?_; refine mop_c trivial ?_)))
  ((with_reducible (refine mop_cS trivial ?_ ?_)))
  · intro hlt
    have hlt' : i < xs.length := by omega
    ((with_reducible (refine mif_true ?_)))
    refine ⟨fun x w' => ∃ (A2 : Option Addr) (c2 : Nat), x = .int .i64 ((xs.take (i + 1)).filter fun y => decide (y.depth < a)).length ∧
      Mem H w [irow A2 c2 ((xs.take (i + 1)).filter fun y => !decide (y.depth < a)), fb g6 77 [.one (.int .i64 room), .one (.slice A2 ((xs.take (i + 1)).filter fun y => !decide (y.depth < a)).length c2)],
      fb g4 77 [.one (.int .i64 0), .one (.slice none 0 0)], fb g2 77 [.one (.int .i64 room), .one (.slice A xs.length cap)]] w', ?_, ?_⟩
    · rw [filter_take_succ _ xs i hlt', filter_take_succ (fun y => !decide (y.depth < a)) xs i hlt']
      ((with_reducible (refine mop_c trivial ?_; refine mm_ld hM ?_)); (with_reducible refine mm_ixs ‹_› ?_ ?_ ?_); (focus (simp only [List.length_map]; omega)); (focus (simp only [List.length_map]; first | done | omega)); (with_reducible (intro _ _ hA)); (cases hA); (with_reducible (refine mop_c trivial ?_)); (with_reducible refine mm_lds hM ‹_› (map_atI ?_) ?_); (focus omega))
      ((with_reducible (refine mop_cS trivial ?_ ?_))) <;> intro he
      all_goals
        simp only [irow, he, decide_true, decide_false, Bool.not_true, Bool.not_false, if_true, Bool.false_eq_true, if_false, List.append_nil, List.length_append, List.length_cons, List.length_nil, Nat.zero_add, List.map_append, List.map_cons, List.map_nil]
        (first | ((with_reducible (refine mif_false ?_; refine dp_c trivial ?_; refine dm_ld hM ?_; refine dp_c trivial ?_; refine dm_ld hM ?_)); (with_reducible refine dp_ixs ‹_› ?_ ?_ ?_); (focus (simp only [List.length_map]; omega)); (focus (simp only [List.length_map]; first | done | omega)); (with_reducible (intro _ _ hA)); (cases hA); (with_reducible refine dm_lds0 hM ‹_› (map_atI ?_) ?_); (focus omega); (with_reducible (refine dS_bsl hM ?_ ?_ ?_)); (focus rfl); (focus (constructor <;> simp)); (with_reducible (clear hM; intro _ _ hM; refine df_no hM ?_; clear hM; intro _ hM; refine mm_appo hM ?_ ?_)); (focus omega); (with_reducible (clear hM; intro _ _ _ hM; refine dp_c trivial ?_; refine dS_st hM ?_; clear hM; intro _ hM; refine mm_end hM ?_; clear hM; intro _ hM))) | ((with_reducible (refine mif_true ?_; refine mop_c ?_ ?_)); (focus omega)))
      · exact ⟨A2, c2, by simp, hM⟩
      · exact ⟨_, _, by simp, hM⟩
    · rintro x u w3 ⟨A2, c2, rfl, hM⟩
      ((with_reducible (refine mop_c ?_ ?_)); (focus omega))
      exact ⟨⟨i + 1, A2, c2, rfl, by simp, by omega, hM⟩, by simp; omega⟩
  · intro hge
    have : i = xs.length := by omega
    subst this
    rw [List.take_length] at hM
    rw [List.take_length]
    ((with_reducible (refine mif_false ?_; refine mm_ld hM ?_; refine mm_st hM ?_; clear hM; intro _ hM; refine rm_ld hM ?_)))
    obtain ⟨H', hl, hM, hs1, _⟩ := hM.fz0
    exact hM.out hl ⟨_, _, _, _, rfl, rfl, hs1, rfl⟩
theorem plain_ok (A : Option Addr) (cap n : Nat) (xs : List Item) (hn : n = xs.length) (hb : xs.length < 100000) (hs : ISl H A xs) (hf : Fz H w) :
    Calls Try.prog 19 #[.slice A n cap] w (Outp H w fun H y => ∃ A cap n, y = .slice A n cap ∧ n = xs.length ∧ ISl H A xs) := by
  subst hn
  have hM := Mem.start hf
  refine C_bevylaw16_plain ?_
  unfold F_bevylaw16_plain
  refine ⟨fun x y w' => ∃ (i : Nat) (A2 : Option Addr) (c2 : Nat), x = .slice A2 (xs.take i).length c2 ∧ y = .int .i64 i ∧ i ≤ xs.length ∧ Mem H w [irow A2 c2 (xs.take i)] w',
    fun _ y _ => match y with | .int _ i => xs.length - i.toNat | _ => 0, ⟨0, none, 0, rfl, rfl, by omega, hM.row0 34 66⟩, ?_⟩
  rintro x y u w2 ⟨i, A2, c2, rfl, rfl, hi, hM⟩
  have l2 : (xs.take i).length ≤ i := by simp; omega
  ((with_reducible (refine mop_c trivial ?_)))
  ((with_reducible (refine mop_cS trivial ?_ ?_)))
  · intro hlt
    have hlt' : i < xs.length := by omega
    ((with_reducible (refine mif_true ?_)); (with_reducible refine dp_ixs ‹_› ?_ ?_ ?_); (focus (simp only [List.length_map]; omega)); (focus (simp only [List.length_map]; first | done | omega)); (with_reducible (intro _ _ hA)); (cases hA); (with_reducible (refine dp_c trivial ?_)); (with_reducible refine dm_lds hM ‹_› (map_atI ?_) ?_); (focus omega); (with_reducible refine dp_ixs ‹_› ?_ ?_ ?_); (focus (simp only [List.length_map]; omega)); (focus (simp only [List.length_map]; first | done | omega)); (with_reducible (intro _ _ hA)); (cases hA); (with_reducible (refine dp_c trivial ?_)); (with_reducible refine dm_lds hM ‹_› (map_atI ?_) ?_); (focus omega); (with_reducible refine dp_ixs ‹_› ?_ ?_ ?_); (focus (simp only [List.length_map]; omega)); (focus (simp only [List.length_map]; first | done | omega)); (with_reducible (intro _ _ hA)); (cases hA); (with_reducible (refine dp_c trivial ?_)); (with_reducible refine dm_lds hM ‹_› (map_atI ?_) ?_); (focus omega); (with_reducible refine dp_ixs ‹_› ?_ ?_ ?_); (focus (simp only [List.length_map]; omega)); (focus (simp only [List.length_map]; first | done | omega)); (with_reducible (intro _ _ hA)); (cases hA); (with_reducible (refine dp_c trivial ?_)); (with_reducible refine dm_lds hM ‹_› (map_atI ?_) ?_); (focus omega); (with_reducible (refine dp_c trivial ?_; refine dS_bsl hM ?_ ?_ ?_)); (focus rfl); (focus (constructor <;> simp)); (with_reducible (clear hM; intro _ _ hM; refine df_no hM ?_; clear hM; intro _ hM; refine mm_appo hM ?_ ?_)); (focus omega); (with_reducible (clear hM; intro _ _ _ hM; refine mm_end hM ?_; clear hM; intro _ hM; refine mop_c ?_ ?_)); (focus omega))
    refine ⟨⟨i + 1, ?_⟩, by simp; omega⟩
    rw [List.take_succ_eq_append_getElem hlt']
    simp only [irow, List.length_append, List.length_cons, List.length_nil, Nat.zero_add, List.map_append, List.map_cons, List.map_nil]
    exact ⟨_, _, rfl, by simp, by omega, hM⟩
  · intro hge
    have : i = xs.length := by omega
    subst this
    rw [List.take_length] at hM
    rw [List.take_length]
    ((with_reducible (refine mif_false ?_)))
    obtain ⟨H', hl, hM, hs1, _⟩ := hM.fz0
    exact hM.out hl ⟨_, _, _, rfl, rfl, hs1⟩
theorem sclone_ok {A : Option Addr} {n cap : Nat} (xs : List Item) (hn : xs.length = n) (hb : n < 100000) (hs : ISl H A xs) (hf : Fz H w) :
    Calls Try.prog 87 #[.slice A n cap] w (Outp H w fun H' v => ∃ A' cap' n', v = .slice A' n' cap' ∧ n' = xs.length ∧ NewA w A' ∧ ISl H' A' xs) := by
  subst hn
  have hM := Mem.start hf
  refine C_slices_Clone_hold_Item_hold_Item ?_
  unfold F_slices_Clone_hold_Item_hold_Item
  ((with_reducible (refine mop_c trivial ?_)))
  cases hA : A with
  | none =>
    subst hA
    have : xs = [] := by
      rcases hs.at_ with h | ⟨b, o, c, h, _⟩
      · simpa using h
      · cases h
    subst this
    simp only [Option.isNone_none]
    ((with_reducible (refine mif_true ?_)))
    exact hM.out (Le.refl _ _) ⟨none, 0, 0, rfl, rfl, (fun b o h => by cases h), Sl.nil _ _ _⟩
  | some a =>
    subst hA
    simp only [Option.isNone_some]
    refine mif_false ?_
    refine mm_bsl hM rfl (by simp) (fun g w2 hM => ?_)
    refine mm_apps hM hs (by simp) (by omega) (fun A' cap' w3 hM => ?_)
    rw [Nat.zero_add, List.nil_append] at hM
    rw [Nat.zero_add]
    have hn := hM.newA
    obtain ⟨H', hl, hM, hs1, _⟩ := hM.fz0
    exact hM.out hl ⟨_, _, _, rfl, rfl, hn, hs1⟩
theorem all_ok (g : Nat) (room : Int) (xs : List Item) (hb : xs.length < 100000) (hM : Mem H w0 (holdR g room xs :: L) w) :
    Calls Try.prog 46 #[.pointer (some ⟨g, 0, none⟩)] w fun en w' => ∃ v, en = .returned v ∧ Ext w w' ∧ ∃ H' A cap n, v = .slice A n cap ∧ n = xs.length ∧ Le w0 H H' ∧ ISl H' A xs ∧ Mem H' w0 (holdR g room xs :: L) w' := by
  have hM0 := hM
  obtain ⟨A, cap, hM⟩ := hM.hold
  refine C_hold_Hold_All ?_
  unfold F_hold_Hold_All
  ((with_reducible (refine mop_c trivial ?_; refine mif_false ?_; refine mop_c trivial ?_; refine mop_c trivial ?_; refine mm_ld hM ?_)))
  refine mop_to (sclone_ok xs rfl hb (hM.reads (A := A)) (Fz.of w)) ?_
  rintro en w' ⟨v, H2, rfl, hl2, hm, A', cap', n', rfl, rfl, hn, hs⟩
  obtain ⟨H', hl, hM', hsl⟩ := hM0.ro hm
  exact ⟨_, rfl, hm.ext, H', A', cap', _, rfl, rfl, hl, hsl _ _ _ hn hs, hM'⟩
end
end Go.Proofs.Ythnjpglpglbbkaa
