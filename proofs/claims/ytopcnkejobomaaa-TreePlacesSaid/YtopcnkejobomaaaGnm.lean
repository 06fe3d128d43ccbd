/- Names that rise, plainly: two ways to list them. -/
import Derived.Test.YtopcnkejobomaaaGpl
import Derived.Test.YtopcnkejobomaaaSort
import Derived.Test.YtopcnkejobomaaaLays
namespace Go.Proofs.Ytopcnkejobomaaa
open Go.RowKit Go.Lib

theorem sorted_ext : ∀ {a b : List Int}, a.Pairwise (· < ·) → b.Pairwise (· < ·) → (∀ x, x ∈ a ↔ x ∈ b) → a = b
  | [], [], _, _, _ => rfl
  | [], y :: b, _, _, h => by have := (h y).2 (List.mem_cons_self ..); cases this
  | x :: a, [], _, _, h => by have := (h x).1 (List.mem_cons_self ..); cases this
  | x :: a, y :: b, ha, hb, h => by
    obtain ⟨a1, a2⟩ := List.pairwise_cons.1 ha
    obtain ⟨b1, b2⟩ := List.pairwise_cons.1 hb
    have e : x = y := by
      rcases List.mem_cons.1 ((h x).1 (List.mem_cons_self ..)) with e | h1
      · exact e
      rcases List.mem_cons.1 ((h y).2 (List.mem_cons_self ..)) with e | h2
      · exact e.symm
      have := a1 y h2
      have := b1 x h1
      omega
    subst e
    rw [sorted_ext a2 b2 fun z => ⟨fun hz => ?_, fun hz => ?_⟩]
    · rcases List.mem_cons.1 ((h z).1 (List.mem_cons_of_mem _ hz)) with e | h1
      · have := a1 z hz
        omega
      · exact h1
    · rcases List.mem_cons.1 ((h z).2 (List.mem_cons_of_mem _ hz)) with e | h1
      · have := b1 z hz
        omega
      · exact h1
def nmL (ls : List Lf) : List Int := (ls.map (·.name)).filter fun x => decide (0 < x)
def rnmL (t : Tr) (k : Nat) : List Int := ((List.range k).map fun i : Nat => ((i : Int) + 1)).filter fun x => decide (0 ≤ t.place x)
theorem place_some {t : Tr} {x : Int} (h : 0 ≤ t.place x) : 1 ≤ x ∧ ∃ l ∈ t.ls, l.name = x := by
  unfold Tr.place at h
  by_cases h1 : x < 1
  · rw [if_pos h1] at h
    omega
  rw [if_neg h1] at h
  unfold fix at h
  by_cases h2 : t.ls.findIdx (fun l => decide (l.name = x)) < t.ls.length
  · refine ⟨by omega, _, List.getElem_mem h2, ?_⟩
    simpa using List.findIdx_getElem (w := h2)
  · rw [if_neg h2] at h
    omega
theorem sortI_mem {l : List Int} {x : Int} : x ∈ sortI l ↔ x ∈ l := (List.mergeSort_perm l _).mem_iff
theorem sortI_rise {l : List Int} (h : l.Pairwise (· ≠ ·)) : (sortI l).Pairwise (· < ·) := by
  have h1 : (sortI l).Pairwise (· ≤ ·) := by
    have := List.pairwise_mergeSort (le := fun x y : Int => decide (x ≤ y)) (fun a b c => by simp only [decide_eq_true_eq]; omega) (fun a b => by simp only [Bool.or_eq_true, decide_eq_true_eq]; omega) l
    exact this.imp fun h => of_decide_eq_true h
  have h2 : (sortI l).Pairwise (· ≠ ·) := (List.mergeSort_perm l _).symm.pairwise h fun h e => h e.symm
  exact (h1.and h2).imp fun ⟨a, b⟩ => by omega
theorem names_eq {t : Tr} (h : t.Rt) : sortI (nmL t.ls) = rnmL t 64 := by
  obtain ⟨⟨p1, -, p3⟩, -⟩ := h.parts
  refine sorted_ext (sortI_rise ?_) ?_ fun x => ?_
  · unfold nmL
    rw [List.pairwise_filter, List.pairwise_map, List.pairwise_iff_getElem]
    intro i j hi hj hij h1 h2
    exact p3 i j hi hj hij (by simp only [decide_eq_true_eq] at h1; omega)
  · unfold rnmL
    rw [List.pairwise_filter, List.pairwise_map]
    refine List.pairwise_lt_range.imp ?_
    intro a b hab _ _
    omega
  · rw [sortI_mem]
    unfold nmL rnmL
    simp only [List.mem_filter, List.mem_map, List.mem_range, decide_eq_true_eq]
    constructor
    · rintro ⟨⟨l, hl, rfl⟩, h0⟩
      refine ⟨⟨(l.name - 1).toNat, ?_, by omega⟩, Decidable.by_contra fun hn => place_none (by omega) hn l hl rfl⟩
      rcases p1 l hl with rfl | h2
      · exact absurd h0 (by decide)
      · omega
    · rintro ⟨-, hp⟩
      obtain ⟨h1, l, hl, e⟩ := place_some hp
      exact ⟨⟨l, hl, e⟩, by omega⟩
theorem nmL_len (ls : List Lf) : (nmL ls).length ≤ ls.length := by
  have := List.length_filter_le (fun x : Int => decide (0 < x)) (ls.map (·.name))
  rwa [List.length_map] at this
theorem rnmL_len (t : Tr) (k : Nat) : (rnmL t k).length ≤ k := by
  have := List.length_filter_le (fun x : Int => decide (0 ≤ t.place x)) ((List.range k).map fun i : Nat => ((i : Int) + 1))
  simpa [rnmL] using this
theorem nmL_take {ls : List Lf} {i : Nat} (h : i < ls.length) : nmL (ls.take (i + 1)) = nmL (ls.take i) ++ if 0 < ls[i].name then [ls[i].name] else [] := by
  unfold nmL
  rw [List.take_succ_eq_append_getElem h, List.map_append, List.filter_append]
  congr 1
  by_cases c : 0 < ls[i].name <;> simp [c]
theorem rnmL_succ (t : Tr) (k : Nat) : rnmL t (k + 1) = rnmL t k ++ if 0 ≤ t.place ((k : Int) + 1) then [(k : Int) + 1] else [] := by
  unfold rnmL
  rw [List.range_succ, List.map_append, List.filter_append]
  congr 1
  by_cases c : 0 ≤ t.place ((k : Int) + 1) <;> simp [c]
end Go.Proofs.Ytopcnkejobomaaa
/- Names: the program's and the document's. -/
namespace Go.Proofs.Ytopcnkejobomaaa
open Go.RowKit Go.Lib

section
variable {H : Hp} {w0 w : World} {L R : List Res} {A K : Option Addr} {a kc cap : Nat} {t : Tr} {v : Value}
theorem ssort_ok (l : List Int) (hl : l.length ≤ 1000000) (hM : Mem H w0 (rowR 3 1 A l.length cap (ints8 l) :: L) w) :
    Calls Try.prog 77 #[.slice A l.length cap] w fun en w' => ∃ v, en = .returned v ∧ v = .tuple #[] ∧ Mem H w0 (rowR 3 1 A l.length cap (ints8 (sortI l)) :: L) w' := sort_own lays189 l hl hM
theorem ints8_one (l : List Int) (x : Int) : ints8 (l ++ [x]) = ints8 l ++ [[.one (.int .i64 x)]] := by simp [ints8]
theorem names_ok (hR : t.Rt) (h : TrF H v t) (hf : Fz H w) : Calls Try.prog 37 #[v] w (Outp H w fun H' r => ∃ K kc, r = .slice K (rnmL t 64).length kc ∧ Sl H' 1 K (ints8 (rnmL t 64))) := by
  obtain ⟨A, a, B, b, q, rfl, h1, h2, h3⟩ := h.ex
  obtain ⟨w1, hw1⟩ : ∃ w1, w1 = w := ⟨_, rfl⟩
  rw [← hw1]
  rw [← hw1] at hf
  have hlen := hR.len
  have hM := Mem.start hf
  refine C_tree_Names ?_
  unfold F_tree_Names
  ((with_reducible (refine mm_box hM ?_; clear hM; intro _ _ hM; refine mm_ld hM ?_)))
  rename_i g1 _
  refine mm_pure hM (sound_ok h1 h2 h3 h.len.1 h.len.2 hM.fz) (fun w hM => ?_)
  rw [if_pos (Tr.rt.2 hR)]
  ((with_reducible (refine mop_c trivial ?_; refine mop_c trivial ?_)))
  have h0 : Mem H w1 (rowR 3 1 none 0 0 (ints8 []) :: _) _ := hM.row0 3 1
  refine ⟨fun v u w' => ∃ (i : Nat) (K : Option Addr) (kc : Nat), v = .slice K (nmL (t.ls.take i)).length kc ∧ u = .int .i64 i ∧ i ≤ t.ls.length ∧ Mem H w1 [rowR 3 1 K (nmL (t.ls.take i)).length kc (ints8 (nmL (t.ls.take i))), fb g1 27 (tfd A t.ls.length a B t.ps.length b)] w', fun _ u _ => match u with | .int _ k => t.ls.length - k.toNat | _ => 0, ⟨0, none, 0, rfl, rfl, by omega, h0⟩, ?_⟩
  clear hM h0
  rintro v u u2 w3 ⟨i, K, kc, rfl, rfl, hi, hM⟩
  have hnl := nmL_len (t.ls.take i)
  rw [List.length_take] at hnl
  ((with_reducible (refine mop_cS trivial ?_ ?_)))
  · intro hlt
    have hlt' : i < t.ls.length := by omega
    have e := nmL_take hlt'
    ((with_reducible (refine mif_true ?_)))
    refine ⟨fun v w' => ∃ (K : Option Addr) (kc : Nat), v = .slice K (nmL (t.ls.take (i + 1))).length kc ∧ Mem H w1 [rowR 3 1 K (nmL (t.ls.take (i + 1))).length kc (ints8 (nmL (t.ls.take (i + 1)))), fb g1 27 (tfd A t.ls.length a B t.ps.length b)] w', ?_, ?_⟩
    · ((with_reducible refine mm_ixs ‹_› ?_ ?_ ?_); (focus (simp only [List.length_map]; omega)); (focus (simp only [List.length_map]; first | done | omega)); (with_reducible (intro _ _ hA)); (cases hA); (with_reducible refine mm_lds0 hM ‹_› (map_atI ?_) ?_); (focus omega); (with_reducible (refine mm_new hM ?_; clear hM; intro _ _ hM; refine mm_st hM ?_; clear hM; intro _ hM; refine mop_c trivial ?_; refine mm_ld hM ?_)))
      ((with_reducible (refine mop_cS trivial ?_ ?_)))
      · intro c
        rw [if_pos c] at e
        rw [e, List.length_append, List.length_singleton, ints8_one]
        ((with_reducible (refine mif_true ?_; refine mop_c trivial ?_; refine mm_ld hM ?_; refine mm_bsl hM ?_ ?_ ?_)); (focus rfl); (focus (constructor <;> simp)); (with_reducible (clear hM; intro _ _ hM; refine mm_appo hM ?_ ?_)); (focus omega); (with_reducible (clear hM; intro _ _ _ hM)))
        rename_i A2 c2 _
        exact ⟨A2, c2, rfl, hM.sub⟩
      · intro c
        rw [if_neg c, List.append_nil] at e
        rw [e]
        ((with_reducible (refine mif_false ?_)))
        exact ⟨K, kc, rfl, hM.sub⟩
    clear hM
    rintro v u5 w5 ⟨K, kc, rfl, hM⟩
    ((with_reducible (refine mop_c ?_ ?_)); (focus omega))
    exact ⟨⟨i + 1, K, kc, rfl, rfl, by omega, hM⟩, by simp only; omega⟩
  · intro hge
    obtain rfl : i = t.ls.length := by omega
    rw [List.take_length] at hM hnl ⊢
    ((with_reducible (refine mif_false ?_)))
    refine mm_own (ssort_ok (nmL t.ls) (by omega) hM) ?_
    rintro v w6 ⟨rfl, hM⟩
    skip
    have el : (nmL t.ls).length = (rnmL t 64).length := by rw [← names_eq hR, sortI_len]
    rw [names_eq hR, el] at hM
    rw [el]
    obtain ⟨H4, l4, hM, hs, -⟩ := hM.fz0
    exact hM.out l4 ⟨K, kc, rfl, hs⟩
theorem rnames_ok (hR : t.Rt) (h : TrF H v t) (hf : Fz H w) : Calls Try.prog 38 #[v] w (Outp H w fun H' r => ∃ K kc, r = .slice K (rnmL t 64).length kc ∧ Sl H' 1 K (ints8 (rnmL t 64))) := by
  obtain ⟨A, a, B, b, q, rfl, h1, h2, h3⟩ := h.ex
  obtain ⟨w1, hw1⟩ : ∃ w1, w1 = w := ⟨_, rfl⟩
  rw [← hw1]
  rw [← hw1] at hf
  have hlen := hR.len
  have hM := Mem.start hf
  refine C_bevyref08_Names ?_
  unfold F_bevyref08_Names
  ((with_reducible (refine mm_box hM ?_; clear hM; intro _ _ hM)))
  rename_i g1 _
  have h0 : Mem H w1 (rowR 3 1 none 0 0 (ints8 []) :: _) _ := hM.row0 3 1
  refine ⟨fun v u w' => ∃ (i : Nat) (K : Option Addr) (kc : Nat), v = .slice K (rnmL t i).length kc ∧ u = .int .i64 ((i : Int) + 1) ∧ i ≤ 64 ∧ Mem H w1 [rowR 3 1 K (rnmL t i).length kc (ints8 (rnmL t i)), fb g1 27 (tfd A t.ls.length a B t.ps.length b)] w', fun _ u _ => match u with | .int _ k => 65 - k.toNat | _ => 0, ⟨0, none, 0, rfl, rfl, by omega, h0⟩, ?_⟩
  clear hM h0
  rintro v u u2 w3 ⟨i, K, kc, rfl, rfl, hi, hM⟩
  have hnl := rnmL_len t i
  ((with_reducible (refine mop_cS trivial ?_ ?_)))
  · intro hlt
    have e := rnmL_succ t i
    ((with_reducible (refine mif_true ?_)))
    refine ⟨fun v w' => ∃ (K : Option Addr) (kc : Nat), v = .slice K (rnmL t (i + 1)).length kc ∧ Mem H w1 [rowR 3 1 K (rnmL t (i + 1)).length kc (ints8 (rnmL t (i + 1))), fb g1 27 (tfd A t.ls.length a B t.ps.length b)] w', ?_, ?_⟩
    · ((with_reducible (refine mm_ld hM ?_)))
      refine mm_pure hM (rplace_ok ((i : Int) + 1) h1 h.len.1 hM.fz) (fun w hM => ?_)
      ((with_reducible (refine mop_cS trivial ?_ ?_)))
      · intro c
        rw [if_pos c] at e
        rw [e, List.length_append, List.length_singleton, ints8_one]
        ((with_reducible (refine mif_true ?_; refine mm_bsl hM ?_ ?_ ?_)); (focus rfl); (focus (constructor <;> simp)); (with_reducible (clear hM; intro _ _ hM; refine mm_appo hM ?_ ?_)); (focus omega); (with_reducible (clear hM; intro _ _ _ hM)))
        rename_i A2 c2 _
        exact ⟨A2, c2, rfl, hM.sub⟩
      · intro c
        rw [if_neg c, List.append_nil] at e
        rw [e]
        ((with_reducible (refine mif_false ?_)))
        exact ⟨K, kc, rfl, hM.sub⟩
    clear hM
    rintro v u5 w5 ⟨K, kc, rfl, hM⟩
    ((with_reducible (refine mop_c ?_ ?_)); (focus omega))
    exact ⟨⟨i + 1, K, kc, rfl, by push_cast; rfl, by omega, hM⟩, by simp only; omega⟩
  · intro hge
    obtain rfl : i = 64 := by omega
    ((with_reducible (refine mif_false ?_)))
    have hM : Mem H w1 [rowR 3 1 K (rnmL t 64).length kc (ints8 (rnmL t 64))] _ := hM.sub
    obtain ⟨H4, l4, hM, hs, -⟩ := hM.fz0
    exact hM.out l4 ⟨K, kc, rfl, hs⟩
theorem treePlaces_ok (x : Int) (h : TrF H v t) (hf : Fz H w) : Calls Try.prog 8 #[v, .int .i64 x] w fun en w' => en = .returned (.bool true) ∧ St w [] w' := by
  obtain ⟨A, a, B, b, q, rfl, h1, h2, h3⟩ := h.ex
  have hM := Mem.start hf
  refine C_bevylaw08_TreePlaces ?_
  unfold F_bevylaw08_TreePlaces
  ((with_reducible (refine mm_box hM ?_; clear hM; intro _ _ hM)))
  refine ⟨fun v w' => v = .bool (decide (¬ t.few ∨ ¬ t.right = true)) ∧ hM.now w', ?_, ?_⟩
  · ((with_reducible (refine mm_ld hM ?_)))
    refine mm_pure hM (few_c h hM.fz) (fun w hM => ?_)
    by_cases hc : t.few
    · rw [decide_eq_true hc]
      ((with_reducible (refine mop_c trivial ?_; refine mguard_yes ?_; refine mm_ld hM ?_; refine mguard_yes ?_)))
      refine mm_pure hM (tright_c h hM.fz) (fun w hM => ?_)
      cases hr : t.right
      · ((with_reducible (refine mguard_yes ?_; refine mop_c trivial ?_; refine mop_c trivial ?_)))
        exact ⟨by simp, hM⟩
      · ((with_reducible (refine mguard_yes ?_; refine mop_c trivial ?_; refine mop_c trivial ?_)))
        exact ⟨by simp [hc], hM⟩
    · rw [decide_eq_false hc]
      ((with_reducible (refine mop_c trivial ?_; (iterate 3 refine mguard_n1 ?_); refine mop_c trivial ?_)))
      exact ⟨by simp [hc], hM⟩
  rintro v u w2 ⟨rfl, hM⟩
  by_cases hc : ¬ t.few ∨ ¬ t.right = true
  · rw [decide_eq_true hc]
    ((with_reducible (refine mif_true ?_; refine mm_purC hM ?_ ?_)); (focus (first | exact trivial | assumption | omega)); (with_reducible (clear hM; intro _ hM)))
    exact ⟨rfl, hM.st⟩
  rw [decide_eq_false hc]
  have hr : t.right = true := Decidable.byContradiction fun h => hc (.inr h)
  have hR := Tr.rt.1 hr
  have hsd : t.sound = t := if_pos hr
  have hnl := rnmL_len t 64
  ((with_reducible (refine mif_false ?_; refine dm_purC hM ?_ (fun _ _ hM => ?_))); (focus (first | exact trivial | assumption | omega)); (with_reducible (refine qguard_yes ?_; refine dm_ld hM ?_; refine qguard_yes ?_; refine dp_c trivial ?_; refine mguard_yes ?_)))
  refine dm_pure hM (fun w hM => place_ok x h1 h2 h3 h.len.1 h.len.2 hM.fz) (fun w' hx hM => ?_)
  rw [hsd]
  ((with_reducible (refine qguard_yes ?_)); (with_reducible refine dm_ld ‹Mem _ _ _ _› ?_); (with_reducible (refine qguard_yes ?_; refine dp_c trivial ?_; refine mguard_yes ?_)))
  refine dm_pure hM (fun w hM => rplace_ok x h1 h.len.1 hM.fz) (fun w' hx hM => ?_)
  ((with_reducible (refine qguard_yes ?_; refine dp_cT trivial ?_ ?_)); (focus (first | assumption | omega | with_reducible rfl | exact fun h => Bool.noConfusion h)); (with_reducible (refine dp_c trivial ?_; refine qguard_yes ?_; refine dm_ld hM ?_; refine mguard_yes ?_)))
  refine dm_call hM (fun w hM => names_ok hR h hM.fz) ?_
  rintro H2 v w4 hx2 l2 hM ⟨K, kc, rfl, hK⟩
  ((with_reducible (refine qguard_yes ?_)); (with_reducible refine dm_ld ‹Mem _ _ _ _› ?_); (with_reducible (refine mguard_yes ?_)))
  refine dm_call hM (fun w hM => rnames_ok hR (h.mono l2.le) hM.fz) ?_
  rintro H3 v w5 hx3 l3 hM ⟨K2, kc2, rfl, hK2⟩
  ((with_reducible (refine mguard_yes ?_)))
  refine dm_own (Q := fun v w' => v = .bool true ∧ hM.now w') hM (fun w hM => (rsame_ok _ _ (by simp only [maxLen]; omega) (hK.mono l3.le) hK2 hM).mono fun en w' ⟨e, hm⟩ => ⟨_, e, by rw [decide_eq_true rfl], hm⟩) ?_
  rintro v w6 ⟨rfl, hM⟩
  ((with_reducible (refine dp_c trivial ?_; refine mm_end hM ?_; clear hM; intro _ hM)))
  exact ⟨rfl, hM.st⟩
end
end Go.Proofs.Ytopcnkejobomaaa
