/- What is done to a right tree makes a right tree. -/
import Derived.Test.YtopcnkejobomaaaGpt
namespace Go.Proofs.Ytopcnkejobomaaa
open Go.RowKit Go.Lib

/-- Leaves that may stand beside each other: names from a list are not used, nor twice. -/
def lvsOk (s : List Int) (ls : List Lf) : Prop := (∀ l ∈ ls, l = Lf.zero ∨ (1 ≤ l.name ∧ l.name ≤ 64)) ∧ (∀ l ∈ ls, l.name ≠ 0 → l.name ∉ s) ∧ ∀ i j (hi : i < ls.length) (hj : j < ls.length), i < j → ls[i].name ≠ 0 → ls[i].name ≠ ls[j].name
theorem lvsOk_cons {s : List Int} {l : Lf} {r : List Lf} : lvsOk s (l :: r) ↔ (l = Lf.zero ∧ lvsOk s r) ∨ ((1 ≤ l.name ∧ l.name ≤ 64) ∧ l.name ∉ s ∧ lvsOk (l.name :: s) r) := by
  constructor
  · rintro ⟨h1, h2, h3⟩
    have hr1 : ∀ x ∈ r, x = Lf.zero ∨ (1 ≤ x.name ∧ x.name ≤ 64) := fun x hx => h1 x (List.mem_cons_of_mem _ hx)
    have hr3 : ∀ i j (hi : i < r.length) (hj : j < r.length), i < j → r[i].name ≠ 0 → r[i].name ≠ r[j].name := fun i j hi hj hij hn => by
      have := h3 (i + 1) (j + 1) (by simpa using hi) (by simpa using hj) (by omega)
      simpa using this hn
    rcases h1 l (List.mem_cons_self ..) with hz | hz
    · exact .inl ⟨hz, hr1, fun x hx => h2 x (List.mem_cons_of_mem _ hx), hr3⟩
    · refine .inr ⟨hz, h2 l (List.mem_cons_self ..) (by omega), hr1, fun x hx hn hm => ?_, hr3⟩
      rcases List.mem_cons.1 hm with e | hm
      · obtain ⟨j, hj, rfl⟩ := List.getElem_of_mem hx
        have := h3 0 (j + 1) (by simp) (by simpa using hj) (by omega)
        simp only [List.getElem_cons_zero, List.getElem_cons_succ] at this
        exact this (by omega) e.symm
      · exact h2 x (List.mem_cons_of_mem _ hx) hn hm
  · rintro (⟨hz, h1, h2, h3⟩ | ⟨hz, hs, h1, h2, h3⟩)
    · refine ⟨fun x hx => ?_, fun x hx hn => ?_, fun i j hi hj hij hn => ?_⟩
      · rcases List.mem_cons.1 hx with rfl | hx
        · exact .inl hz
        · exact h1 x hx
      · rcases List.mem_cons.1 hx with rfl | hx
        · rw [hz] at hn
          exact absurd rfl hn
        · exact h2 x hx hn
      · cases i with
        | zero =>
          rw [List.getElem_cons_zero, hz] at hn
          exact absurd rfl hn
        | succ i =>
          obtain ⟨j, rfl⟩ : ∃ k, j = k + 1 := ⟨j - 1, by omega⟩
          simp only [List.getElem_cons_succ] at hn ⊢
          exact h3 i j (by simpa using hi) (by simpa using hj) (by omega) hn
    · refine ⟨fun x hx => ?_, fun x hx hn => ?_, fun i j hi hj hij hn => ?_⟩
      · rcases List.mem_cons.1 hx with rfl | hx
        · exact .inr hz
        · exact h1 x hx
      · rcases List.mem_cons.1 hx with rfl | hx
        · exact hs
        · exact fun hm => h2 x hx hn (List.mem_cons_of_mem _ hm)
      · obtain ⟨j, rfl⟩ : ∃ k, j = k + 1 := ⟨j - 1, by omega⟩
        have hj' : j < r.length := by simpa using hj
        cases i with
        | zero =>
          simp only [List.getElem_cons_zero, List.getElem_cons_succ] at hn ⊢
          intro e
          exact h2 r[j] (List.getElem_mem hj') (by omega) (by rw [← e]; exact List.mem_cons_self ..)
        | succ i =>
          simp only [List.getElem_cons_succ] at hn ⊢
          exact h3 i j (by simpa using hi) hj' (by omega) hn
theorem leavesB_iff : ∀ {s : List Int} {ls : List Lf}, leavesB s ls = true ↔ lvsOk s ls
  | s, [] => ⟨fun _ => ⟨fun _ h => (by cases h), fun _ h => (by cases h), fun i j hi => (by cases hi)⟩, fun _ => rfl⟩
  | s, l :: r => by
    rw [lvsOk_cons]
    unfold leavesB
    by_cases hz : l = Lf.zero
    · rw [if_pos hz, leavesB_iff]
      constructor
      · exact fun h => .inl ⟨hz, h⟩
      · rintro (⟨-, h⟩ | ⟨h, -⟩)
        · exact h
        · rw [hz] at h
          simp [Lf.zero] at h
    · rw [if_neg hz, Bool.and_eq_true, decide_eq_true_eq, leavesB_iff]
      constructor
      · exact fun ⟨⟨h1, h2⟩, h3⟩ => .inr ⟨h1, h2, h3⟩
      · rintro (⟨h, -⟩ | ⟨h1, h2, h3⟩)
        · exact absurd h hz
        · exact ⟨⟨h1, h2⟩, h3⟩
theorem looseB_of {n : Int} {ls : List Lf} {x : Int} : ∀ {o : Option Int} {l : List Int}, (∀ p ∈ l, hld n x p ∧ nameAt ls p ≠ 0 ∧ ∀ q ∈ o, q < p) → l.Pairwise (· < ·) → looseB n ls x o l = true
  | _, [], _, _ => rfl
  | o, p :: r, h, hp => by
    obtain ⟨h1, h2⟩ := List.pairwise_cons.1 hp
    simp only [looseB, Bool.and_eq_true, decide_eq_true_eq]
    refine ⟨h p (List.mem_cons_self ..), looseB_of (fun y hy => ?_) h2⟩
    obtain ⟨a, b, -⟩ := h y (List.mem_cons_of_mem _ hy)
    exact ⟨a, b, fun q hq => by cases hq; exact h1 y hy⟩
/-- A right tree by its parts. -/
theorem Tr.Rt.mk' {t : Tr} (h1 : t.ls.length ≤ 64 ∧ t.ps.length = t.ls.length - 1) (h2 : lvsOk [] t.ls) (h3 : ∀ i (hi : i < t.ps.length), (t.ps[i].set = true ∨ t.ps[i].isZero) ∧ (∀ p ∈ t.ps[i].loose, hld t.size (2 * i + 1) p ∧ nameAt t.ls p ≠ 0) ∧ t.ps[i].loose.Pairwise (· < ·)) (h4 : t.ls = [] ∨ 0 < nameAt t.ls (t.size - 1)) : t.Rt :=
  ⟨h1, leavesB_iff.2 h2, parB_of fun i hi => ⟨(h3 i hi).1, looseB_of (fun p hp => by
    have := (h3 i hi).2.1 p hp
    rw [show (1 : Int) + 2 * i = 2 * i + 1 by omega]
    exact ⟨this.1, this.2, fun _ h => by cases h⟩) (h3 i hi).2.2⟩, h4⟩
theorem Tr.Rt.parts {t : Tr} (h : t.Rt) : lvsOk [] t.ls ∧ ∀ i (hi : i < t.ps.length), (t.ps[i].set = true ∨ t.ps[i].isZero) ∧ (∀ p ∈ t.ps[i].loose, hld t.size (2 * i + 1) p ∧ nameAt t.ls p ≠ 0) ∧ t.ps[i].loose.Pairwise (· < ·) :=
  ⟨leavesB_iff.1 h.leaves, fun i hi => by
    obtain ⟨a, b⟩ := parB_spec h.par i hi
    obtain ⟨c, d⟩ := looseB_spec b
    rw [show (1 : Int) + 2 * i = 2 * i + 1 by omega] at c
    exact ⟨a, fun p hp => ⟨(c p hp).1, (c p hp).2.1⟩, d⟩⟩
end Go.Proofs.Ytopcnkejobomaaa
/- What is done to a right tree makes a right tree: each act. -/
namespace Go.Proofs.Ytopcnkejobomaaa
open Go.RowKit Go.Lib

theorem nameAt_eq {ls ls' : List Lf} (hl : ls'.length = ls.length) (hn : ∀ i (h : i < ls'.length), ls'[i].name = (ls[i]'(by omega)).name) (p : Int) : nameAt ls' p = nameAt ls p := by
  unfold nameAt
  by_cases h : p.toNat < ls'.length
  · rw [List.getElem?_eq_getElem h, List.getElem?_eq_getElem (by omega)]
    exact hn _ h
  · rw [List.getElem?_eq_none (l := ls') (by omega), List.getElem?_eq_none (l := ls) (by omega)]
theorem lvsOk_same {ls ls' : List Lf} (h : lvsOk [] ls) (hl : ls'.length = ls.length) (hn : ∀ i (h : i < ls'.length), ls'[i].name = (ls[i]'(by omega)).name) (hz : ∀ l ∈ ls', l = Lf.zero ∨ (1 ≤ l.name ∧ l.name ≤ 64)) : lvsOk [] ls' :=
  ⟨hz, fun _ _ _ h => (by cases h), fun i j hi hj hij hne => by
    rw [hn i hi] at hne ⊢
    rw [hn j hj]
    exact h.2.2 i j (by omega) (by omega) hij hne⟩
/-- Leaves of the same names, parents that are as they were, blank, or new. -/
theorem Tr.Rt.turned {t : Tr} (h : t.Rt) {ls : List Lf} {ps : List Pn} (hl : ls.length = t.ls.length) (hn : ∀ i (h : i < ls.length), ls[i].name = (t.ls[i]'(by omega)).name) (hz : ∀ l ∈ ls, l = Lf.zero ∨ (1 ≤ l.name ∧ l.name ≤ 64))
    (hp : ps.length = t.ps.length) (hq : ∀ i (h : i < ps.length), ps[i] = t.ps[i]'(by omega) ∨ ps[i] = Pn.zero ∨ (ps[i].set = true ∧ ps[i].loose = [])) : Tr.Rt ⟨ls, ps⟩ := by
  obtain ⟨a, b⟩ := h.parts
  have hna := nameAt_eq hl hn
  have hsz : (⟨ls, ps⟩ : Tr).size = t.size := by unfold Tr.size; simp only; omega
  refine Tr.Rt.mk' ⟨by simp only; have := h.len.1; omega, by simp only; have := h.len.2; omega⟩ (lvsOk_same a hl hn hz) (fun i hi => ?_) ?_
  · have hi2 : i < ps.length := hi
    rw [hsz]
    rcases hq i hi2 with e | e | ⟨e1, e2⟩
    · show (ps[i].set = true ∨ ps[i].isZero) ∧ (∀ p ∈ ps[i].loose, hld t.size (2 * i + 1) p ∧ nameAt ls p ≠ 0) ∧ ps[i].loose.Pairwise (· < ·)
      rw [e]
      obtain ⟨c, d, f⟩ := b i (by omega)
      exact ⟨c, fun p hp => ⟨(d p hp).1, by rw [hna]; exact (d p hp).2⟩, f⟩
    · show (ps[i].set = true ∨ ps[i].isZero) ∧ (∀ p ∈ ps[i].loose, hld t.size (2 * i + 1) p ∧ nameAt ls p ≠ 0) ∧ ps[i].loose.Pairwise (· < ·)
      rw [e]
      exact ⟨.inr ⟨rfl, rfl, rfl, rfl⟩, fun _ h => (by cases h), .nil⟩
    · show (ps[i].set = true ∨ ps[i].isZero) ∧ (∀ p ∈ ps[i].loose, hld t.size (2 * i + 1) p ∧ nameAt ls p ≠ 0) ∧ ps[i].loose.Pairwise (· < ·)
      rw [e2]
      exact ⟨.inl e1, fun _ h => (by cases h), .nil⟩
  · rw [hsz]
    show ls = [] ∨ 0 < nameAt ls (t.size - 1)
    rw [hna]
    exact h.last.imp (fun e => List.eq_nil_of_length_eq_zero (by rw [hl, e]; rfl)) id
theorem key_leaves {t : Tr} (h : t.Rt) {p : Int} (hp : ¬ t.nobody p) (pub abv : H32) : ∀ l ∈ t.ls.modify p.toNat (·.key pub abv), l = Lf.zero ∨ (1 ≤ l.name ∧ l.name ≤ 64) := fun l hl => by
  obtain ⟨i, hi, rfl⟩ := List.getElem_of_mem hl
  have hi' : i < t.ls.length := by simpa using hi
  have h0 := leavesB_spec h.leaves _ (List.getElem_mem hi')
  rw [List.getElem_modify]
  split
  · rename_i e
    subst e
    obtain ⟨b0, b1, b2⟩ := Tr.body hp
    have hne : nameAt t.ls p ≠ 0 := fun e => hp (.inr e)
    rw [nameAt_at b0 b1] at hne
    refine .inr ?_
    rcases h0 with h0 | h0
    · rw [h0] at hne
      exact absurd rfl hne
    · exact h0
  · exact h0
theorem key_names {ls : List Lf} {k : Nat} {pub abv : H32} : ∀ i (h : i < (ls.modify k (·.key pub abv)).length), (ls.modify k (·.key pub abv))[i].name = (ls[i]'(by simpa using h)).name := fun i h => by
  rw [List.getElem_modify]
  split <;> rfl
theorem ren_rt {t : Tr} (h : t.Rt) (p : Int) (pub : H32) (h0 : (t.renR p pub).2 = 0) : (t.renR p pub).1.Rt := by
  unfold Tr.renR at h0 ⊢
  by_cases hp : t.nobody p
  · rw [if_pos hp] at h0
    cases h0
  · rw [if_neg hp]
    refine h.turned (List.length_modify ..) key_names (key_leaves h hp _ _) (by unfold blankR; simp) fun i hi => ?_
    have e : (blankR t.size p t.ps)[i]'hi = (if hld t.size (2 * i + 1) p then Pn.zero else t.ps[i]'(by simpa [blankR] using hi)) := List.getElem_mapIdx ..
    rw [e]
    split
    · exact .inr (.inl rfl)
    · exact .inl rfl
theorem path_rt {t : Tr} (h : t.Rt) (p : Int) (pub : H32) (keys : List H32) (h0 : (t.pathR p pub keys).2 = 0) : (t.pathR p pub keys).1.Rt := by
  unfold Tr.pathR at h0 ⊢
  by_cases hp : t.nobody p
  · rw [if_pos hp] at h0
    cases h0
  · rw [if_neg hp] at h0 ⊢
    by_cases hk : (dirL t.size p).length ≠ keys.length
    · rw [if_pos hk] at h0
      cases h0
    · rw [if_neg hk]
      refine h.turned (List.length_modify ..) key_names (key_leaves h hp _ _) pthPs_len fun i hi => ?_
      rcases pthPs_get hi with e | ⟨j, -, -, e⟩
      · exact .inl e
      · refine .inr (.inr ?_)
        rw [e]
        exact ⟨rfl, rfl⟩
theorem hld_other {n n' x p : Int} (h : hld n x p) (ht : thr n' x) (hp : p < n') : hld n' x p := by
  obtain ⟨-, -, ht1⟩ := hld_rng h
  obtain ⟨-, -, -, -, hF, hT, -⟩ := bough_eq ht1
  obtain ⟨-, -, -, -, hF2, hT2, -⟩ := bough_eq ht
  unfold hld at h ⊢
  rw [← hF, ← hT] at h
  rw [← hF2, ← hT2]
  unfold pFrom pTo at *
  rw [if_pos ht1, if_pos ht1] at h
  rw [if_pos ht, if_pos ht]
  omega
theorem keepN_spec (ls : List Lf) : ∀ n : Nat, (∀ j, j < n → nameAt ls j ≠ 0 → j < keepN ls n) ∧ (keepN ls n = 0 ∨ nameAt ls ((keepN ls n : Int) - 1) ≠ 0)
  | 0 => ⟨fun j h => by omega, .inl rfl⟩
  | n + 1 => by
    obtain ⟨a, b⟩ := keepN_spec ls n
    unfold keepN
    by_cases h : nameAt ls n = 0
    · rw [if_pos h]
      refine ⟨fun j hj hn => ?_, b⟩
      rcases Nat.lt_or_ge j n with h1 | h1
      · exact a j h1 hn
      · obtain rfl : j = n := by omega
        exact absurd h hn
    · rw [if_neg h]
      refine ⟨fun j hj _ => hj, .inr ?_⟩
      rw [show (((n + 1 : Nat) : Int) - 1) = (n : Int) by omega]
      exact h
theorem nameAt_set {ls : List Lf} {k : Nat} {l : Lf} {p : Int} (h0 : 0 ≤ p) (hk : k < ls.length) : nameAt (ls.set k l) p = if p = k then l.name else nameAt ls p := by
  unfold nameAt
  by_cases e : p = k
  · rw [if_pos e]
    have : p.toNat = k := by omega
    rw [this, List.getElem?_set_self hk]
  · rw [if_neg e, List.getElem?_set_ne (by omega)]
theorem nameAt_take {ls : List Lf} {k : Nat} {p : Int} (h : p.toNat < k) : nameAt (ls.take k) p = nameAt ls p := by
  unfold nameAt
  rw [List.getElem?_take, if_pos h]
theorem name_nonneg {ls : List Lf} (h : ∀ l ∈ ls, l = Lf.zero ∨ (1 ≤ l.name ∧ l.name ≤ 64)) (p : Int) : 0 ≤ nameAt ls p := by
  unfold nameAt
  by_cases hp : p.toNat < ls.length
  · rw [List.getElem?_eq_getElem hp]
    rcases h _ (List.getElem_mem hp) with e | e
    · simp only
      rw [e]
      exact Int.le_refl 0
    · simp only
      omega
  · rw [List.getElem?_eq_none (by omega)]
    exact Int.le_refl 0
theorem rem_rt {t : Tr} (h : t.Rt) (p : Int) (h0 : (t.remR p).2 = 0) : (t.remR p).1.Rt := by
  unfold Tr.remR at h0 ⊢
  by_cases hp : t.nobody p
  · rw [if_pos hp] at h0
    cases h0
  rw [if_neg hp]
  obtain ⟨b0, b1, b2⟩ := Tr.body hp
  obtain ⟨a, b⟩ := h.parts
  have hlen := h.len
  have hts : t.size = t.ls.length := rfl
  show (cut (t.ls.set p.toNat Lf.zero) (blankR t.size p t.ps)).Rt
  have hz : ∀ l ∈ t.ls.set p.toNat Lf.zero, l = Lf.zero ∨ (1 ≤ l.name ∧ l.name ≤ 64) := fun l hl => by
    rcases List.mem_or_eq_of_mem_set hl with hl | rfl
    · exact a.1 l hl
    · exact .inl rfl
  have hna : ∀ x, 0 ≤ x → nameAt (t.ls.set p.toNat Lf.zero) x = if x = p then 0 else nameAt t.ls x := fun x hx => by
    rw [nameAt_set hx b1, Int.toNat_of_nonneg b0]
    rfl
  have hlv : lvsOk [] (t.ls.set p.toNat Lf.zero) := ⟨hz, fun _ _ _ h => (by cases h), fun i j hi hj hij hne => by
    have hi' : i < t.ls.length := by simpa using hi
    have hj' : j < t.ls.length := by simpa using hj
    simp only [List.getElem_set] at hne ⊢
    by_cases e1 : p.toNat = i
    · rw [if_pos e1] at hne
      exact absurd rfl hne
    · rw [if_neg e1] at hne ⊢
      by_cases e2 : p.toNat = j
      · rw [if_pos e2]
        exact hne
      · rw [if_neg e2]
        exact a.2.2 i j hi' hj' hij hne⟩
  have hll : (t.ls.set p.toNat Lf.zero).length = t.ls.length := List.length_set
  generalize hls : t.ls.set p.toNat Lf.zero = ls at *
  obtain ⟨ks, kl⟩ := keepN_spec ls ls.length
  have kle := keepN_le ls ls.length
  unfold cut
  generalize hn' : keepN ls ls.length = n' at *
  have e1 : (ls.take n').length = n' := by rw [List.length_take]; omega
  have e2 : ((blankR t.size p t.ps).take (n' - 1)).length = n' - 1 := by rw [List.length_take]; unfold blankR; rw [List.length_mapIdx]; omega
  have hsz : (⟨ls.take n', (blankR t.size p t.ps).take (n' - 1)⟩ : Tr).size = n' := by unfold Tr.size; simp only; omega
  refine Tr.Rt.mk' ⟨by simp only; omega, by simp only; omega⟩ ⟨fun l hl => hlv.1 l (List.mem_of_mem_take hl), fun _ _ _ h => (by cases h), fun i j hi hj hij hne => ?_⟩ (fun i hi => ?_) ?_
  · simp only [List.getElem_take] at hne ⊢
    exact hlv.2.2 i j (by simp only [List.length_take] at hi; omega) (by simp only [List.length_take] at hj; omega) hij hne
  · rw [hsz]
    have hi2 : i < n' - 1 := by simp only [e2] at hi; exact hi
    have hi3 : i < t.ps.length := by omega
    have hg : ((blankR t.size p t.ps).take (n' - 1))[i]'hi = (if hld t.size (2 * i + 1) p then Pn.zero else t.ps[i]) := by
      simp only [List.getElem_take]
      unfold blankR
      rw [List.getElem_mapIdx]
    show (((blankR t.size p t.ps).take (n' - 1))[i].set = true ∨ ((blankR t.size p t.ps).take (n' - 1))[i].isZero) ∧ (∀ q ∈ ((blankR t.size p t.ps).take (n' - 1))[i].loose, hld n' (2 * i + 1) q ∧ nameAt (ls.take n') q ≠ 0) ∧ ((blankR t.size p t.ps).take (n' - 1))[i].loose.Pairwise (· < ·)
    rw [hg]
    by_cases hh : hld t.size (2 * i + 1) p
    · rw [if_pos hh]
      exact ⟨.inr ⟨rfl, rfl, rfl, rfl⟩, fun _ h => (by cases h), .nil⟩
    · rw [if_neg hh]
      obtain ⟨c, d, f⟩ := b i hi3
      refine ⟨c, fun q hq => ?_, f⟩
      obtain ⟨d1, d2⟩ := d q hq
      obtain ⟨q0, q1, -⟩ := hld_rng d1
      have hqp : q ≠ p := fun e => hh (e ▸ d1)
      have hqn : nameAt ls q ≠ 0 := by
        rw [hna q q0, if_neg hqp]
        exact d2
      have hqk : q.toNat < n' := ks q.toNat (by omega) (by rw [Int.toNat_of_nonneg q0]; exact hqn)
      refine ⟨hld_other d1 ⟨by omega, by omega, by omega⟩ (by omega), ?_⟩
      rw [nameAt_take hqk]
      exact hqn
  · rw [hsz]
    show ls.take n' = [] ∨ 0 < nameAt (ls.take n') (n' - 1)
    rcases kl with kl | kl
    · refine .inl ?_
      rw [kl]
      rfl
    · by_cases hz0 : n' = 0
      · refine .inl ?_
        rw [hz0]
        rfl
      · refine .inr ?_
        rw [nameAt_take (by omega)]
        have := name_nonneg hz ((n' : Int) - 1)
        omega
end Go.Proofs.Ytopcnkejobomaaa
/- A leaf put into a right tree makes a right tree. -/
namespace Go.Proofs.Ytopcnkejobomaaa
open Go.RowKit Go.Lib

theorem place_none {t : Tr} {x : Int} (h1 : 1 ≤ x) (h : ¬ 0 ≤ t.place x) : ∀ l ∈ t.ls, l.name ≠ x := fun l hl e => by
  unfold Tr.place fix at h
  rw [if_neg (by omega)] at h
  by_cases hf : t.ls.findIdx (fun l => decide (l.name = x)) < t.ls.length
  · rw [if_pos hf] at h
    omega
  · have := List.findIdx_eq_length.1 (show t.ls.findIdx (fun l => decide (l.name = x)) = t.ls.length by have := List.findIdx_le_length (p := fun l : Lf => decide (l.name = x)) (xs := t.ls); omega) l hl
    simp only [decide_eq_false_iff_not] at this
    exact this e
theorem putL_mem {l : List Int} {x y : Int} : y ∈ putL l x ↔ y = x ∨ y ∈ l := by
  induction l with
  | nil => simp [putL_nil]
  | cons z r ih =>
    rw [putL_cons]
    split
    · simp only [List.mem_cons, ih]
      constructor
      · rintro (h | h | h)
        · exact .inr (.inl h)
        · exact .inl h
        · exact .inr (.inr h)
      · rintro (h | h | h)
        · exact .inr (.inl h)
        · exact .inl h
        · exact .inr (.inr h)
    · simp only [List.mem_cons]
theorem putL_sorted {l : List Int} {x : Int} (h : l.Pairwise (· < ·)) (hx : x ∉ l) : (putL l x).Pairwise (· < ·) := by
  induction l with
  | nil => simp [putL_nil]
  | cons z r ih =>
    obtain ⟨h1, h2⟩ := List.pairwise_cons.1 h
    simp only [List.mem_cons, not_or] at hx
    rw [putL_cons]
    by_cases hz : z ≤ x
    · rw [if_pos hz]
      refine List.pairwise_cons.2 ⟨fun y hy => ?_, ih h2 hx.2⟩
      rcases putL_mem.1 hy with rfl | hy
      · omega
      · exact h1 y hy
    · rw [if_neg hz]
      refine List.pairwise_cons.2 ⟨fun y hy => ?_, h⟩
      rcases List.mem_cons.1 hy with rfl | hy
      · omega
      · have := h1 y hy
        omega
theorem gap_blank (t : Tr) : nameAt t.ls t.gap = 0 := by
  unfold nameAt
  rw [Int.toNat_natCast]
  by_cases h : t.gap < t.ls.length
  · rw [List.getElem?_eq_getElem h]
    have := List.findIdx_getElem (p := fun l : Lf => decide (l.name = 0)) (xs := t.ls) (w := h)
    simp only [decide_eq_true_eq] at this
    exact this
  · rw [List.getElem?_eq_none (by omega)]
theorem addL_get {t : Tr} {l : Lf} {i : Nat} (hi : i < (addL t l).length) : (addL t l)[i] = l ∧ i = t.gap ∨ ∃ h : i < t.ls.length, (addL t l)[i] = t.ls[i] ∧ i ≠ t.gap := by
  have hs := gapM_set t l
  have hg := gapM_len t l
  have hgl := t.gap_le
  have e : (addL t l)[i]'hi = ((gapM t l).set t.gap l)[i]'(by rw [hs]; exact hi) := rfl
  rw [e, List.getElem_set]
  by_cases h : t.gap = i
  · rw [if_pos h]
    exact .inl ⟨rfl, h.symm⟩
  · rw [if_neg h]
    have hl : i < t.ls.length := by
      rw [addL_len] at hi
      split at hi <;> omega
    refine .inr ⟨hl, ?_, fun e => h e.symm⟩
    unfold gapM
    split
    · rw [List.getElem_append_left hl]
    · rfl
theorem addL_name {t : Tr} {l : Lf} {x : Int} (h0 : 0 ≤ x) : nameAt (addL t l) x = if x = t.gap then l.name else nameAt t.ls x := by
  have hgl := t.gap_le
  have hll := addL_len t l
  by_cases hx : x.toNat < (addL t l).length
  · rw [nameAt_at h0 hx]
    rcases addL_get hx with ⟨e, e2⟩ | ⟨h, e, e2⟩
    · rw [e, if_pos (by omega)]
    · rw [e, if_neg (by omega), nameAt_at h0 h]
  · have hx2 : ¬ x.toNat < t.ls.length := by split at hll <;> omega
    rw [if_neg (by split at hll <;> omega)]
    unfold nameAt
    rw [List.getElem?_eq_none (l := addL t l) (by omega), List.getElem?_eq_none (l := t.ls) (by omega)]
theorem add_rt {t : Tr} (h : t.Rt) (l : Lf) (h0 : (t.addR l).2.2 = 0) : (t.addR l).1.Rt := by
  unfold Tr.addR at h0 ⊢
  by_cases h1 : l.name < 1 ∨ 64 < l.name
  · rw [if_pos h1] at h0
    cases h0
  rw [if_neg h1] at h0 ⊢
  by_cases h2 : 0 ≤ t.place l.name
  · rw [if_pos h2] at h0
    cases h0
  rw [if_neg h2] at h0 ⊢
  by_cases h3 : t.gap = 64
  · rw [if_pos h3] at h0
    cases h0
  rw [if_neg h3]
  obtain ⟨a, b⟩ := h.parts
  have hlen := h.len
  have hgl := t.gap_le
  have hpn := place_none (by omega) h2
  have hal := addPs_len h l
  have hll := addL_len t l
  have hgb := gap_blank t
  have hts : t.size = t.ls.length := rfl
  show Tr.Rt ⟨addL t l, (addPs t).mapIdx (addF (addL t l).length t.gap)⟩
  have hml : ((addPs t).mapIdx (addF (addL t l).length t.gap)).length = (addPs t).length := by simp
  have hsz : (⟨addL t l, (addPs t).mapIdx (addF (addL t l).length t.gap)⟩ : Tr).size = (addL t l).length := rfl
  have hz : ∀ x ∈ addL t l, x = Lf.zero ∨ (1 ≤ x.name ∧ x.name ≤ 64) := fun x hx => by
    obtain ⟨i, hi, rfl⟩ := List.getElem_of_mem hx
    rcases addL_get hi with ⟨e, -⟩ | ⟨hi2, e, -⟩
    · rw [e]
      exact .inr (by omega)
    · rw [e]
      exact a.1 _ (List.getElem_mem hi2)
  refine Tr.Rt.mk' ⟨by simp only; split at hll <;> omega, by simp only; omega⟩ ⟨hz, fun _ _ _ h => (by cases h), fun i j hi hj hij hne => ?_⟩ (fun i hi => ?_) ?_
  · have hi' : i < (addL t l).length := hi
    have hj' : j < (addL t l).length := hj
    show (addL t l)[i].name ≠ (addL t l)[j].name
    have hne : (addL t l)[i].name ≠ 0 := hne
    rcases addL_get hi' with ⟨e, ei⟩ | ⟨hi2, e, ei⟩
    · rcases addL_get hj' with ⟨f, fj⟩ | ⟨hj2, f, fj⟩
      · omega
      · rw [e, f]
        exact fun k => hpn _ (List.getElem_mem hj2) k.symm
    · rcases addL_get hj' with ⟨f, fj⟩ | ⟨hj2, f, fj⟩
      · rw [e, f]
        exact hpn _ (List.getElem_mem hi2)
      · rw [e] at hne ⊢
        rw [f]
        exact a.2.2 i j hi2 hj2 hij hne
  · rw [hsz]
    have hi2 : i < (addPs t).length := by rw [← hml]; exact hi
    have hg : ((addPs t).mapIdx (addF (addL t l).length t.gap))[i]'hi = addF (addL t l).length t.gap i (addPs t)[i] := List.getElem_mapIdx ..
    show (((addPs t).mapIdx (addF (addL t l).length t.gap))[i].set = true ∨ ((addPs t).mapIdx (addF (addL t l).length t.gap))[i].isZero) ∧ (∀ q ∈ ((addPs t).mapIdx (addF (addL t l).length t.gap))[i].loose, hld (addL t l).length (2 * i + 1) q ∧ nameAt (addL t l) q ≠ 0) ∧ ((addPs t).mapIdx (addF (addL t l).length t.gap))[i].loose.Pairwise (· < ·)
    rw [hg]
    have hn64 : (addL t l).length ≤ 64 := by split at hll <;> omega
    have hthr : thr (addL t l).length (2 * i + 1) := ⟨⟨by omega, by omega⟩, by omega, by omega⟩
    have hp0 : ((addPs t)[i].set = true ∨ (addPs t)[i].isZero) ∧ (∀ q ∈ (addPs t)[i].loose, hld (addL t l).length (2 * i + 1) q ∧ nameAt (addL t l) q ≠ 0 ∧ q ≠ t.gap) ∧ (addPs t)[i].loose.Pairwise (· < ·) := by
      have hcase : (∃ h : i < t.ps.length, (addPs t)[i] = t.ps[i]) ∨ (addPs t)[i] = Pn.zero := by
        unfold addPs at hi2 ⊢
        by_cases hc : t.gap = t.ls.length ∧ 0 < t.gap
        · simp only [if_pos hc] at hi2 ⊢
          by_cases hi3 : i < t.ps.length
          · exact .inl ⟨hi3, List.getElem_append_left hi3⟩
          · refine .inr ?_
            rw [List.getElem_append_right (by omega)]
            simp
        · simp only [if_neg hc] at hi2 ⊢
          exact .inl ⟨hi2, trivial⟩
      rcases hcase with ⟨hi3, e⟩ | e
      · rw [e]
        obtain ⟨c, d, f⟩ := b i hi3
        refine ⟨c, fun q hq => ?_, f⟩
        obtain ⟨d1, d2⟩ := d q hq
        obtain ⟨q0, q1, -⟩ := hld_rng d1
        have hqg : q ≠ t.gap := fun e => by
          rw [e] at d2
          exact d2 hgb
        refine ⟨hld_other d1 hthr (by split at hll <;> omega), ?_, hqg⟩
        rw [addL_name q0, if_neg hqg]
        exact d2
      · rw [e]
        exact ⟨.inr ⟨rfl, rfl, rfl, rfl⟩, fun _ h => (by cases h), .nil⟩
    obtain ⟨c, d, f⟩ := hp0
    unfold addF
    by_cases hc : (addPs t)[i].set = true ∧ hld (addL t l).length (2 * i + 1) t.gap
    · rw [if_pos hc]
      refine ⟨.inl hc.1, fun q hq => ?_, putL_sorted f fun hm => (d _ hm).2.2 rfl⟩
      rcases putL_mem.1 hq with rfl | hq
      · refine ⟨hc.2, ?_⟩
        rw [addL_name (by omega), if_pos rfl]
        omega
      · exact ⟨(d q hq).1, (d q hq).2.1⟩
    · rw [if_neg hc]
      exact ⟨c, fun q hq => ⟨(d q hq).1, (d q hq).2.1⟩, f⟩
  · rw [hsz]
    show addL t l = [] ∨ 0 < nameAt (addL t l) ((addL t l).length - 1)
    refine .inr ?_
    by_cases hg : t.gap = t.ls.length
    · rw [if_pos hg] at hll
      rw [addL_name (by omega), if_pos (by omega)]
      omega
    · rw [if_neg hg] at hll
      have hne : t.ls ≠ [] := fun e => by rw [e] at hgl hg; simp at hgl hg; omega
      have hl := h.last.resolve_left hne
      have hgne : ((addL t l).length : Int) - 1 ≠ t.gap := fun e => by
        rw [hts, show (t.ls.length : Int) - 1 = t.gap by omega, hgb] at hl
        omega
      rw [addL_name (by omega), if_neg hgne, show ((addL t l).length : Int) - 1 = t.size - 1 by rw [hll, hts]]
      exact hl
end Go.Proofs.Ytopcnkejobomaaa
