/- Plea: the plain law of PleaOnce: each plea is asked for anew, or kept, or dropped; no program here. -/
import Derived.Test.YthnjpglpglbbkaaPlea3
namespace Go.Proofs.Ythnjpglpglbbkaa
open Go.RowKit

section
variable (head : H32) (done : List Int) (f : Chg → Int)
abbrev keep (p : Ple) : Prop := p.seq ∈ done ∨ p.epoch = head
abbrev fresh (p : Ple) : Ple := ⟨p.seq, p.chg, head, f p.chg⟩
abbrev gave (p : Ple) : Ple := ⟨p.seq, p.chg, p.epoch, f p.chg⟩
def mvL (p : Ple) : List Ple := if keep head done p then [p] else if f p.chg ≠ 0 then [] else [fresh head f p]
def mvA (p : Ple) : List Ple := if keep head done p then [] else if f p.chg ≠ 0 then [] else [fresh head f p]
def mvD (p : Ple) : List Ple := if keep head done p then [] else if f p.chg ≠ 0 then [gave f p] else []
theorem mvs_eq (op dr : List Ple) : mvs head done f op dr = ⟨op.flatMap (mvL head done f), op.flatMap (mvA head done f), dr ++ op.flatMap (mvD head done f)⟩ := by
  have key : ∀ (l : List Ple) (s : Mvs), l.foldl (mv1 head done f) s = ⟨s.left ++ l.flatMap (mvL head done f), s.anew ++ l.flatMap (mvA head done f), s.drop ++ l.flatMap (mvD head done f)⟩ := by
    intro l
    induction l with
    | nil => intro s; simp
    | cons p l ih =>
      intro s
      rw [List.foldl_cons, ih]
      simp only [List.flatMap_cons, mv1, mvL, mvA, mvD]
      split
      · simp
      · split <;> simp
  simpa [mvs] using key op ⟨[], [], dr⟩
theorem mv_keep {p : Ple} (h : keep head done p) : mvL head done f p = [p] ∧ mvA head done f p = [] ∧ mvD head done f p = [] := by simp only [mvL, mvA, mvD, if_pos h, and_self]
theorem mv_gave {p : Ple} (h : ¬ keep head done p) (k : f p.chg ≠ 0) : mvL head done f p = [] ∧ mvA head done f p = [] ∧ mvD head done f p = [gave f p] := by simp only [mvL, mvA, mvD, if_neg h, if_pos k, and_self]
theorem mv_fresh {p : Ple} (h : ¬ keep head done p) (k : ¬ f p.chg ≠ 0) : mvL head done f p = [fresh head f p] ∧ mvA head done f p = [fresh head f p] ∧ mvD head done f p = [] := by simp only [mvL, mvA, mvD, if_neg h, if_neg k, and_self]
theorem mv_cases (p : Ple) : (keep head done p ∧ mvL head done f p = [p] ∧ mvA head done f p = [] ∧ mvD head done f p = []) ∨ (¬ keep head done p ∧ f p.chg ≠ 0 ∧ mvL head done f p = [] ∧ mvA head done f p = [] ∧ mvD head done f p = [gave f p]) ∨ (¬ keep head done p ∧ mvL head done f p = [fresh head f p] ∧ mvA head done f p = [fresh head f p] ∧ mvD head done f p = []) := by
  by_cases h : keep head done p
  · exact .inl ⟨h, mv_keep _ _ _ h⟩
  · by_cases k : f p.chg ≠ 0
    · exact .inr (.inl ⟨h, k, mv_gave _ _ _ h k⟩)
    · exact .inr (.inr ⟨h, mv_fresh _ _ _ h k⟩)
theorem seq_split (op : List Ple) : ((op.flatMap (mvL head done f) ++ op.flatMap (mvD head done f)).map Ple.seq).Perm (op.map Ple.seq) := by
  induction op with
  | nil => simp
  | cons p l ih =>
    simp only [List.flatMap_cons, List.map_append, List.map_cons] at ih ⊢
    rcases mv_cases head done f p with ⟨_, h1, _, h2⟩ | ⟨_, _, h1, _, h2⟩ | ⟨_, h1, _, h2⟩
    · rw [h1, h2]
      simpa only [List.map_cons, List.map_nil, List.nil_append, List.cons_append] using ih.cons p.seq
    · rw [h1, h2]
      simp only [List.map_nil, List.nil_append, List.map_cons, List.cons_append]
      exact List.perm_middle.trans (.cons _ ih)
    · rw [h1, h2]
      simpa only [List.map_cons, List.map_nil, List.nil_append, List.cons_append] using ih.cons p.seq
theorem mvA_seq (op : List Ple) : ((op.flatMap (mvA head done f)).map Ple.seq).Sublist (op.map Ple.seq) := by
  induction op with
  | nil => simp
  | cons p l ih =>
    simp only [List.flatMap_cons, List.map_append, List.map_cons]
    rcases mv_cases head done f p with ⟨_, _, h1, _⟩ | ⟨_, _, _, h1, _⟩ | ⟨_, _, h1, _⟩
    · rw [h1]
      exact .cons _ ih
    · rw [h1]
      exact .cons _ ih
    · rw [h1]
      exact ih.cons_cons _
/-- Numbers are used once. -/
structure PInv (last : Int) (op dr : List Ple) : Prop where
  le : ∀ p ∈ op ++ dr, p.seq ≤ last
  nd : ((op ++ dr).map Ple.seq).Nodup
theorem PInv.nil : PInv 0 [] [] := ⟨by simp, by simp⟩
theorem PInv.settle {last : Int} {op dr : List Ple} (h : PInv last op dr) (g : Ple → Bool) : PInv last (op.filter g) dr := by
  have hs : ((op.filter g) ++ dr).Sublist (op ++ dr) := List.Sublist.append List.filter_sublist (List.Sublist.refl _)
  exact ⟨fun p hp => h.le p (hs.subset hp), h.nd.sublist (hs.map _)⟩
theorem PInv.add {last : Int} {op dr : List Ple} (h : PInv last op dr) (c : Chg) (e : H32) (y : Int) : PInv (last + 1) (op ++ [⟨last + 1, c, e, y⟩]) dr := by
  refine ⟨fun p hp => ?_, ?_⟩
  · simp only [List.mem_append, List.mem_singleton] at hp
    rcases hp with (hp | rfl) | hp
    · have := h.le p (by simp [hp]); omega
    · exact Int.le_refl _
    · have := h.le p (by simp [hp]); omega
  · have hp : ((op ++ [(⟨last + 1, c, e, y⟩ : Ple)] ++ dr).map Ple.seq).Perm ((last + 1) :: (op ++ dr).map Ple.seq) := by
      simp only [List.map_append, List.map_cons, List.append_assoc, List.cons_append, List.nil_append]
      exact List.perm_middle
    refine hp.nodup_iff.2 ?_
    refine List.nodup_cons.2 (And.intro (fun hm => ?_) h.nd)
    obtain ⟨p, hp, he⟩ := List.mem_map.1 hm
    have := h.le p hp
    omega
theorem PInv.move {last : Int} {op dr : List Ple} (h : PInv last op dr) : PInv last (mvs head done f op dr).left (trim (mvs head done f op dr).drop) := by
  rw [mvs_eq]
  have hp : ((op.flatMap (mvL head done f) ++ (dr ++ op.flatMap (mvD head done f))).map Ple.seq).Perm ((op ++ dr).map Ple.seq) := by
    have h1 := seq_split head done f op
    simp only [List.map_append] at h1 ⊢
    exact ((List.perm_append_comm.append_left _).trans (by rw [← List.append_assoc])).trans (h1.append_right _)
  have hs : (op.flatMap (mvL head done f) ++ trim (dr ++ op.flatMap (mvD head done f))).Sublist (op.flatMap (mvL head done f) ++ (dr ++ op.flatMap (mvD head done f))) := List.Sublist.append (List.Sublist.refl _) (List.drop_sublist _ _)
  refine ⟨fun p hq => ?_, (hp.nodup_iff.2 h.nd).sublist (hs.map _)⟩
  obtain ⟨q, hq2, he⟩ := List.mem_map.1 (hp.subset (List.mem_map_of_mem (hs.subset hq)))
  rw [← he]
  exact h.le q hq2
theorem left_keep (op dr : List Ple) : ∀ p ∈ (mvs head done f op dr).left, keep head done p := by
  rw [mvs_eq]
  intro p hp
  obtain ⟨q, hq, hp⟩ := List.mem_flatMap.1 hp
  rcases mv_cases head done f q with ⟨h, h1, _⟩ | ⟨_, _, h1, _⟩ | ⟨_, h1, _⟩
  · rw [h1, List.mem_singleton] at hp
    subst hp
    exact h
  · rw [h1] at hp
    cases hp
  · rw [h1, List.mem_singleton] at hp
    subst hp
    exact .inr rfl
theorem again (l dr : List Ple) (h : ∀ p ∈ l, keep head done p) : mvs head done f l dr = ⟨l, [], dr⟩ := by
  rw [mvs_eq]
  have h1 : l.flatMap (mvL head done f) = l := by
    induction l with
    | nil => rfl
    | cons p l ih => rw [List.flatMap_cons, (mv_keep head done f (h p (by simp))).1, ih fun q hq => h q (by simp [hq])]; rfl
  have h2 : l.flatMap (mvA head done f) = [] := List.flatMap_eq_nil_iff.2 fun p hp => (mv_keep head done f (h p hp)).2.1
  have h3 : l.flatMap (mvD head done f) = [] := List.flatMap_eq_nil_iff.2 fun p hp => (mv_keep head done f (h p hp)).2.2
  rw [h1, h2, h3, List.append_nil]
theorem trim_trim (l : List Ple) : trim (trim l) = trim l := by
  unfold trim
  rw [List.drop_drop, List.length_drop]
  congr 1
  omega
theorem eq_of_seq {op dr : List Ple} {last : Int} (h : PInv last op dr) {p q : Ple} (hp : p ∈ op) (hq : q ∈ op) (he : p.seq = q.seq) : p = q := by
  have hn : (op.map Ple.seq).Nodup := h.nd.sublist ((List.sublist_append_left op dr).map _)
  obtain ⟨i, hi, rfl⟩ := List.mem_iff_getElem.1 hp
  obtain ⟨j, hj, rfl⟩ := List.mem_iff_getElem.1 hq
  have := (List.getElem_inj (h₀ := by simpa using hi) (h₁ := by simpa using hj) hn).1 (by simpa using he)
  subst this
  rfl
theorem ne_of_dr {op dr : List Ple} {last : Int} (h : PInv last op dr) {p q : Ple} (hp : p ∈ op) (hq : q ∈ dr) : p.seq ≠ q.seq := by
  have := h.nd
  rw [List.map_append, List.nodup_append] at this
  exact this.2.2 _ (List.mem_map_of_mem hp) _ (List.mem_map_of_mem hq)
/-- Is it there, behind the move? -/
def thereB (l : List Ple) (n : Int) : Bool := l.any fun q => decide (q.seq = n) && (decide (q.epoch = head) || decide (n ∈ done))
def goneB (l : List Ple) (n : Int) : Bool := l.any fun q => decide (q.seq = n) && !decide (q.why = 0)
theorem once {op dr : List Ple} {last : Int} (h : PInv last op dr) (hb : op.length ≤ 32) {p : Ple} (hp : p ∈ op) : thereB head done (mvs head done f op dr).left p.seq ≠ goneB (trim (mvs head done f op dr).drop) p.seq := by
  rw [mvs_eq]
  have hD : ∀ q ∈ op.flatMap (mvD head done f), ∃ r ∈ op, ¬ keep head done r ∧ f r.chg ≠ 0 ∧ q = gave f r := fun q hq => by
    obtain ⟨r, hr, hq⟩ := List.mem_flatMap.1 hq
    rcases mv_cases head done f r with ⟨_, _, _, h1⟩ | ⟨k1, k2, _, _, h1⟩ | ⟨_, _, _, h1⟩
    · rw [h1] at hq; cases hq
    · rw [h1, List.mem_singleton] at hq
      exact ⟨r, hr, k1, k2, hq⟩
    · rw [h1] at hq; cases hq
  have hlen : (op.flatMap (mvD head done f)).length ≤ 32 := by
    have := (seq_split head done f op).length_eq
    simp at this
    simp
    omega
  have hsub : ∀ q ∈ op.flatMap (mvD head done f), q ∈ trim (dr ++ op.flatMap (mvD head done f)) := fun q hq => by
    unfold trim
    rw [List.drop_append_of_le_length (by simp at hlen ⊢; omega)]
    exact List.mem_append_right _ hq
  have hgone : ∀ q ∈ trim (dr ++ op.flatMap (mvD head done f)), q.seq = p.seq → ¬ keep head done p ∧ f p.chg ≠ 0 := fun q hq he => by
    have hq := List.mem_of_mem_drop hq
    rcases List.mem_append.1 hq with hq | hq
    · exact absurd he.symm (ne_of_dr h hp hq)
    · obtain ⟨r, hr, k1, k2, rfl⟩ := hD q hq
      have := eq_of_seq h hr hp he
      subst this
      exact ⟨k1, k2⟩
  rcases mv_cases head done f p with ⟨k, h1, _⟩ | ⟨k1, k2, h1, _, h2⟩ | ⟨k, h1, _⟩
  · have ht : thereB head done (op.flatMap (mvL head done f)) p.seq = true := List.any_eq_true.2 ⟨p, List.mem_flatMap.2 ⟨p, hp, by rw [h1]; simp⟩, by rcases k with k | k <;> simp [k]⟩
    rw [ht, show goneB _ p.seq = false from List.any_eq_false.2 fun q hq => by
      by_cases he : q.seq = p.seq
      · exact absurd k (hgone q hq he).1
      · simp [he]]
    simp
  · have hg : goneB (trim (dr ++ op.flatMap (mvD head done f))) p.seq = true := List.any_eq_true.2 ⟨gave f p, hsub _ (List.mem_flatMap.2 ⟨p, hp, by rw [h2]; simp⟩), by simp [k2]⟩
    rw [hg, show thereB _ _ _ p.seq = false from List.any_eq_false.2 fun q hq => by
      obtain ⟨r, hr, hq⟩ := List.mem_flatMap.1 hq
      by_cases he : q.seq = p.seq
      · exfalso
        rcases mv_cases head done f r with ⟨k, h3, _⟩ | ⟨_, _, h3, _⟩ | ⟨k, h3, _, h4⟩
        · rw [h3, List.mem_singleton] at hq
          subst hq
          have := eq_of_seq h hr hp he
          subst this
          exact k1 k
        · rw [h3] at hq; cases hq
        · rw [h3, List.mem_singleton] at hq
          subst hq
          have := eq_of_seq h hr hp he
          subst this
          rw [h2] at h4
          cases h4
      · simp [he]]
    simp
  · have ht : thereB head done (op.flatMap (mvL head done f)) p.seq = true := List.any_eq_true.2 ⟨fresh head f p, List.mem_flatMap.2 ⟨p, hp, by rw [h1]; simp⟩, by simp⟩
    rw [ht, show goneB _ p.seq = false from List.any_eq_false.2 fun q hq => by
      by_cases he : q.seq = p.seq
      · have h5 := hgone q hq he
        rw [(mv_gave head done f h5.1 h5.2).1] at h1
        cases h1
      · simp [he]]
    simp
/-- So many times a number is asked for anew. -/
def times (l : List Ple) (n : Int) : Nat := l.countP fun q => decide (q.seq = n)
theorem times_le {op dr : List Ple} {last : Int} (h : PInv last op dr) (n : Int) : times (mvs head done f op dr).anew n ≤ 1 := by
  rw [mvs_eq]
  have hn : ((op.flatMap (mvA head done f)).map Ple.seq).Nodup := (h.nd.sublist ((List.sublist_append_left op dr).map _)).sublist (mvA_seq head done f op)
  have := List.nodup_iff_count.1 hn n
  rw [List.count, List.countP_map] at this
  exact this
end
end Go.Proofs.Ythnjpglpglbbkaa
