/- Trees, plainly: a leaf putL in, taken out, another key: the program's way and the document's are the same. -/
import Derived.Test.YtmjpbomonhjebaaTr0
import Derived.Test.YtmjpbomonhjebaaBo2
namespace Go.Proofs.Ytmjpbomonhjebaa
open Go.RowKit

/-! The nodes above a leaf are those that hold it. -/
theorem dir_cands {n l : Int} (h : 0 ≤ l ∧ l < n ∧ n ≤ 64) : dirL n l = cands n.toNat l.toNat := by
  have := dir_fin ⟨n.toNat, by omega⟩ ⟨l.toNat, by omega⟩ (by simp only; omega)
  simpa only [Int.toNat_of_nonneg h.1, Int.toNat_of_nonneg (show 0 ≤ n by omega)] using this
theorem mem_cands {n l : Nat} {x : Int} : x ∈ cands n l ↔ ∃ k, (1 ≤ k ∧ k ≤ 6) ∧ cand k l = x ∧ x ≤ 2 * n - 2 := by
  unfold cands
  simp only [List.mem_filter, List.mem_map, decide_eq_true_eq]
  constructor
  · rintro ⟨⟨k, hk, rfl⟩, h⟩
    exact ⟨k, by simp at hk; omega, rfl, h⟩
  · rintro ⟨k, hk, rfl, h⟩
    refine ⟨⟨k, ?_, rfl⟩, h⟩
    simp only [List.mem_cons, List.not_mem_nil, or_false]
    omega
theorem cand_eq {k l : Nat} (hk : 1 ≤ k ∧ k ≤ 6) (hl : l < 64) : cand k l % 2 = 1 ∧ 0 ≤ cand k l ∧ cand k l < 127 ∧ level (cand k l) = k := cand_fin ⟨k, by omega⟩ ⟨l, hl⟩ hk.1
theorem mem_dir {n l : Int} {i : Nat} (h : 0 ≤ l ∧ l < n ∧ n ≤ 64) (hi : (i : Int) + 1 < n) : 2 * (i : Int) + 1 ∈ dirL n l ↔ hld n (2 * i + 1) l := by
  have ht : thr n (2 * i + 1) := ⟨by omega, by omega, by omega⟩
  obtain ⟨-, -, -, -, hF, hT, -⟩ := bough_eq ht
  obtain ⟨⟨h1, h2⟩, h3⟩ := hold_fin ⟨i, by omega⟩ ⟨l.toNat, by omega⟩
  simp only [Int.toNat_of_nonneg h.1] at h1 h2 h3
  rw [dir_cands h, mem_cands]
  unfold hld
  rw [← hF, ← hT]
  unfold pFrom pTo
  rw [if_pos ht, if_pos ht]
  have hmin : l < min ((2 * (i : Int) + 1 + 1 + pw (level (2 * i + 1))) / 2) n ↔ l < (2 * (i : Int) + 1 + 1 + pw (level (2 * i + 1))) / 2 := by omega
  rw [hmin, h3]
  constructor
  · rintro ⟨k, hk, hc, -⟩
    have hl := (cand_eq (l := l.toNat) hk (by omega)).2.2.2
    rw [hc] at hl
    rw [hl]
    exact hc
  · intro hc
    exact ⟨(level (2 * i + 1)).toNat, by omega, hc, by omega⟩
theorem dir_mem {n l x : Int} (h : n ≤ 64) (hx : x ∈ dirL n l) : (0 ≤ l ∧ l < n) ∧ x = 2 * (x / 2) + 1 ∧ 0 ≤ x / 2 ∧ x / 2 + 1 < n := by
  by_cases hl : 0 ≤ l ∧ l < n
  · rw [dir_cands ⟨hl.1, hl.2, h⟩, mem_cands] at hx
    obtain ⟨k, hk, rfl, hle⟩ := hx
    obtain ⟨h1, h2, -⟩ := cand_eq (l := l.toNat) hk (by omega)
    refine ⟨hl, ?_⟩
    have : ((n.toNat : Nat) : Int) = n := Int.toNat_of_nonneg (by omega)
    omega
  · unfold dirL at hx
    rw [if_neg hl] at hx
    cases hx
theorem dir_nodup {n l : Int} (h : n ≤ 64) : (dirL n l).Nodup := by
  by_cases hl : 0 ≤ l ∧ l < n
  · rw [dir_cands ⟨hl.1, hl.2, h⟩]
    unfold cands
    have hc : ∀ k, 1 ≤ k → k ≤ 6 → level (cand k l.toNat) = k := fun k h1 h2 => (cand_eq (l := l.toNat) ⟨h1, h2⟩ (by omega)).2.2.2
    have hne : ∀ a b : Nat, 1 ≤ a → a ≤ 6 → 1 ≤ b → b ≤ 6 → a ≠ b → cand a l.toNat ≠ cand b l.toNat := fun a b h1 h2 h3 h4 hn e => by
      have := hc a h1 h2
      rw [e, hc b h3 h4] at this
      omega
    have hm : ([1, 2, 3, 4, 5, 6].map fun k => cand k l.toNat).Nodup := by
      simp only [List.map_cons, List.map_nil, List.nodup_cons, List.mem_cons, List.not_mem_nil, or_false, not_or, not_false_eq_true, List.nodup_nil, and_true]
      refine ⟨⟨?_, ?_, ?_, ?_, ?_⟩, ⟨?_, ?_, ?_, ?_⟩, ⟨?_, ?_, ?_⟩, ⟨?_, ?_⟩, ?_⟩ <;> exact hne _ _ (by omega) (by omega) (by omega) (by omega) (by omega)
    exact List.Pairwise.filter _ hm
  · unfold dirL
    rw [if_neg hl]
    exact List.nodup_nil
/-! Where something stands. -/
def fix {α : Type} (f : α → Bool) (l : List α) : Int := if l.findIdx f < l.length then (l.findIdx f : Int) else -1
theorem findIdx_at {α : Type} {f : α → Bool} {l : List α} {i : Nat} (h : i < l.length) (hb : ∀ j (hj : j < l.length), j < i → f l[j] = false) (ht : f l[i] = true) : l.findIdx f = i := by
  rw [List.findIdx_eq h]
  exact ⟨ht, fun j hj => by simpa using hb j (by omega) hj⟩
theorem findIdx_none {α : Type} {f : α → Bool} {l : List α} (hb : ∀ j (hj : j < l.length), f l[j] = false) : l.findIdx f = l.length := by
  rw [List.findIdx_eq_length]
  intro x hx
  obtain ⟨j, hj, rfl⟩ := List.getElem_of_mem hx
  simpa using hb j hj
theorem fix_at {α : Type} {f : α → Bool} {l : List α} {i : Nat} (h : i < l.length) (hb : ∀ j (hj : j < l.length), j < i → f l[j] = false) (ht : f l[i] = true) : fix f l = i := by
  unfold fix
  rw [findIdx_at h hb ht, if_pos h]
theorem fix_none {α : Type} {f : α → Bool} {l : List α} (hb : ∀ j (hj : j < l.length), f l[j] = false) : fix f l = -1 := by
  unfold fix
  rw [findIdx_none hb, if_neg (by omega)]
def Tr.place (t : Tr) (name : Int) : Int := if name < 1 then -1 else fix (fun l => decide (l.name = name)) t.ls
def Tr.sound (t : Tr) : Tr := if t.right then t else Tr.none
/-! A leaf putL in. -/
def putL (l : List Int) (x : Int) : List Int := l.takeWhile (· ≤ x) ++ x :: l.dropWhile (· ≤ x)
/-- The program's: ahead of the first that is not smaller. -/
def bs' (l : List Int) (x : Int) : Nat := l.findIdx (fun y => decide (x ≤ y))
def ins (l : List Int) (x : Int) : List Int := l.take (bs' l x) ++ x :: l.drop (bs' l x)
theorem put_ins : ∀ {l : List Int} {x : Int}, x ∉ l → ins l x = putL l x
  | [], x, _ => by simp [ins, putL]
  | y :: r, x, h => by
    simp only [List.mem_cons, not_or] at h
    have ih := put_ins h.2
    by_cases hy : y ≤ x
    · have h1 : bs' (y :: r) x = bs' r x + 1 := by
        unfold bs'
        rw [List.findIdx_cons, decide_eq_false (by omega)]
        rfl
      have e1 : ins (y :: r) x = y :: ins r x := by unfold ins; rw [h1]; rfl
      have e2 : putL (y :: r) x = y :: putL r x := by
        unfold putL
        rw [List.takeWhile_cons, List.dropWhile_cons, decide_eq_true hy]
        rfl
      rw [e1, e2, ih]
    · have h1 : bs' (y :: r) x = 0 := by
        unfold bs'
        rw [List.findIdx_cons, decide_eq_true (by omega)]
        rfl
      have e1 : ins (y :: r) x = x :: y :: r := by unfold ins; rw [h1]; rfl
      have e2 : putL (y :: r) x = x :: y :: r := by
        unfold putL
        rw [List.takeWhile_cons, List.dropWhile_cons, decide_eq_false hy]
        rfl
      rw [e1, e2]
theorem looseB_spec {n : Int} {ls : List Lf} {x : Int} : ∀ {o : Option Int} {l : List Int}, looseB n ls x o l = true → (∀ p ∈ l, hld n x p ∧ nameAt ls p ≠ 0 ∧ ∀ q ∈ o, q < p) ∧ l.Pairwise (· < ·)
  | _, [], _ => ⟨fun _ h => (by cases h), .nil⟩
  | o, p :: r, h => by
    simp only [looseB, Bool.and_eq_true, decide_eq_true_eq] at h
    obtain ⟨h1, h2⟩ := h
    obtain ⟨h3, h4⟩ := looseB_spec h2
    refine ⟨fun y hy => ?_, .cons (fun y hy => (h3 y hy).2.2 p rfl) h4⟩
    rcases List.mem_cons.1 hy with rfl | hy
    · exact h1
    · obtain ⟨a, b, c⟩ := h3 y hy
      exact ⟨a, b, fun q hq => by have := h1.2.2 q hq; have := c p rfl; omega⟩
theorem parB_spec {n : Int} {ls : List Lf} : ∀ {x : Int} {ps : List Pn}, parB n ls x ps = true → ∀ i (hi : i < ps.length), (ps[i].set = true ∨ ps[i].isZero) ∧ looseB n ls (x + 2 * i) none ps[i].loose = true
  | _, [], _, i, hi => by cases hi
  | x, p :: r, h, i, hi => by
    simp only [parB, Bool.and_eq_true, Bool.or_eq_true, decide_eq_true_eq] at h
    cases i with
    | zero => simpa using h.1
    | succ i =>
      have := parB_spec h.2 i (by simpa using hi)
      have e : x + 2 * ((i + 1 : Nat) : Int) = x + 2 + 2 * (i : Int) := by omega
      rw [e]
      simpa using this
theorem leavesB_spec : ∀ {s : List Int} {ls : List Lf}, leavesB s ls = true → ∀ l ∈ ls, l = Lf.zero ∨ (1 ≤ l.name ∧ l.name ≤ 64)
  | _, [], _, _, h => by cases h
  | s, l :: r, h, x, hx => by
    unfold leavesB at h
    split at h
    · rename_i hz
      rcases List.mem_cons.1 hx with rfl | hx
      · exact .inl hz
      · exact leavesB_spec h x hx
    · simp only [Bool.and_eq_true, decide_eq_true_eq] at h
      rcases List.mem_cons.1 hx with rfl | hx
      · exact .inr h.1.1
      · exact leavesB_spec h.2 x hx
structure Tr.Rt (t : Tr) : Prop where
  len : t.ls.length ≤ 64 ∧ t.ps.length = t.ls.length - 1
  leaves : leavesB [] t.ls = true
  par : parB t.size t.ls 1 t.ps = true
  last : t.ls = [] ∨ 0 < nameAt t.ls (t.size - 1)
theorem Tr.rt {t : Tr} : t.right = true ↔ t.Rt := by
  unfold Tr.right
  simp only [Bool.and_eq_true, decide_eq_true_eq]
  exact ⟨fun ⟨⟨⟨a, b⟩, c⟩, d⟩ => ⟨a, b, c, d⟩, fun ⟨a, b, c, d⟩ => ⟨⟨⟨a, b⟩, c⟩, d⟩⟩
theorem Lf.zero_name {l : Lf} (h : l = Lf.zero ∨ (1 ≤ l.name ∧ l.name ≤ 64)) : l = Lf.zero ↔ l.name = 0 := by
  constructor
  · rintro rfl
    rfl
  · intro e
    exact h.resolve_right (by omega)
/-- The first free place. -/
def Tr.gap (t : Tr) : Nat := t.ls.findIdx fun l => decide (l.name = 0)
theorem Tr.gap_le (t : Tr) : t.gap ≤ t.ls.length := List.findIdx_le_length
theorem Tr.Rt.gap_eq {t : Tr} (h : t.Rt) : (t.ls.findIdx fun l => decide (l = Lf.zero)) = t.gap := by
  have := leavesB_spec h.leaves
  unfold Tr.gap
  revert this
  generalize t.ls = ls
  intro hl
  induction ls with
  | nil => rfl
  | cons l r ih =>
    rw [List.findIdx_cons, List.findIdx_cons, ih fun x hx => hl x (List.mem_cons_of_mem _ hx)]
    simp only [Lf.zero_name (hl l (List.mem_cons_self ..))]
def addL (t : Tr) (l : Lf) : List Lf := (if t.gap = t.ls.length then t.ls ++ [l] else t.ls).set t.gap l
def addPs (t : Tr) : List Pn := if t.gap = t.ls.length ∧ 0 < t.gap then t.ps ++ [Pn.zero] else t.ps
theorem addL_len (t : Tr) (l : Lf) : (addL t l).length = if t.gap = t.ls.length then t.ls.length + 1 else t.ls.length := by
  unfold addL
  split <;> simp
def Tr.addR (t : Tr) (l : Lf) : Tr × Int × Int :=
  if l.name < 1 ∨ 64 < l.name then (Tr.none, 0, 1) else if 0 ≤ t.place l.name then (Tr.none, 0, 8) else if t.gap = 64 then (Tr.none, 0, 9) else
  (⟨addL t l, (addPs t).mapIdx fun i p => if p.set = true ∧ hld (addL t l).length (2 * i + 1) t.gap then { p with loose := putL p.loose t.gap } else p⟩, t.gap, 0)
def updA (x : Int) (p : Pn) : Pn := if p.set = true then { p with loose := ins p.loose x } else p
def onDir (f : Pn → Pn) (D : List Int) (ps : List Pn) : List Pn := D.foldl (fun ps x => ps.modify (x / 2).toNat f) ps
def Tr.addP (t : Tr) (l : Lf) : Tr × Int × Int :=
  if ¬ t.right = true ∨ l.name < 1 ∨ 64 < l.name then (Tr.none, 0, 1) else if 0 ≤ t.place l.name then (Tr.none, 0, 8) else if t.gap = t.ls.length ∧ t.gap = 64 then (Tr.none, 0, 9) else
  (⟨addL t l, onDir (updA t.gap) (dirL (addL t l).length t.gap) (addPs t)⟩, t.gap, 0)
theorem onDir_eq {f : Pn → Pn} : ∀ {D : List Int} {ps : List Pn}, D.Nodup → (∀ x ∈ D, x = 2 * (x / 2) + 1 ∧ 0 ≤ x / 2) → onDir f D ps = ps.mapIdx fun i p => if 2 * (i : Int) + 1 ∈ D then f p else p
  | [], ps, _, _ => by
    unfold onDir
    refine List.ext_getElem (by simp) fun i h1 h2 => ?_
    simp
  | x :: D, ps, hn, hD => by
    have hn' := List.nodup_cons.1 hn
    have ih := onDir_eq (f := f) (D := D) (ps := ps.modify (x / 2).toNat f) hn'.2 fun y hy => hD y (List.mem_cons_of_mem _ hy)
    have hx := hD x (List.mem_cons_self ..)
    unfold onDir at ih ⊢
    rw [List.foldl_cons, ih]
    refine List.ext_getElem (by simp) fun i h1 h2 => ?_
    simp only [List.getElem_mapIdx, List.getElem_modify, List.mem_cons]
    by_cases e : (x / 2).toNat = i
    · have e2 : 2 * (i : Int) + 1 = x := by omega
      rw [if_pos e, if_neg (by rw [e2]; exact hn'.1), if_pos (.inl e2)]
    · have e2 : ¬ 2 * (i : Int) + 1 = x := by omega
      rw [if_neg e]
      simp only [e2, false_or]
theorem onDir_dir {f : Pn → Pn} {n l : Int} {ps : List Pn} (h : 0 ≤ l ∧ l < n ∧ n ≤ 64) (hp : (ps.length : Int) + 1 = n) : onDir f (dirL n l) ps = ps.mapIdx fun i p => if hld n (2 * i + 1) l then f p else p := by
  rw [onDir_eq (dir_nodup h.2.2) fun x hx => by have := dir_mem h.2.2 hx; omega]
  refine List.ext_getElem (by simp) fun i h1 h2 => ?_
  simp only [List.getElem_mapIdx, List.length_mapIdx] at h1 ⊢
  simp only [mem_dir h (show (i : Int) + 1 < n by omega)]
theorem addPs_len {t : Tr} (h : t.Rt) (l : Lf) : ((addPs t).length : Int) + 1 = (addL t l).length := by
  have := t.gap_le
  have := h.len
  rw [addL_len]
  unfold addPs
  by_cases h1 : t.gap = t.ls.length
  · rw [if_pos h1]
    by_cases h2 : 0 < t.gap
    · rw [if_pos ⟨h1, h2⟩, List.length_append]
      simp
      omega
    · rw [if_neg (fun h => h2 h.2)]
      omega
  · rw [if_neg h1, if_neg (fun h => h1 h.1)]
    omega
theorem Tr.Rt.gap_free {t : Tr} (h : t.Rt) {i : Nat} (hi : i < t.ps.length) : (t.gap : Int) ∉ t.ps[i].loose := fun hm => by
  obtain ⟨h1, h2, -⟩ := (looseB_spec (parB_spec h.par i hi).2).1 _ hm
  unfold nameAt at h2
  rw [Int.toNat_natCast] at h2
  by_cases hg : t.gap < t.ls.length
  · rw [List.getElem?_eq_getElem hg] at h2
    have := List.findIdx_getElem (p := fun l : Lf => decide (l.name = 0)) (xs := t.ls) (w := hg)
    simp only [decide_eq_true_eq] at this
    exact h2 this
  · rw [List.getElem?_eq_none (by omega)] at h2
    exact h2 rfl
theorem add_same {t : Tr} (h : t.Rt) (l : Lf) : t.addP l = t.addR l := by
  unfold Tr.addP Tr.addR
  have hr : t.right = true := Tr.rt.2 h
  have hg := t.gap_le
  have hl := h.len
  simp only [hr, not_true_eq_false, false_or]
  by_cases h1 : l.name < 1 ∨ 64 < l.name
  · rw [if_pos h1, if_pos h1]
  rw [if_neg h1, if_neg h1]
  by_cases h2 : 0 ≤ t.place l.name
  · rw [if_pos h2, if_pos h2]
  rw [if_neg h2, if_neg h2]
  by_cases h3 : t.gap = 64
  · rw [if_pos h3, if_pos ⟨by omega, h3⟩]
  rw [if_neg h3, if_neg (fun h => h3 h.2)]
  have hn := addPs_len h l
  have hln : (addL t l).length ≤ 64 ∧ t.gap < (addL t l).length := by
    rw [addL_len]
    split <;> omega
  rw [onDir_dir ⟨by omega, by omega, by omega⟩ hn]
  congr 2
  refine List.ext_getElem (by simp) fun i k1 k2 => ?_
  simp only [List.getElem_mapIdx, List.length_mapIdx] at k1 ⊢
  have hfree : (t.gap : Int) ∉ (addPs t)[i].loose := by
    unfold addPs at k1 ⊢
    by_cases hc : t.gap = t.ls.length ∧ 0 < t.gap
    · simp only [if_pos hc, List.getElem_append]
      split
      · exact h.gap_free _
      · simp [Pn.zero]
    · simp only [if_neg hc] at k1 ⊢
      exact h.gap_free _
  by_cases hh : hld (addL t l).length (2 * i + 1) t.gap
  · simp only [hh, if_true, and_true, updA, put_ins hfree]
  · simp only [hh, if_false, and_false]
/-! A leaf taken out; another key. -/
def Tr.nobody (t : Tr) (p : Int) : Prop := (p < 0 ∨ t.size ≤ p) ∨ nameAt t.ls p = 0
instance (t : Tr) (p : Int) : Decidable (t.nobody p) := by unfold Tr.nobody; infer_instance
def blankR (n p : Int) (ps : List Pn) : List Pn := ps.mapIdx fun i q => if hld n (2 * i + 1) p then Pn.zero else q
def blankP (n p : Int) (ps : List Pn) : List Pn := onDir (fun _ => Pn.zero) (dirL n p) ps
theorem blank_same {n l : Int} {ps : List Pn} (h : 0 ≤ l ∧ l < n ∧ n ≤ 64) (hp : (ps.length : Int) + 1 = n) : blankP n l ps = blankR n l ps := onDir_dir h hp
def keepN (ls : List Lf) : Nat → Nat
  | 0 => 0
  | n + 1 => if nameAt ls n = 0 then keepN ls n else n + 1
theorem keepN_le (ls : List Lf) : ∀ n, keepN ls n ≤ n
  | 0 => Nat.le_refl _
  | n + 1 => by
    unfold keepN
    split
    · exact Nat.le_trans (keepN_le ls n) (by omega)
    · exact Nat.le_refl _
def cut (ls : List Lf) (ps : List Pn) : Tr := ⟨ls.take (keepN ls ls.length), ps.take (keepN ls ls.length - 1)⟩
def Tr.remR (t : Tr) (p : Int) : Tr × Int := if t.nobody p then (Tr.none, 7) else (cut (t.ls.set p.toNat Lf.zero) (blankR t.size p t.ps), 0)
def Tr.remP (t : Tr) (p : Int) : Tr × Int := if ¬ t.right = true then (Tr.none, 1) else if t.nobody p then (Tr.none, 7) else (cut (t.ls.set p.toNat Lf.zero) (blankP t.size p t.ps), 0)
def Lf.key (l : Lf) (pub abv : H32) : Lf := ⟨l.name, pub, l.ver, abv⟩
def Tr.renR (t : Tr) (p : Int) (pub : H32) : Tr × Int := if t.nobody p then (Tr.none, 7) else (⟨t.ls.modify p.toNat (·.key pub hzero), blankR t.size p t.ps⟩, 0)
def Tr.renP (t : Tr) (p : Int) (pub : H32) : Tr × Int := if ¬ t.right = true then (Tr.none, 1) else if t.nobody p then (Tr.none, 7) else (⟨t.ls.modify p.toNat (·.key pub hzero), blankP t.size p t.ps⟩, 0)
theorem Tr.Rt.blank {t : Tr} (h : t.Rt) {p : Int} (hp : ¬ t.nobody p) : blankP t.size p t.ps = blankR t.size p t.ps := by
  have := h.len
  unfold Tr.nobody Tr.size at hp
  exact blank_same ⟨by omega, by unfold Tr.size; omega, by unfold Tr.size; omega⟩ (by unfold Tr.size; omega)
theorem rem_same {t : Tr} (h : t.Rt) (p : Int) : t.remP p = t.remR p := by
  unfold Tr.remP Tr.remR
  rw [if_neg (fun hh => hh (Tr.rt.2 h))]
  by_cases hp : t.nobody p
  · rw [if_pos hp, if_pos hp]
  · rw [if_neg hp, if_neg hp, h.blank hp]
theorem ren_same {t : Tr} (h : t.Rt) (p : Int) (pub : H32) : t.renP p pub = t.renR p pub := by
  unfold Tr.renP Tr.renR
  rw [if_neg (fun hh => hh (Tr.rt.2 h))]
  by_cases hp : t.nobody p
  · rw [if_pos hp, if_pos hp]
  · rw [if_neg hp, if_neg hp, h.blank hp]
end Go.Proofs.Ytmjpbomonhjebaa
