/- Dock: First, Pour; the document's boxes. -/
import Derived.Test.YtihelggfpeokbaaDock2
import Derived.Test.YtihelggfpeokbaaMwd
namespace Go.Proofs.Ytihelggfpeokbaa
open Go.RowKit

section
variable {H : Hp} {w0 w : World} {L R : List Res} {g : Nat} {b b0 b1 b2 : Bx}
def Bx.pop (b : Bx) : Bx := { b with xs := b.xs.tail }
theorem Bx.pop_nil (h : b.xs = []) : b.pop = b := by
  cases b
  simp only at h
  subst h
  rfl
theorem takep_ok (hM : Mem H w0 (boxR g b :: L) w) : Calls Try.prog 9 #[.pointer (some ⟨g, 0, none⟩)] w fun en w' => ∃ v, en = .returned v ∧ v = .tuple #[.int .i64 (b.xs.headD 0), .bool (!b.xs.isEmpty)] ∧ Mem H w0 (boxR g b.pop :: L) w' := take_ok hM
/-- First: the thing, of which, whether; the boxes behind it. -/
def bfirst (b0 b1 b2 : Bx) : (Int × Int × Bool) × Bx × Bx × Bx :=
  if b0.xs ≠ [] then ((b0.xs.headD 0, 0, true), b0.pop, b1, b2) else if b1.xs ≠ [] then ((b1.xs.headD 0, 1, true), b0, b1.pop, b2)
  else if b2.xs ≠ [] then ((b2.xs.headD 0, 2, true), b0, b1, b2.pop) else ((0, -1, false), b0, b1, b2)
abbrev pv (g : Nat) : Value := .pointer (some ⟨g, 0, none⟩)
theorem first_ok {A : Option Addr} {c g0 g1 g2 : Nat} (hM : Mem H w0 (rowR 25 1 A 3 c [[.one (pv g0)], [.one (pv g1)], [.one (pv g2)]] :: boxR g0 b0 :: boxR g1 b1 :: boxR g2 b2 :: L) w) :
    Calls Try.prog 14 #[.slice A 3 c] w fun en w' => ∃ v, en = .returned v ∧ v = .tuple #[.int .i64 (bfirst b0 b1 b2).1.1, .int .i64 (bfirst b0 b1 b2).1.2.1, .bool (bfirst b0 b1 b2).1.2.2] ∧ Mem H w0 (boxR g0 (bfirst b0 b1 b2).2.1 :: boxR g1 (bfirst b0 b1 b2).2.2.1 :: boxR g2 (bfirst b0 b1 b2).2.2.2 :: L) w' := by
  refine C_dock_First_int ?_
  unfold F_dock_First_int
  ((with_reducible (refine mop_c trivial ?_)))
  refine ⟨fun x w' => (∃ i : Nat, x = .int .i64 i ∧ i ≤ 3 ∧ (1 ≤ i → b0.xs = []) ∧ (2 ≤ i → b1.xs = []) ∧ (3 ≤ i → b2.xs = [])) ∧ hM.now w', fun x _ => match x with | .int _ i => 3 - i.toNat | _ => 0, ⟨⟨0, rfl, by omega, by omega, by omega, by omega⟩, hM⟩, ?_⟩
  rintro x u w2 ⟨⟨i, rfl, hi, h0, h1, h2⟩, hM⟩
  ((with_reducible (refine mop_cS trivial ?_ ?_)))
  · intro hlt
    obtain rfl | rfl | rfl : i = 0 ∨ i = 1 ∨ i = 2 := by omega
    · ((with_reducible (refine mif_true ?_; refine mm_ixr hM ?_ ?_)); (focus omega); (with_reducible (intro _ hA)); (cases hA))
      rename_i g5
      refine mm_ldr0 (k := 0) hM rfl ?_
      refine mm_own (takep_ok (b := b0) (hM.at_ (boxR g0 b0))) ?_
      rintro v w3 ⟨rfl, hM⟩
      ((with_reducible (refine mop_c trivial ?_; refine mop_c trivial ?_)))
      by_cases hx : b0.xs = []
      · have e : (!b0.xs.isEmpty) = false := by simp [hx]
        rw [e]
        ((with_reducible (refine mif_false ?_; refine mop_c ?_ ?_)); (focus omega))
        rw [Bx.pop_nil hx] at hM
        exact ⟨⟨⟨1, by simp, by omega, by simp [*], by simp [*], by simp [*]⟩, hM.same⟩, by simp⟩
      · have e : (!b0.xs.isEmpty) = true := by simp [hx]
        rw [e]
        ((with_reducible (refine mif_true ?_)))
        have e : bfirst b0 b1 b2 = ((b0.xs.headD 0, 0, true), b0.pop, b1, b2) := by unfold bfirst; rw [if_pos (by simp [hx])]
        rw [e]
        exact ⟨_, rfl, by simp, hM.sub⟩
    · ((with_reducible (refine mif_true ?_; refine mm_ixr hM ?_ ?_)); (focus omega); (with_reducible (intro _ hA)); (cases hA))
      rename_i g5
      refine mm_ldr0 (k := 1) hM rfl ?_
      refine mm_own (takep_ok (b := b1) (hM.at_ (boxR g1 b1))) ?_
      rintro v w3 ⟨rfl, hM⟩
      ((with_reducible (refine mop_c trivial ?_; refine mop_c trivial ?_)))
      by_cases hx : b1.xs = []
      · have e : (!b1.xs.isEmpty) = false := by simp [hx]
        rw [e]
        ((with_reducible (refine mif_false ?_; refine mop_c ?_ ?_)); (focus omega))
        rw [Bx.pop_nil hx] at hM
        exact ⟨⟨⟨2, by simp, by omega, by simp [*], by simp [*], by simp [*]⟩, hM.same⟩, by simp⟩
      · have e : (!b1.xs.isEmpty) = true := by simp [hx]
        rw [e]
        ((with_reducible (refine mif_true ?_)))
        have e : bfirst b0 b1 b2 = ((b1.xs.headD 0, 1, true), b0, b1.pop, b2) := by unfold bfirst; rw [if_neg (by simp [h0]), if_pos (by simp [hx])]
        rw [e]
        exact ⟨_, rfl, by simp, hM.sub⟩
    · ((with_reducible (refine mif_true ?_; refine mm_ixr hM ?_ ?_)); (focus omega); (with_reducible (intro _ hA)); (cases hA))
      rename_i g5
      refine mm_ldr0 (k := 2) hM rfl ?_
      refine mm_own (takep_ok (b := b2) (hM.at_ (boxR g2 b2))) ?_
      rintro v w3 ⟨rfl, hM⟩
      ((with_reducible (refine mop_c trivial ?_; refine mop_c trivial ?_)))
      by_cases hx : b2.xs = []
      · have e : (!b2.xs.isEmpty) = false := by simp [hx]
        rw [e]
        ((with_reducible (refine mif_false ?_; refine mop_c ?_ ?_)); (focus omega))
        rw [Bx.pop_nil hx] at hM
        exact ⟨⟨⟨3, by simp, by omega, by simp [*], by simp [*], by simp [*]⟩, hM.same⟩, by simp⟩
      · have e : (!b2.xs.isEmpty) = true := by simp [hx]
        rw [e]
        ((with_reducible (refine mif_true ?_)))
        have e : bfirst b0 b1 b2 = ((b2.xs.headD 0, 2, true), b0, b1, b2.pop) := by unfold bfirst; rw [if_neg (by simp [h0]), if_neg (by simp [h1]), if_pos (by simp [hx])]
        rw [e]
        exact ⟨_, rfl, by simp, hM.sub⟩
  · intro hge
    obtain rfl : i = 3 := by omega
    ((with_reducible (refine mif_false ?_)))
    have e : bfirst b0 b1 b2 = ((0, -1, false), b0, b1, b2) := by unfold bfirst; rw [if_neg (by simp [h0]), if_neg (by simp [h1]), if_neg (by simp [h2])]
    rw [e]
    exact ⟨_, rfl, rfl, hM.drop⟩
theorem boxes_ne {g2 : Nat} {c : Bx} {cc : Bool} {K : Value → World → Prop} {X : List PanicEntry → World → Prop} (hM : Mem H w0 (boxR g b :: boxR g2 c :: L) w) (hk : K (.bool false) w) :
    mop Try.prog (o_bin .eql 25 cc (.pointer (some ⟨g, 0, none⟩)) (.pointer (some ⟨g2, 0, none⟩))) w K X := by
  obtain ⟨c1, s1, hM⟩ := hM.box
  have hM := hM.at_ (boxR g2 c)
  obtain ⟨c2, s2, hM⟩ := hM.box
  exact mop_pne (t := 68) (t2 := 68) (hM.upB g) Try.underlying25 (by kernel_rfl) (by decide) hk
theorem dm_capch {P : Program} {w1 : World} {c cap t e by_ ty : Nat} {buf : List Value} {cl : Bool} {put : Res → List Res} {ks : List Bool} {Kq : Value → Prop} (hM : Mem H w0 L w) [k : AtC L c cap buf cl put] [ht : ChC P t e by_] (hx : Ext w w1) (hk : Kq (.int .i64 cap)) : dq P w1 (o_builtin .cap #[t] ty ks [.chan (some c)]) Kq := by
  refine dq_pur (v := .int .i64 cap) (fun w' hw => ?_) hk
  obtain ⟨R, h1, h2⟩ := k.perm
  obtain ⟨s', r', hM2⟩ := (hM.perm h1).ch
  obtain ⟨⟨d, hu⟩, _⟩ := ht.ok
  have hlt : c < w.heap.size := (Array.getElem?_eq_some_iff.1 hM2.obAt).1
  have := Conc.run_cap_chan t ty hu (((hx.trans hw).block c hlt (fun e => e)).trans hM2.obAt)
  show (o_builtin .cap #[t] ty ks [.chan (some c)]).run P w' = _
  simp [o_builtin, invoke, builtin, this, goInt]
/-- How many are poured. -/
def pourN (f t : Bx) : Nat := if t.cl then 0 else min (t.room - t.xs.length) f.xs.length
def pourF (f t : Bx) : Bx := { f with xs := f.xs.drop (pourN f t) }
def pourT (f t : Bx) : Bx := { t with xs := t.xs ++ f.xs.take (pourN f t) }
theorem pour_ok {g1 g2 : Nat} {f t : Bx} (hb : f.xs.length ≤ 100000 ∧ t.lost < 100000) (hM : Mem H w0 (boxR g1 f :: boxR g2 t :: L) w) :
    Calls Try.prog 15 #[.pointer (some ⟨g1, 0, none⟩), .pointer (some ⟨g2, 0, none⟩)] w fun en w' => ∃ v, en = .returned v ∧ v = .int .i64 (pourN f t) ∧ Mem H w0 (boxR g1 (pourF f t) :: boxR g2 (pourT f t) :: L) w' := by
  refine C_dock_Pour_int ?_
  unfold F_dock_Pour_int
  refine ⟨fun x w' => x = .bool false ∧ hM.now w', ?_, ?_⟩
  · ((with_reducible (refine mop_c trivial ?_; refine mguard_yes ?_; refine mop_c trivial ?_; refine mguard_yes ?_; refine mop_c trivial ?_; refine mop_c trivial ?_; refine mguard_yes ?_; refine mop_c trivial ?_; refine mguard_yes ?_; refine mop_c trivial ?_; refine mguard_yes ?_)))
    refine boxes_ne hM ?_
    ((with_reducible (refine mop_c trivial ?_)))
    exact ⟨rfl, hM⟩
  rintro x u w2 ⟨rfl, hM⟩
  ((with_reducible (refine mif_false ?_)))
  refine ⟨fun x w' => x = .int .i64 (pourN f t) ∧ Mem H w0 (boxR g1 (pourF f t) :: boxR g2 (pourT f t) :: L) w', ?_, ?_⟩
  · refine ⟨fun x w' => ∃ (i : Nat) (f1 t1 : Bx), x = .int .i64 i ∧ i ≤ pourN f t ∧ f1 = { f with xs := f.xs.drop i } ∧ t1 = { t with xs := t.xs ++ f.xs.take i } ∧ Mem H w0 (boxR g1 f1 :: boxR g2 t1 :: L) w', fun x _ => match x with | .int _ i => pourN f t - i.toNat | _ => 0, ⟨0, f, t, rfl, by omega, by simp, by simp, hM⟩, ?_⟩
    clear hM
    rintro x u w3 ⟨i, f1, t1, rfl, hi, hf1, ht1, hM⟩
    have hif : i ≤ f.xs.length := by unfold pourN at hi; split at hi <;> omega
    have htl : t1.xs.length = t.xs.length + i := by subst ht1; simp; omega
    have hfl : f1.xs.length = f.xs.length - i := by subst hf1; simp
    have hcl : t1.cl = t.cl := by subst ht1; rfl
    have hrm : t1.room = t.room := by subst ht1; rfl
    have hls : t1.lost = t.lost := by subst ht1; rfl
    have hend : ∀ w, i = pourN f t → Mem H w0 (boxR g1 f1 :: boxR g2 t1 :: L) w → Mem H w0 (boxR g1 (pourF f t) :: boxR g2 (pourT f t) :: L) w := fun w e h => by
      subst e
      rw [hf1, ht1] at h
      exact h
    obtain ⟨c, s, hMu⟩ := (hM.at_ (boxR g2 t1)).box
    refine ⟨fun w' => t.xs.length + i < t.room ∧ t.cl = false ∧ hM.now w', ?_, ?_⟩
    · refine dm_eq hM (fun w hM => isShut_ok (hM.at_ (boxR g2 t1))) (fun w4 hx4 hM => ?_)
      obtain ⟨c, s, hMu⟩ := (hM.at_ (boxR g2 t1)).box
      rw [hcl] at *
      cases hc : t.cl
      · ((with_reducible (refine dp_c trivial ?_; refine qguard_yes ?_; refine dp_c trivial ?_; refine mguard_yes ?_)))
        refine dm_eq hM (fun w hM => len_ok (hM.at_ (boxR g2 t1))) (fun w5 hx5 hM => ?_)
        ((with_reducible (refine qguard_yes ?_; refine dp_c trivial ?_; refine qguard_yes ?_; refine dp_c trivial ?_; refine qguard_yes ?_; refine dp_c trivial ?_; refine qguard_yes ?_)))
        refine dm_ld hMu ?_
        ((with_reducible (refine qguard_yes ?_)))
        refine dm_capch (P := Try.prog) (t := 57) (c := c) hMu hx5 ?_
        rw [hrm, htl]
        ((with_reducible (refine qguard_yes ?_)))
        refine dp_cS trivial (fun h => ?_) (fun h => ?_)
        · ((with_reducible (refine dp_c trivial ?_; refine mm_end hM ?_; clear hM; intro _ hM; refine mif_true ?_)))
          exact ⟨by omega, rfl, hM⟩
        · ((with_reducible (refine dp_c trivial ?_; refine mm_end hM ?_; clear hM; intro _ hM; refine mif_false ?_)))
          have e : i = pourN f t := by
            unfold pourN at hi ⊢
            rw [if_neg (by simp [hc])] at hi ⊢
            omega
          exact ⟨by rw [← e], hend _ e hM⟩
      · ((with_reducible (refine dp_c trivial ?_; refine qguard_n2 ?_; refine mguard_n2 ?_; (iterate 6 refine qguard_n2 ?_); refine dp_c trivial ?_; refine mm_end hM ?_; clear hM; intro _ hM; refine mif_false ?_)))
        have e : i = pourN f t := by
          unfold pourN at hi ⊢
          rw [if_pos hc] at hi ⊢
          omega
        exact ⟨by rw [← e], hend _ e hM⟩
    · rintro u w4 ⟨hroom, hc, hM⟩
      refine mm_own (takep_ok (b := f1) hM) ?_
      rintro v w5 ⟨rfl, hM⟩
      ((with_reducible ((iterate 3 refine mop_c trivial ?_))))
      by_cases hx : f1.xs = []
      · have e1 : (!f1.xs.isEmpty) = false := by simp [hx]
        rw [e1]
        skip
        simp only [Bool.not_false]
        ((with_reducible (refine mif_true ?_)))
        rw [Bx.pop_nil hx] at hM
        have e : i = pourN f t := by
          have : f1.xs.length = 0 := by rw [hx]; rfl
          unfold pourN at hi ⊢
          rw [if_neg (by simp [hc])] at hi ⊢
          omega
        exact ⟨by rw [← e], hend _ e hM⟩
      · have e1 : (!f1.xs.isEmpty) = true := by simp [hx]
        rw [e1]
        skip
        simp only [Bool.not_true]
        ((with_reducible (refine mif_false ?_)))
        have hpos : 0 < f1.xs.length := List.length_pos_iff.2 hx
        refine mm_own (post_ok (b := t1) (f1.xs.headD 0) (by omega) (hM.at_ (boxR g2 t1))) ?_
        rintro v w6 ⟨rfl, hM⟩
        have e2 : (bpost t1 (f1.xs.headD 0)).2 = { t with xs := t.xs ++ f.xs.take (i + 1) } := by
          unfold bpost
          rw [if_neg (by rw [hcl, hc]; simp), if_pos (by omega)]
          subst hf1 ht1
          simp only [List.append_assoc]
          congr 2
          have hi' : i < f.xs.length := by omega
          rw [List.take_succ_eq_append_getElem hi']
          congr 1
          rw [List.drop_eq_getElem_cons hi']
          rfl
        have e3 : f1.pop = { f with xs := f.xs.drop (i + 1) } := by
          subst hf1
          simp [Bx.pop, List.tail_drop]
        rw [e2, e3] at hM
        ((with_reducible (refine mop_c ?_ ?_)); (focus omega))
        refine ⟨⟨i + 1, _, _, by simp, ?_, rfl, rfl, hM.same⟩, ?_⟩
        · unfold pourN
          rw [if_neg (by simp [hc])]
          omega
        · have : i + 1 ≤ pourN f t := by
            unfold pourN
            rw [if_neg (by simp [hc])]
            omega
          simp; omega
  · rintro x u w3 ⟨rfl, hM⟩
    exact ⟨_, rfl, rfl, hM⟩
end
end Go.Proofs.Ytihelggfpeokbaa
