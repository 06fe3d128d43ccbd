/- The walk of the law NetPlays: the program's net and the reference's stay alike. -/
import Derived.Test.YthnjpglpglbbkaaNetA
import Derived.Test.YthnjpglpglbbkaaNetR2
import Derived.Test.YthnjpglpglbbkaaNetLeft
import Derived.Deep.DeepCutAuto
import Derived.Deep.CutBlock
import Derived.Deep.RegionHeld3
import Derived.Test.YthnjpglpglbbkaaExt
namespace Go.Proofs.Ythnjpglpglbbkaa
open Go.RowKit

attribute [local go_sem] ext_cell ext_frozen
/-- A call that is asked for. -/
structure NAct where
  op : Nat
  i : Int
  l : Ltr
/-- The two nets share no block. -/
theorem NetAt.apart {tS tE tS' tE' : TypeId} {w : World} {b b' : Nat} {n n' : NetM} {g g' : Option Nat} (h : NetAt tS tE w b n g) (h' : NetAt tS' tE' w b' n' g') (h1 : tS ≠ tS' := by decide) (h2 : tS ≠ tE' := by decide) (h3 : tE ≠ tS' := by decide) (h4 : tE ≠ tE' := by decide) :
    ∀ k, NetF b g k → ¬ NetF b' g' k := by
  obtain ⟨_, _, _, A, c, hb, hr⟩ := h
  obtain ⟨_, _, _, A', c', hb', hr'⟩ := h'
  have own : ∀ {e size : Nat} {A : Option Addr} {n cap : Nat} {xs : List Value} {g : Option Nat}, Row w e size A n cap xs g → ∀ k, some k = g → ∃ cur, Blk w k e cur := by
    intro e size A n cap xs g h k hk
    rcases h.2 with ⟨_, _, _, h⟩ | ⟨b, off, cur, _, h, hb, _⟩
    · rw [h] at hk; cases hk
    · rw [h] at hk; injection hk with hk; exact ⟨cur, hk ▸ hb⟩
  rintro k (rfl | hk) (hk' | hk')
  · subst hk'; exact Blk.ne_ hb hb' h1 rfl
  · obtain ⟨c2, h⟩ := own hr' _ hk'; exact Blk.ne_ hb h h2 rfl
  · subst hk'; obtain ⟨c1, h⟩ := own hr _ hk; exact Blk.ne_ h hb' h3 rfl
  · obtain ⟨c1, h⟩ := own hr _ hk; obtain ⟨c2, h'⟩ := own hr' _ hk'; exact Blk.ne_ h h' h4 rfl
def NAct.cells (a : NAct) : List Value := [.int .u8 a.op, .int .i64 a.i, .int .i64 a.l.fr, .int .i64 a.l.to, .string a.l.tx]
theorem acts_at (l : List NAct) (k : Nat) (hk : k < l.length) : ∀ j, j < 5 → (l.flatMap NAct.cells)[k * 5 + j]? = (l[k].cells)[j]? := by
  induction l generalizing k with
  | nil => simp at hk
  | cons x l ih =>
    intro j hj
    rw [List.flatMap_cons]
    cases k with
    | zero => rw [List.getElem?_append_left (by simp [NAct.cells]; omega)]; simp
    | succ k =>
      rw [List.getElem?_append_right (by simp [NAct.cells]; omega)]
      have := ih k (by simpa using hk) j hj
      rw [show (k + 1) * 5 + j - (NAct.cells x).length = k * 5 + j by simp [NAct.cells]; omega, this]
      simp
/-- The two nets are alike, and of the call's own. -/
def Both (w wr : World) (b1 b2 : Nat) (n : NetM) : Prop :=
  ∃ g1 g2, PNet wr b1 n g1 ∧ RNet wr b2 n g2 ∧ Only (fun _ => False) w wr ∧ w.heap.size ≤ b1 ∧ w.heap.size ≤ b2 ∧ (∀ j, g1 = some j → w.heap.size ≤ j) ∧ ∀ j, g2 = some j → w.heap.size ≤ j

theorem Both.step {w W w3 w4 : World} {b1 b2 : Nat} {n n' : NetM} {g1 g2 g3 g4 : Option Nat} (hO : Only (fun _ => False) w W) (hb1 : w.heap.size ≤ b1) (hb2 : w.heap.size ≤ b2) (hg1 : ∀ j, g1 = some j → w.heap.size ≤ j) (hg2 : ∀ j, g2 = some j → w.heap.size ≤ j)
    (hn3 : PNet w3 b1 n' g3) (ho3 : Only (NetF b1 g1) W w3) (hg3 : ∀ k, g3 = some k → g1 = some k ∨ W.heap.size ≤ k) (hr3 : RNet w3 b2 n g2) (hn4 : RNet w4 b2 n' g4) (ho4 : Only (NetF b2 g2) w3 w4) (hg4 : ∀ k, g4 = some k → g2 = some k ∨ w3.heap.size ≤ k) : Both w w4 b1 b2 n' := by
  have h3 := hO.net ho3 (.inl hb1) (fun k h => .inl (hg1 k h))
  exact ⟨g3, g4, hn3.only ho4 (hn3.apart hr3), hn4, h3.net ho4 (.inl hb2) (fun k h => .inl (hg2 k h)), hb1, hb2, own_up hg3 hg1 hO.size, own_up hg4 hg2 h3.size⟩
theorem Both.only {w wr w' : World} {b1 b2 : Nat} {n : NetM} (h : Both w wr b1 b2 n) (ho : Only (fun _ => False) wr w') : Both w w' b1 b2 n := by
  obtain ⟨g1, g2, hp, hr, hO, h1, h2, h3, h4⟩ := h
  exact ⟨g1, g2, hp.only ho (fun _ _ e => e), hr.only ho (fun _ _ e => e), hO.trans ho (fun _ _ h => h), h1, h2, h3, h4⟩

set_option maxRecDepth 100000 in
set_option maxHeartbeats 2000000 in
theorem plays_walk (A : Option Addr) (cA : Nat) (room : Int) (xs : List NAct) (w : World) (ha : Rd w A (xs.flatMap NAct.cells)) (hlA : xs.length ≤ 300) (h1 : 1 ≤ room) (h2 : room ≤ 65536) :
    Calls Try.prog 5 #[.int .i64 room, .slice A xs.length cA] w fun e w' => e = .returned (.bool true) ∧ Only (fun _ => False) w w' := by
  have d1 : decide ((300 : Int) < (xs.length : Int)) = false := by simp; omega
  have d3 : decide (room < 1) = false := by simp; omega
  have d4 : decide (65536 < room) = false := by simp; omega
  have HA := Lib.hid ha
  have HR := Lib.hid h2
  clear ha h2
  go_enter Try.func5, Try.ntmps5
  go_wp2_with fail
  refine (nawake _).mono ?_
  rintro e w1 ⟨rfl, ho1⟩
  have HO1 := Lib.hid ho1
  clear ho1
  go_wp2_with fail
  refine (pnew_ok room _ h1 HR.out).mono ?_
  rintro e w2 ⟨rfl, hn2, ho2⟩
  have HN2 := Lib.hid hn2
  have HO2 := Lib.hid (HO1.out.trans ho2 (fun _ _ h => h))
  have hb0 := HO1.out.size
  have hb1 := ho2.size
  clear hn2 ho2
  go_wp2_with fail
  have HB := Lib.hid (show Both w (w2.alloc (.cells #[.int .i64 room, .int .i64 0, .slice none 0 0] 58)) w1.heap.size w2.heap.size ⟨room, 0, []⟩ from
    ⟨none, none, HN2.out.only ((Only.refl (fun _ => False) _).alloc _) (fun _ _ e => e), ⟨HR.out, by simp, by simp, none, 0, Blk.new _ _ _, Row.nil _ _ _⟩, HO2.out.alloc _, hb0, by omega, (fun j e => by cases e), (fun j e => by cases e)⟩)
  go_loopw [8] (fun i wr => ∃ k : Nat, k ≤ xs.length ∧ i = .int .i64 k ∧ ∃ n, Both w wr w1.heap.size w2.heap.size n) (fun i _ => xs.length - (intOf i).toNat)
  case atStart => exact ⟨0, by omega, rfl, _, HB.out⟩
  case round =>
    obtain ⟨k, hk, rfl, n, hB⟩ := hrel
    have HB := Lib.hid hB
    clear hB
    by_cases hlt : k < xs.length
    · have x0 := acts_at xs k hlt 0 (by omega)
      have x1 := acts_at xs k hlt 1 (by omega)
      have x2 := acts_at xs k hlt 2 (by omega)
      have x3 := acts_at xs k hlt 3 (by omega)
      have x4 := acts_at xs k hlt 4 (by omega)
      generalize xs[k] = x at x0 x1 x2 x3 x4
      obtain ⟨op, i, ⟨fr, tt, tx⟩⟩ := x
      simp only [NAct.cells, List.getElem?_cons_zero, List.getElem?_cons_succ] at x0 x1 x2 x3 x4
      obtain ⟨ab, ao, rfl, hab, hc⟩ := HA.out.at_ x0
      obtain ⟨g1, g2, hp, hr, ho, _, _, hg1, hg2⟩ := HB.out
      have y0 := (ho.cell (p := ⟨ab, ao + (k * 5 + 0), none⟩) hab (fun e => e)).trans (hc _ _ x0)
      have y1 := (ho.cell (p := ⟨ab, ao + (k * 5 + 1), none⟩) hab (fun e => e)).trans (hc _ _ x1)
      have y2 := (ho.cell (p := ⟨ab, ao + (k * 5 + 2), none⟩) hab (fun e => e)).trans (hc _ _ x2)
      have y3 := (ho.cell (p := ⟨ab, ao + (k * 5 + 3), none⟩) hab (fun e => e)).trans (hc _ _ x3)
      have y4 := (ho.cell (p := ⟨ab, ao + (k * 5 + 4), none⟩) hab (fun e => e)).trans (hc _ _ x4)
      simp only [← Nat.add_assoc, Nat.add_zero] at y0 y1 y2 y3 y4
      clear hp hr ho hg1 hg2 g1 g2 x0 x1 x2 x3 x4 hc
      go_upto_block 2 with fail
      go_cut [10] (fun s wx => s = .bool true ∧ ∃ n', Both w wx w1.heap.size w2.heap.size n')
      case first =>
        obtain ⟨g1, g2, hp, hr, ho, hb3, hb4, hg1, hg2⟩ := HB.out
        have hap := hp.apart hr
        have HP := Lib.hid hp
        have HRR := Lib.hid hr
        have HO := Lib.hid ho
        have HG1 := Lib.hid hg1
        have HG2 := Lib.hid hg2
        have HAP := Lib.hid hap
        have HPL := Lib.hid hp.lt
        have HRL := Lib.hid hr.lt
        clear hp hr ho hg1 hg2 hap y0 y1 y2 y3 y4
        have hm : op % 4 = 0 ∨ op % 4 = 1 ∨ op % 4 = 2 ∨ op % 4 = 3 := by omega
        rcases hm with hm | hm | hm | hm
        · have e0 : ((op : Int) % 4 == 0) = true := by simp; omega
          clear hm
          by_cases hf : n.full = true
          · go_wp2_with fail
            go_region_held3 (fun w' => w'.cell? ⟨wr.heap.size, 2, none⟩ = some (.int .i64 fr) ∧ w'.cell? ⟨wr.heap.size, 3, none⟩ = some (.int .i64 tt) ∧ w'.cell? ⟨wr.heap.size, 4, none⟩ = some (.string tx)) (go_keep) (
              first
              | (go_at_call 23
                 refine (psend_full _ n g1 ⟨fr, tt, tx⟩ _ ?_ hf).mono ?_
                 · exact HP.out.only (((Only.refl (fun _ => False) wr).alloc _).drew) (fun _ _ e => e)
                 rintro e w3 ⟨rfl, g3, hn3, ho3, hg3⟩
                 have hx3 := ho3.blk ((Blk.new wr _ _).drew) (fun e => by have := HPL.out _ e; omega)
                 have hr3 := (HRR.out.only (((Only.refl (fun _ => False) wr).alloc _).drew) (fun _ _ e => e)).only ho3 (fun k hk e => HAP.out k e hk)
                 have q2 := hx3.cell 2
                 have q3 := hx3.cell 3
                 have q4 := hx3.cell 4
                 have q5 := hx3.lt
                 simp at q2 q3 q4
                 have HN3 := Lib.hid hn3
                 have HO3 := Lib.hid ho3
                 have HG3 := Lib.hid hg3
                 have HR3 := Lib.hid hr3
                 have HX3 := Lib.hid hx3
                 clear hn3 ho3 hg3 hr3 hx3)
              | (go_at_call 28
                 refine (rsend_full _ n g2 ⟨fr, tt, tx⟩ _ HR3.out hf).mono ?_
                 rintro e w4 ⟨rfl, g4, hn4, ho4, hg4⟩
                 have hx4 := ho4.blk HX3.out (fun e => by have := HRL.out _ e; omega)
                 have r2 := hx4.cell 2
                 have r3 := hx4.cell 3
                 have r4 := hx4.cell 4
                 simp at r2 r3 r4
                 have HN4 := Lib.hid hn4
                 have HO4 := Lib.hid ho4
                 have HG4 := Lib.hid hg4
                 clear hn4 ho4 hg4 hx4))
            all_goals
              go_wp2_with fail
              go_meet
              exact ⟨rfl, n.lose, Both.step ((HO.out.alloc _).drew) hb3 hb4 HG1.out HG2.out HN3.out HO3.out HG3.out HR3.out HN4.out HO4.out HG4.out⟩
          · have hf : n.full = false := by simpa using hf
            go_wp2_with fail
            go_region_held3 (fun w' => w'.cell? ⟨wr.heap.size, 2, none⟩ = some (.int .i64 fr) ∧ w'.cell? ⟨wr.heap.size, 3, none⟩ = some (.int .i64 tt) ∧ w'.cell? ⟨wr.heap.size, 4, none⟩ = some (.string tx)) (go_keep) (
              first
              | (go_at_call 23
                 refine (psend_ok _ n g1 ⟨fr, tt, tx⟩ _ ?_ hf).mono ?_
                 · exact HP.out.only (((Only.refl (fun _ => False) wr).alloc _).drew) (fun _ _ e => e)
                 rintro e w3 ⟨rfl, g3, hn3, ho3, hg3⟩
                 have hx3 := ho3.blk ((Blk.new wr _ _).drew) (fun e => by have := HPL.out _ e; omega)
                 have hr3 := (HRR.out.only (((Only.refl (fun _ => False) wr).alloc _).drew) (fun _ _ e => e)).only ho3 (fun k hk e => HAP.out k e hk)
                 have q2 := hx3.cell 2
                 have q3 := hx3.cell 3
                 have q4 := hx3.cell 4
                 have q5 := hx3.lt
                 simp at q2 q3 q4
                 have HN3 := Lib.hid hn3
                 have HO3 := Lib.hid ho3
                 have HG3 := Lib.hid hg3
                 have HR3 := Lib.hid hr3
                 have HX3 := Lib.hid hx3
                 clear hn3 ho3 hg3 hr3 hx3)
              | (go_at_call 28
                 refine (rsend_ok _ n g2 ⟨fr, tt, tx⟩ _ HR3.out hf).mono ?_
                 rintro e w4 ⟨rfl, g4, hn4, ho4, hg4⟩
                 have hx4 := ho4.blk HX3.out (fun e => by have := HRL.out _ e; omega)
                 have r2 := hx4.cell 2
                 have r3 := hx4.cell 3
                 have r4 := hx4.cell 4
                 simp at r2 r3 r4
                 have HN4 := Lib.hid hn4
                 have HO4 := Lib.hid ho4
                 have HG4 := Lib.hid hg4
                 clear hn4 ho4 hg4 hx4))
            all_goals
              go_wp2_with fail
              go_meet
              exact ⟨rfl, n.send ⟨fr, tt, tx⟩, Both.step ((HO.out.alloc _).drew) hb3 hb4 HG1.out HG2.out HN3.out HO3.out HG3.out HR3.out HN4.out HO4.out HG4.out⟩
        · have e0 : ((op : Int) % 4 == 0) = false := by simp; omega
          have e1 : ((op : Int) % 4 == 1) = true := by simp; omega
          clear hm
          by_cases hh : n.has i = true
          · obtain ⟨j, rfl⟩ : ∃ j : Nat, i = (j : Int) := ⟨i.toNat, by simp [NetM.has] at hh; omega⟩
            have hj : j < n.row.length := by simp [NetM.has] at hh; omega
            clear hh
            go_wp2_with fail
            refine (ptake_ok _ n g1 j _ (HP.out.only ((Only.refl (fun _ => False) wr).alloc _) (fun _ _ e => e)) hj).mono ?_
            rintro e w3 ⟨rfl, g3, hn3, ho3, hg3⟩
            have hx3 := ho3.blk (Blk.new wr _ _) (fun e => by have := HPL.out _ e; omega)
            have hr3 := (HRR.out.only ((Only.refl (fun _ => False) wr).alloc _) (fun _ _ e => e)).only ho3 (fun k hk e => HAP.out k e hk)
            have q1 := hx3.cell 1
            have q5 := hx3.lt
            simp at q1
            have HN3 := Lib.hid hn3
            have HO3 := Lib.hid ho3
            have HG3 := Lib.hid hg3
            have HR3 := Lib.hid hr3
            have HX3 := Lib.hid hx3
            clear hn3 ho3 hg3 hr3 hx3
            go_wp2_with fail
            refine (rtake_ok _ n g2 j _ (HR3.out.only ((Only.refl (fun _ => False) w3).alloc _) (fun _ _ e => e)) hj).mono ?_
            rintro e w4 ⟨rfl, g4, hn4, ho4, hg4⟩
            have hx4 := ho4.blk (Blk.new w3 47 #[.int .i64 n.row[j].fr, .int .i64 n.row[j].to, .string n.row[j].tx]) (fun e => by have := HRL.out _ e; omega)
            have r0 := hx4.cell 0
            have r1 := hx4.cell 1
            have r2 := hx4.cell 2
            have r5 := hx4.lt
            simp at r0 r1 r2
            have HN4 := Lib.hid hn4
            have HO4 := Lib.hid ho4
            have HG4 := Lib.hid hg4
            have HX4 := Lib.hid hx4
            clear hn4 ho4 hg4 hx4
            go_wp2_with fail
            go_region_held3 (fun w' => w'.cell? ⟨w3.heap.size, 0, none⟩ = some (.int .i64 n.row[j].fr) ∧ w'.cell? ⟨w3.heap.size, 1, none⟩ = some (.int .i64 n.row[j].to) ∧ w'.cell? ⟨w3.heap.size, 2, none⟩ = some (.string n.row[j].tx) ∧
              w'.cell? ⟨w4.heap.size, 0, none⟩ = some (.int .i64 n.row[j].fr) ∧ w'.cell? ⟨w4.heap.size, 1, none⟩ = some (.int .i64 n.row[j].to) ∧ w'.cell? ⟨w4.heap.size, 2, none⟩ = some (.string n.row[j].tx)) (go_keep) (
              first
              | (go_at_call 30
                 refine (plain_any _ _ _ _).mono ?_
                 rintro e w5 ⟨rfl, ho5⟩
                 have h5 := ho5.blk ((HX4.out.alloc _).drew) (fun e => e)
                 have h6 := ho5.blk ((Blk.new w4 59 #[.int .i64 n.row[j].fr, .int .i64 n.row[j].to, .string n.row[j].tx]).drew) (fun e => e)
                 have s0 := h5.cell 0
                 have s1 := h5.cell 1
                 have s2 := h5.cell 2
                 have t0 := h6.cell 0
                 have t1 := h6.cell 1
                 have t2 := h6.cell 2
                 simp at s0 s1 s2 t0 t1 t2
                 have HO5 := Lib.hid ho5
                 clear h5 h6 ho5))
            all_goals
              go_wp2_with fail
              go_meet
              exact ⟨by simp, _, (Both.step (HO.out.alloc _) hb3 hb4 HG1.out HG2.out HN3.out HO3.out HG3.out HR3.out
                (HN4.out) ((((Only.refl (NetF w2.heap.size g2) w3).alloc _).trans HO4.out (fun _ _ h => h))) (fun k hk => (HG4.out k hk).imp id (fun h => by simp at h; omega))).only (((Only.refl _ w4).alloc _).drew.trans HO5.out (fun _ _ h => h))⟩
          · have hh : n.has i = false := by simpa using hh
            go_wp2_with fail
            refine (ptake_no _ n g1 i _ (HP.out.only ((Only.refl (fun _ => False) wr).alloc _) (fun _ _ e => e)) hh).mono ?_
            rintro e w3 ⟨rfl, ho3⟩
            have hx3 := ho3.blk (Blk.new wr _ _) (fun e => e)
            have hr3 := (HRR.out.only ((Only.refl (fun _ => False) wr).alloc _) (fun _ _ e => e)).only ho3 (fun _ _ e => e)
            have q1 := hx3.cell 1
            have q5 := hx3.lt
            simp at q1
            have HO3 := Lib.hid ho3
            have HR3 := Lib.hid hr3
            have HX3 := Lib.hid hx3
            clear ho3 hr3 hx3
            go_wp2_with fail
            refine (rtake_no _ n g2 i _ (HR3.out.only ((Only.refl (fun _ => False) w3).alloc _) (fun _ _ e => e)) hh).mono ?_
            rintro e w4 ⟨rfl, ho4⟩
            have hx4 := ho4.blk (Blk.new w3 47 #[.int .i64 0, .int .i64 0, .string ⟨#[]⟩]) (fun e => e)
            have r0 := hx4.cell 0
            have r1 := hx4.cell 1
            have r2 := hx4.cell 2
            have r5 := hx4.lt
            simp at r0 r1 r2
            have HO4 := Lib.hid ho4
            have HX4 := Lib.hid hx4
            clear ho4 hx4
            go_wp2_with fail
            go_region_held3 (fun w' => w'.cell? ⟨w3.heap.size, 0, none⟩ = some (.int .i64 0) ∧ w'.cell? ⟨w3.heap.size, 1, none⟩ = some (.int .i64 0) ∧ w'.cell? ⟨w3.heap.size, 2, none⟩ = some (.string ⟨#[]⟩) ∧
              w'.cell? ⟨w4.heap.size, 0, none⟩ = some (.int .i64 0) ∧ w'.cell? ⟨w4.heap.size, 1, none⟩ = some (.int .i64 0) ∧ w'.cell? ⟨w4.heap.size, 2, none⟩ = some (.string ⟨#[]⟩)) (go_keep) (
              first
              | (go_at_call 30
                 refine (plain_any _ _ _ _).mono ?_
                 rintro e w5 ⟨rfl, ho5⟩
                 have h5 := ho5.blk ((HX4.out.alloc _).drew) (fun e => e)
                 have h6 := ho5.blk ((Blk.new w4 59 #[.int .i64 0, .int .i64 0, .string ⟨#[]⟩]).drew) (fun e => e)
                 have s0 := h5.cell 0
                 have s1 := h5.cell 1
                 have s2 := h5.cell 2
                 have t0 := h6.cell 0
                 have t1 := h6.cell 1
                 have t2 := h6.cell 2
                 simp at s0 s1 s2 t0 t1 t2
                 have HO5 := Lib.hid ho5
                 clear h5 h6 ho5))
            all_goals
              go_wp2_with fail
              go_meet
              exact ⟨by simp, _, HB.out.only ((((((Only.refl (fun _ => False) wr).alloc _).trans HO3.out (fun _ _ h => h)).alloc _).trans HO4.out (fun _ _ h => h)).alloc _ |>.drew.trans HO5.out (fun _ _ h => h))⟩
        · have e0 : ((op : Int) % 4 == 0) = false := by simp; omega
          have e1 : ((op : Int) % 4 == 1) = false := by simp; omega
          have e2 : ((op : Int) % 4 == 2) = true := by simp; omega
          clear hm
          by_cases hh : n.has i = true
          · obtain ⟨j, rfl⟩ : ∃ j : Nat, i = (j : Int) := ⟨i.toNat, by simp [NetM.has] at hh; omega⟩
            have hj : j < n.row.length := by simp [NetM.has] at hh; omega
            clear hh
            by_cases hf : n.full = true
            · go_wp2_with fail
              go_region_held3 (fun w' => w'.cell? ⟨wr.heap.size, 1, none⟩ = some (.int .i64 (j : Int))) (go_keep) (
                first
                | (go_at_call 27
                   refine (ptwice_full _ n g1 j _ ?_ hj hf).mono ?_
                   · exact HP.out.only (((Only.refl (fun _ => False) wr).alloc _).drew) (fun _ _ e => e)
                   rintro e w3 ⟨rfl, ho3⟩
                   have hx3 := ho3.blk ((Blk.new wr _ _).drew) (fun e => e)
                   have hr3 := (HRR.out.only (((Only.refl (fun _ => False) wr).alloc _).drew) (fun _ _ e => e)).only ho3 (fun _ _ e => e)
                   have q1 := hx3.cell 1
                   have q5 := hx3.lt
                   simp at q1
                   skip
                   have HO3 := Lib.hid ho3
                   have HR3 := Lib.hid hr3
                   have HX3 := Lib.hid hx3
                   clear ho3 hr3 hx3)
                | (go_at_call 31
                   refine (rtwice_full _ n g2 j _ HR3.out hj hf).mono ?_
                   rintro e w4 ⟨rfl, ho4⟩
                   have hx4 := ho4.blk HX3.out (fun e => e)
                   have r1 := hx4.cell 1
                   simp at r1
                   skip
                   have HO4 := Lib.hid ho4
                   clear ho4 hx4))
              all_goals
                go_wp2_with fail
                go_meet
                exact ⟨rfl, _, HB.out.only ((((Only.refl (fun _ => False) wr).alloc _).drew.trans HO3.out (fun _ _ h => h)).trans HO4.out (fun _ _ h => h))⟩
            · have hf : n.full = false := by simpa using hf
              go_wp2_with fail
              go_region_held3 (fun w' => w'.cell? ⟨wr.heap.size, 1, none⟩ = some (.int .i64 (j : Int))) (go_keep) (
                first
                | (go_at_call 27
                   refine (ptwice_ok _ n g1 j _ ?_ hj hf).mono ?_
                   · exact HP.out.only (((Only.refl (fun _ => False) wr).alloc _).drew) (fun _ _ e => e)
                   rintro e w3 ⟨rfl, g3, hn3, ho3, hg3⟩
                   have hx3 := ho3.blk ((Blk.new wr _ _).drew) (fun e => by have := HPL.out _ e; omega)
                   have hr3 := (HRR.out.only (((Only.refl (fun _ => False) wr).alloc _).drew) (fun _ _ e => e)).only ho3 (fun k hk e => HAP.out k e hk)
                   have q1 := hx3.cell 1
                   have q5 := hx3.lt
                   simp at q1
                   have HN3 := Lib.hid hn3
                   have HG3 := Lib.hid hg3
                   clear hn3 hg3
                   have HO3 := Lib.hid ho3
                   have HR3 := Lib.hid hr3
                   have HX3 := Lib.hid hx3
                   clear ho3 hr3 hx3)
                | (go_at_call 31
                   refine (rtwice_ok _ n g2 j _ HR3.out hj hf).mono ?_
                   rintro e w4 ⟨rfl, g4, hn4, ho4, hg4⟩
                   have hx4 := ho4.blk HX3.out (fun e => by have := HRL.out _ e; omega)
                   have r1 := hx4.cell 1
                   simp at r1
                   have HN4 := Lib.hid hn4
                   have HG4 := Lib.hid hg4
                   clear hn4 hg4
                   have HO4 := Lib.hid ho4
                   clear ho4 hx4))
              all_goals
                go_wp2_with fail
                go_meet
                exact ⟨rfl, _, Both.step ((HO.out.alloc _).drew) hb3 hb4 HG1.out HG2.out HN3.out HO3.out HG3.out HR3.out HN4.out HO4.out HG4.out⟩
          · have hh : n.has i = false := by simpa using hh
            go_wp2_with fail
            go_region_held3 (fun w' => w'.cell? ⟨wr.heap.size, 1, none⟩ = some (.int .i64 i)) (go_keep) (
              first
              | (go_at_call 27
                 refine (ptwice_none _ n g1 i _ ?_ hh).mono ?_
                 · exact HP.out.only (((Only.refl (fun _ => False) wr).alloc _).drew) (fun _ _ e => e)
                 rintro e w3 ⟨rfl, ho3⟩
                 have hx3 := ho3.blk ((Blk.new wr _ _).drew) (fun e => e)
                 have hr3 := (HRR.out.only (((Only.refl (fun _ => False) wr).alloc _).drew) (fun _ _ e => e)).only ho3 (fun _ _ e => e)
                 have q1 := hx3.cell 1
                 have q5 := hx3.lt
                 simp at q1
                 skip
                 have HO3 := Lib.hid ho3
                 have HR3 := Lib.hid hr3
                 have HX3 := Lib.hid hx3
                 clear ho3 hr3 hx3)
              | (go_at_call 31
                 refine (rtwice_none _ n g2 i _ HR3.out hh).mono ?_
                 rintro e w4 ⟨rfl, ho4⟩
                 have hx4 := ho4.blk HX3.out (fun e => e)
                 have r1 := hx4.cell 1
                 simp at r1
                 skip
                 have HO4 := Lib.hid ho4
                 clear ho4 hx4))
            all_goals
              go_wp2_with fail
              go_meet
              exact ⟨rfl, _, HB.out.only ((((Only.refl (fun _ => False) wr).alloc _).drew.trans HO3.out (fun _ _ h => h)).trans HO4.out (fun _ _ h => h))⟩
        · have e0 : ((op : Int) % 4 == 0) = false := by simp; omega
          have e1 : ((op : Int) % 4 == 1) = false := by simp; omega
          have e2 : ((op : Int) % 4 == 2) = false := by simp; omega
          clear hm
          go_wp2_with fail
          go_meet
          exact ⟨rfl, _, HB.out.only ((Only.refl (fun _ => False) wr).alloc _)⟩
      case rest =>
        clear HB y0 y1 y2 y3 y4
        obtain ⟨rfl, n', hB⟩ := hcut
        have HB := Lib.hid hB
        obtain ⟨g1, g2, hp, hr, ho, hb3, hb4, hg1, hg2⟩ := hB
        obtain ⟨_, hn65, _, A2, c2, hmb, hmr⟩ := hr
        have m1 := hmb.cell 1
        have m2 := hmb.cell 2
        simp at m1 m2
        have HP := Lib.hid hp
        clear hp ho hg1 hg2 hmb hmr hn65
        go_wp2_with fail
        go_quiet (first | (go_at_call 24; exact quiet_left (plen _ n' g1 _ (HP.out.only ((Only.refl (fun _ => False) wc).drewN _) (fun _ _ e => e)))) | (go_at_call 26; exact quiet_left (plost _ n' g1 _ (HP.out.only ((Only.refl (fun _ => False) wc).drewN _) (fun _ _ e => e)))))
        obtain ⟨wo, rfl⟩ : ∃ wo : World, wo = wr := ⟨_, rfl⟩
        have HBq := Lib.hid (HB.out.only ((Only.refl (fun _ => False) wc).drewN nq))
        clear m1 m2
        go_wp2_with fail
        go_loopw [15] (fun v wl => ∃ q : Int, -1 ≤ q ∧ q ≤ (n'.row.length : Int) + 1 ∧ v = .int .i64 q ∧ Both w wl w1.heap.size w2.heap.size n') (fun v _ => ((n'.row.length : Int) + 1 - intOf v).toNat)
        case atStart => exact ⟨-1, by omega, by omega, rfl, HBq.out⟩
        case round =>
          obtain ⟨q, hq1, hq2, rfl, hB⟩ := hrel
          have HB5 := Lib.hid hB
          obtain ⟨g1, g2, hp, hr, ho, hb3, hb4, hg1, hg2⟩ := hB
          have HRn := Lib.hid hr
          obtain ⟨_, hn65, _, A3, c3, hmb, hmr⟩ := hr
          have m2 := hmb.cell 2
          have m3 := hmb.lt
          simp at m2
          have HP := Lib.hid hp
          have HM := Lib.hid hmb
          have HMR := Lib.hid hmr
          clear hp ho hg1 hg2 hmb
          by_cases hle : q ≤ (n'.row.length : Int)
          · by_cases hh : n'.has q = true
            · obtain ⟨j, rfl⟩ : ∃ j : Nat, q = (j : Int) := ⟨q.toNat, by simp [NetM.has] at hh; omega⟩
              have hj : j < n'.row.length := by simp [NetM.has] at hh; omega
              clear hh
              obtain ⟨x0, x1, x2⟩ := lcells_at n'.row j hj
              obtain ⟨rb, ro, rfl, hrb, hc⟩ := hmr.rd.at_ x0
              have y0 := hc _ _ x0
              have y1 := hc _ _ x1
              have y2 := hc _ _ x2
              simp only [← Nat.add_assoc] at y1 y2
              clear hc x0 x1 x2 hmr
              go_wp2_with fail
              refine (plook_ok _ n' g1 j _ HP.out hj).mono ?_
              rintro e w5 ⟨rfl, ho5⟩
              have hm5 := ho5.blk HM.out (fun e => e)
              have m5 := hm5.cell 2
              have m6 := hm5.lt
              simp at m5
              have z0 := (ho5.cell (p := ⟨rb, ro + j * 3, none⟩) hrb (fun e => e)).trans y0
              have z1 := (ho5.cell (p := ⟨rb, ro + j * 3 + 1, none⟩) hrb (fun e => e)).trans y1
              have z2 := (ho5.cell (p := ⟨rb, ro + j * 3 + 2, none⟩) hrb (fun e => e)).trans y2
              have z3 : rb < w5.heap.size := Nat.lt_of_lt_of_le hrb ho5.size
              have i1 : (0 : Int) ≤ (j : Int) := by omega
              have i2 : (j : Int) < (n'.row.length : Int) := by omega
              have i3 : decide ((0 : Int) ≤ (j : Int)) = true := by simp
              have i4 : decide ((j : Int) < (n'.row.length : Int)) = true := by simp; omega
              have HO5 := Lib.hid ho5
              clear ho5 hm5 y0 y1 y2 m2
              go_wp2_with fail
              have kb := Blk.new w5 47 #[.int .i64 n'.row[j].fr, .int .i64 n'.row[j].to, .string n'.row[j].tx]
              have hOW : Only (fun _ => False) w5 (w5.alloc (.cells #[.int .i64 n'.row[j].fr, .int .i64 n'.row[j].to, .string n'.row[j].tx] 47)) := (Only.refl _ w5).alloc _
              have k0 := kb.cell 0
              have k1 := kb.cell 1
              have k2 := kb.cell 2
              have k3 := (hOW.cell (p := ⟨w2.heap.size, 2, none⟩) m6 (fun e => e)).trans m5
              have k4 := (hOW.cell (p := ⟨rb, ro + j * 3, none⟩) z3 (fun e => e)).trans z0
              have k5 := (hOW.cell (p := ⟨rb, ro + j * 3 + 1, none⟩) z3 (fun e => e)).trans z1
              have k6 := (hOW.cell (p := ⟨rb, ro + j * 3 + 2, none⟩) z3 (fun e => e)).trans z2
              have k7 := kb.lt
              have k8 := Nat.lt_of_lt_of_le m6 hOW.size
              have k9 := Nat.lt_of_lt_of_le z3 hOW.size
              simp only [List.getElem?_toArray, List.getElem?_cons_zero, List.getElem?_cons_succ] at k0 k1 k2
              have HOW := Lib.hid hOW
              clear kb hOW m5 z0 z1 z2
              generalize w5.alloc (.cells #[.int .i64 n'.row[j].fr, .int .i64 n'.row[j].to, .string n'.row[j].tx] 47) = W at HOW k0 k1 k2 k3 k4 k5 k6 k7 k8 k9 ⊢
              refine wp_region_ext (by kernel_rfl) (by kernel_rfl) ?_
              repeat (go_big_quiet_step ((go_at_call 30; exact calls_ext (plain_any _ _ _ _))))
              refine wpQuiet_nil ?_
              intro _ hw'
              obtain ⟨nq, rfl⟩ := hw'
              all_goals
                go_wp2_with fail
                go_roundw
                case rel => exact ⟨(j : Int) + 1, by omega, by omega, by go_num, ((HB5.out.only HO5.out).only HOW.out).only (only_ext W nq)⟩
                case measure => simp [intOf]; omega
            · have hh : n'.has q = false := by simpa using hh
              clear hmr
              by_cases hq0 : 0 ≤ q
              · have i3 : decide ((0 : Int) ≤ q) = true := by simpa using hq0
                have i4 : decide (q < (n'.row.length : Int)) = false := by simp [NetM.has] at hh; simp; omega
                go_wp2_with fail
                refine (plook_no _ n' g1 q _ HP.out hh).mono ?_
                rintro e w5 ⟨rfl, ho5⟩
                have hm5 := ho5.blk HM.out (fun e => e)
                have m5 := hm5.cell 2
                have m6 := hm5.lt
                simp at m5
                have HO5 := Lib.hid ho5
                clear ho5 hm5 m2
                go_wp2_with fail
                have kb := Blk.new w5 47 #[.int .i64 0, .int .i64 0, .string ⟨#[]⟩]
                have hOW : Only (fun _ => False) w5 (w5.alloc (.cells #[.int .i64 0, .int .i64 0, .string ⟨#[]⟩] 47)) := (Only.refl _ w5).alloc _
                have k0 := kb.cell 0
                have k1 := kb.cell 1
                have k2 := kb.cell 2
                have k3 := (hOW.cell (p := ⟨w2.heap.size, 2, none⟩) m6 (fun e => e)).trans m5
                have k7 := kb.lt
                have k8 := Nat.lt_of_lt_of_le m6 hOW.size
                simp only [List.getElem?_toArray, List.getElem?_cons_zero, List.getElem?_cons_succ] at k0 k1 k2
                have HOW := Lib.hid hOW
                clear kb hOW m5
                generalize w5.alloc (.cells #[.int .i64 0, .int .i64 0, .string ⟨#[]⟩] 47) = W at HOW k0 k1 k2 k3 k7 k8 ⊢
                refine wp_region_ext (by kernel_rfl) (by kernel_rfl) ?_
                repeat (go_big_quiet_step ((go_at_call 30; exact calls_ext (plain_any _ _ _ _))))
                refine wpQuiet_nil ?_
                intro _ hw'
                obtain ⟨nq, rfl⟩ := hw'
                go_wp2_with fail
                go_roundw
                case rel => exact ⟨q + 1, by omega, by omega, rfl, ((HB5.out.only HO5.out).only HOW.out).only (only_ext W nq)⟩
                case measure => simp [intOf]; omega
              · have i3 : decide ((0 : Int) ≤ q) = false := by simpa using hq0
                have i5 : q < 0 := by omega
                go_wp2_with fail
                refine (plook_no _ n' g1 q _ HP.out hh).mono ?_
                rintro e w5 ⟨rfl, ho5⟩
                have hm5 := ho5.blk HM.out (fun e => e)
                have m5 := hm5.cell 2
                have m6 := hm5.lt
                simp at m5
                have HO5 := Lib.hid ho5
                clear ho5 hm5 m2
                go_wp2_with fail
                have kb := Blk.new w5 47 #[.int .i64 0, .int .i64 0, .string ⟨#[]⟩]
                have hOW : Only (fun _ => False) w5 (w5.alloc (.cells #[.int .i64 0, .int .i64 0, .string ⟨#[]⟩] 47)) := (Only.refl _ w5).alloc _
                have k0 := kb.cell 0
                have k1 := kb.cell 1
                have k2 := kb.cell 2
                have k3 := (hOW.cell (p := ⟨w2.heap.size, 2, none⟩) m6 (fun e => e)).trans m5
                have k7 := kb.lt
                have k8 := Nat.lt_of_lt_of_le m6 hOW.size
                simp only [List.getElem?_toArray, List.getElem?_cons_zero, List.getElem?_cons_succ] at k0 k1 k2
                have HOW := Lib.hid hOW
                clear kb hOW m5
                generalize w5.alloc (.cells #[.int .i64 0, .int .i64 0, .string ⟨#[]⟩] 47) = W at HOW k0 k1 k2 k3 k7 k8 ⊢
                refine wp_region_ext (by kernel_rfl) (by kernel_rfl) ?_
                repeat (go_big_quiet_step ((go_at_call 30; exact calls_ext (plain_any _ _ _ _))))
                refine wpQuiet_nil ?_
                intro _ hw'
                obtain ⟨nq, rfl⟩ := hw'
                go_wp2_with fail
                go_roundw
                case rel => exact ⟨q + 1, by omega, by omega, rfl, ((HB5.out.only HO5.out).only HOW.out).only (only_ext W nq)⟩
                case measure => simp [intOf]; omega
          · go_wp2_with fail
            go_roundw
            case rel => exact ⟨k + 1, hlt, by go_num, n', HB5.out⟩
            case measure => simp [intOf]; omega
    · go_wp2_with fail
      go_ret
      obtain ⟨_, _, _, _, ho, _⟩ := HB.out
      exact ⟨rfl, ho⟩
end Go.Proofs.Ythnjpglpglbbkaa
