/- The program's way from a leaf upwards: a loop over a function. -/
import Derived.Test.YtmjpbomonhjebaaBo4
import Derived.RangeFuncBox
import Derived.RangeFuncLeaves
import Derived.Shelf.Abstract
import Derived.WalkKit
import Derived.OwnWalkIn
import Derived.TacticsInMore
import Derived.LoopNIn
import Derived.LoopIn
import Derived.Maps.AppendAt
namespace Go.Proofs.Ytmjpbomonhjebaa
open Go.RowKit Go.Shelf Go.Lib
attribute [local go_sem] Oper.semAt_some

theorem lvl_eq {n x : Int} (h : thr n x) : ab n x < 0 ∨ level x < level (ab n x) ∧ level (ab n x) ≤ 7 := by
  obtain ⟨h1, h2, h3⟩ := id h
  have := lvl_fin ⟨n.toNat, by omega⟩ ⟨x.toNat, by omega⟩
  simp only [Int.toNat_of_nonneg h2, Int.toNat_of_nonneg (show 0 ≤ n by omega)] at this
  exact this h
theorem ab_pos {n x : Int} (h : ¬ ab n x < 0) : thr n x := Decidable.byContradiction fun hn => h (by rw [ab_of hn]; omega)
theorem Only.grown0 {w w' : World} (h : Only (fun k => ∃ b ∈ ([] : List Bk), b.nw = false ∧ b.g = k) w w') : w.grownBy w' none := ⟨h.os, h.tape, h.output, h.size, fun k hk _ => h.block k hk (by rintro ⟨_, hm, _⟩; cases hm)⟩
theorem bup_ok (n x : Int) (w : World) : Calls Try.prog 125 #[.int .i64 n, .int .i64 x] w fun en w' => ∃ b1 b2, en = .returned (.func (.func 147) #[] #[.pointer (some ⟨b1, 0, none⟩), .pointer (some ⟨b2, 0, none⟩)]) ∧ Mem (Hp.of w) w [fb b2 3 [.one (.int .i64 x)], fb b1 3 [.one (.int .i64 n)]] w' := by
  have hM := Mem.start (Fz.of w)
  refine C_bough_up ?_
  unfold F_bough_up
  ((with_reducible (refine mm_box hM ?_; clear hM; intro _ _ hM; refine mm_box hM ?_; clear hM; intro _ _ hM; refine mop_c trivial ?_)))
  exact ⟨_, _, rfl, hM⟩
def mea (v : Value) : Nat := match v with
  | .int _ k => if k < 0 then 0 else (9 - level k).toNat
  | _ => 0
set_option maxRecDepth 100000 in
set_option maxHeartbeats 1000000 in
theorem up1_in (m : Nat) (hm : 2 ≤ m) (l b1 b2 : Nat) (n x : Int) (W0 : Nat) (J Jx : List Int → World → Prop) (hJ : AbidesFrom W0 J)
    (hY : ∀ pre y W, J pre W → pre.length < (dirF 8 n x).length → YieldAt Fence.wide (m - 1) Try.prog l #[.int .i64 y] W fun e W' =>
      (e = .returned (.bool true) ∧ J (pre ++ [y]) W' ∧ W'.heap[b1]? = W.heap[b1]?) ∨ (e = .returned (.bool false) ∧ Jx (pre ++ [y]) W'))
    (W : World) (l1 : b1 < W.heap.size) (h1 : W.cell? ⟨b1, 0, none⟩ = some (.int .i64 n)) (h2 : W.cell? ⟨b2, 0, none⟩ = some (.int .i64 x)) (h0 : J [] W) :
    CallsIn Fence.wide m Try.prog 147 #[.func (.yield l) #[] #[], .pointer (some ⟨b1, 0, none⟩), .pointer (some ⟨b2, 0, none⟩)] W fun e W' => (∃ v, e = .returned v) ∧
      ((∃ ys, ys = dirF 8 n x ∧ J ys W') ∨ (∃ pre, pre <+: dirF 8 n x ∧ Jx pre W')) := by
  have f1 : Fence.wide.fn 142 := trivial
  have m1 : 1 ≤ m := by omega
  refine callsIn_of_wp Try.func147 rfl trivial ?_ rfl
  simp only [Try.ntmps147, List.size_toArray, List.length_cons, List.length_nil, Nat.reduceAdd, Nat.reduceSub, Array.replicate_succ, Array.replicate_zero, List.push_toArray, List.append_toArray, List.nil_append, List.cons_append]
  gi_wp2_with (gi_at_call 142; refine (callsIn_wide.2 (babove_ok n x _)).mono ?_; rintro e w1 ⟨rfl, hst⟩)
  have hg := Only.grown0 hst.only
  have hb1 : w1.heap[b1]? = W.heap[b1]? ∧ W.heap.size ≤ w1.heap.size := ⟨hg.block b1 l1 (by simp), hg.size⟩
  have hJ1 : J [] w1 := hJ [] W w1 none h0 hg (fun r e => by cases e)
  gi_loopw [4] (fun p wr => ∃ (f : Nat) (y : Int) (pre : List Int), p = .int .i64 (ab n y) ∧ dirF 8 n x = pre ++ dirF f n y ∧ okd f n y = true ∧ J pre wr ∧ wr.heap[b1]? = W.heap[b1]?) (fun p _ => mea p)
  case atStart =>
    exact ⟨8, x, [], rfl, rfl, okd_eq _ _, hJ1, hb1.1⟩
  case round =>
    obtain ⟨f, y, pre, rfl, hx, ho, hJs, hB⟩ := hrel
    have c1 : wr.cell? ⟨b1, 0, none⟩ = some (.int .i64 n) := (World.cell?_of_block (w := W) (a := ⟨b1, 0, none⟩) hB).trans h1
    by_cases hp : ab n y < 0
    · have hq : ¬ 0 ≤ ab n y := by omega
      gi_wp2
      refine ⟨fun _ h => (by cases h), ?_⟩
      gi_wp2
      go_end0
      exact ⟨⟨_, rfl⟩, .inl ⟨pre, by rw [hx, dirF_end hp, List.append_nil], hJs⟩⟩
    · have hq : 0 ≤ ab n y := by omega
      obtain ⟨g, rfl, e2, ho⟩ := dirF_step hp ho
      obtain ⟨fn, tmps, assign, body, hy, hR⟩ := hY pre (ab n y) wr hJs (by rw [hx, e2]; simp)
      gi_wp2
      refine hR.mono ?_
      rintro e W3 (⟨rfl, hJ3, hk3⟩ | ⟨rfl, hJx3⟩)
      · have c3 : W3.cell? ⟨b1, 0, none⟩ = some (.int .i64 n) := (World.cell?_of_block (w := wr) (a := ⟨b1, 0, none⟩) hk3).trans c1
        gi_wp2_with (gi_at_call 142; refine (callsIn_wide.2 (babove_ok n (ab n y) _)).mono ?_; rintro e w4 ⟨rfl, hst4⟩)
        have hg4 := Only.grown0 hst4.only
        have hB3 := hk3.trans hB
        have hl3 : b1 < W3.heap.size := by
          have e : W3.heap[b1]? = some W.heap[b1] := by rw [hB3]; simp [l1]
          exact (Array.getElem?_eq_some_iff.1 e).1
        have hB4 : w4.heap[b1]? = W3.heap[b1]? := hg4.block b1 hl3 (by simp)
        have hJ4 : J (pre ++ [ab n y]) w4 := hJ _ W3 w4 none hJ3 hg4 (fun r e => by cases e)
        go_roundw
        case rel => exact ⟨g, ab n y, pre ++ [ab n y], rfl, by rw [hx, e2]; simp, ho, hJ4, hB4.trans hB3⟩
        case measure =>
          have hp : ¬ ab n y < 0 := by omega
          have ht := ab_thr (ab_pos hp) hp
          have := lvl_eq ht
          have h8 := level_rng (ab n y)
          have h7 := (lvl_eq (ab_pos hp)).resolve_left hp
          show mea (.int .i64 (ab n (ab n y))) < mea (.int .i64 (ab n y))
          simp only [mea]
          rw [if_neg hp]
          split <;> omega
      · gi_wp2
        go_end0
        exact ⟨⟨_, rfl⟩, .inr ⟨pre ++ [ab n y], ⟨dirF g n (ab n y), by rw [hx, e2]; simp⟩, hJx3⟩⟩
theorem up_stops (m : Nat) (hm : 2 ≤ m) (b1 b2 : Nat) (n x : Int) (w : World) (l1 : b1 < w.heap.size) (l2 : b2 < w.heap.size) (h1 : w.cell? ⟨b1, 0, none⟩ = some (.int .i64 n)) (h2 : w.cell? ⟨b2, 0, none⟩ = some (.int .i64 x)) :
    SeqStopsK Fence.wide m Try.prog 147 #[.pointer (some ⟨b1, 0, none⟩), .pointer (some ⟨b2, 0, none⟩)] (fun y : Int => #[Value.int .i64 y]) (fun A B => B.heap[b1]? = A.heap[b1]?) (fun ys => ys = dirF 8 n x) (fun pre => pre <+: dirF 8 n x) (dirF 8 n x).length w := fun l J Jx W hW hJ _ hY h0 =>
  up1_in m hm l b1 b2 n x W.heap.size J Jx hJ hY W (Nat.lt_of_lt_of_le l1 hW.size) ((hW.cell (p := ⟨b1, 0, none⟩) l1).trans h1) ((hW.cell (p := ⟨b2, 0, none⟩) l2).trans h2) h0
theorem Boxed.app2 {W w1 : World} {n₀ n1 B : Nat} {t e : TypeId} {size : Nat} {v v' : Value} {k m : Nat} {xs ys : List Value} {tmp : Obj}
    (hv : Boxed W B t v) (hte : t ≠ e) (hrow : W.ownsRow n₀ e size v k xs) (hn₀ : n₀ ≤ W.heap.size) (hn1 : n1 ≤ n₀) (hB : n1 ≤ B)
    (hown' : w1.ownsRow n₀ e size v' m ys) (hgrow : (W.alloc tmp).grownBy w1 v.ownBlock) :
    Boxed w1 B t v ∧ Boxed (w1.setCell ⟨B, 0, none⟩ v') B t v' ∧ (w1.setCell ⟨B, 0, none⟩ v').ownsRow n₀ e size v' m ys ∧ KeepsOthers W (w1.setCell ⟨B, 0, none⟩ v') ∧ Below n1 W (w1.setCell ⟨B, 0, none⟩ v') ∧ ∀ i, i < n₀ → i ≠ B → (w1.setCell ⟨B, 0, none⟩ v').heap[i]? = W.heap[i]? := by
  have hv1 : Boxed w1 B t v := (hv.alloc tmp).kept hgrow (hv.not_row hte hrow)
  have hge : ∀ j, v.ownBlock = some j → n₀ ≤ j := fun j ej => by
    rcases hrow.2 with ⟨rfl, _⟩ | ⟨g, cap, cur, rfl, hb, _, _⟩
    · simp [Value.ownBlock] at ej
    · obtain rfl : g = j := by simpa [Value.ownBlock] using ej
      exact hb
  refine ⟨hv1, hv1.set v', hown'.kept (grownBy_setCell' w1 B v') (.inr (hv1.not_row hte hown').symm), ?_, ?_, ?_⟩
  · refine ((KeepsOthers.alloc W tmp).trans (KeepsOthers.of_grownBy hgrow fun j o ej hj => ?_)).trans (KeepsOthers.setCell _ _ _)
    rcases (hrow.alloc tmp).2 with ⟨rfl, _⟩ | ⟨g, cap, cur, rfl, _, hgb, _⟩
    · simp [Value.ownBlock] at ej
    · obtain rfl : g = j := by simpa [Value.ownBlock] using ej
      rw [hgb] at hj; cases hj; rfl
  · refine (((Below.refl n1 W).alloc (Nat.le_trans hn1 hn₀) tmp).grown hgrow (by simp; omega) fun j ej => ?_).setCell (p := ⟨B, 0, none⟩) hB v'
    exact Nat.le_trans hn1 (hge j ej)
  · intro i hi hne
    have hs : w1.heap.size ≥ (W.alloc tmp).heap.size := hgrow.size
    rw [World.size_alloc] at hs
    rw [(grownBy_setCell' w1 B v').block i (by omega) (by simpa using hne)]
    rw [hgrow.block i (by rw [World.size_alloc]; omega) (fun e => by have := hge i e.symm; omega)]
    exact Below.heap_alloc W tmp i (by omega)
theorem info3 : (Try.prog.info? 3).map (fun i => (i.zero, i.size, i.bytes)) = some (some (.int .i64 0), 1, 8) := by kernel_rfl
set_option maxRecDepth 100000 in
set_option maxHeartbeats 2000000 in
theorem dir_in (n l : Int) (hl : 0 ≤ l ∧ l < n) (hb : l ≤ 1000000) (w : World) :
    Calls Try.prog 75 #[.int .i64 n, .int .i64 l] w fun e W' => ∃ v, e = .returned v ∧ W'.ownsRow w.heap.size 3 1 v (dirL n l).length ((dirL n l).map (Value.int .i64)) ∧ Below w.heap.size w W' := by
  have hD : dirL n l = dirF 8 n (2 * l) := if_pos hl
  have hlen := dirL_len n l
  rw [hD] at hlen ⊢
  have hw : IntKind.i64.wrap (2 * l) = 2 * l := wrap_in (by omega)
  obtain ⟨i0, hi, hz0, hz1, hz2⟩ := info_parts info3
  have f1 : Fence.wide.fn 125 := trivial
  have hn1 : ¬ l < 0 := by omega
  have hn2 : ¬ n ≤ l := by omega
  have hmx : 9 ≤ maxLen := by decide
  refine (callsIn_wide (n := 8)).1 ?_
  refine callsIn_of_wp_marks Try.func75 rfl trivial ?_ rfl
  simp only [Try.ntmps75, List.size_toArray, List.length_cons, List.length_nil, Nat.reduceAdd, Nat.reduceSub, Array.replicate_succ, Array.replicate_zero, List.push_toArray, List.append_toArray, List.nil_append, List.cons_append]
  gi_wp2_with (gi_at_call 125; refine (callsIn_wide.2 (bup_ok n (2 * l) _)).mono ?_; rintro e w2 ⟨b1, b2, rfl, hM⟩)
  have hgr := Only.grown0 hM.st.only
  have bO : Boxed w2 w.heap.size 69 (.slice none 0 0) := (Boxed.new w _ _).kept hgr (by simp)
  have hsz : w.heap.size + 1 ≤ w2.heap.size := by have := hgr.size; rwa [World.size_alloc] at this
  have hB0 : Below w.heap.size w w2 := ((Below.refl _ w).alloc (Nat.le_refl _) _).trans (hM.st.only.below (by simp) (fun i _ h => by obtain ⟨_, hm, _⟩ := h; cases hm))
  obtain ⟨k1, _⟩ := Mem.blf (g := b1) (hM.upB b1) inferInstance
  obtain ⟨k2, _⟩ := Mem.blf (g := b2) (hM.upB b2) inferInstance
  have hne : b1 ≠ w.heap.size := by
    rintro rfl
    obtain ⟨fr, h1, _⟩ := k1
    rw [show w2.heap[w.heap.size]? = _ from bO] at h1
    simp at h1
  refine wpIn_rangeFunc_ownG rfl (by omega) (gf := 147) (lb := #[.pointer (some ⟨b1, 0, none⟩), .pointer (some ⟨b2, 0, none⟩)]) rfl trivial (enters_of Try.func147 (by kernel_rfl) rfl)
    (up_stops _ (by omega) b1 b2 n (2 * l) w2 k1.lt k2.lt (by rw [k1.cell]; rfl) (by rw [k2.cell]; rfl)) (fun h k => Eq.trans k h) (fun W j o o' hj _ _ _ => ?kb) (Below.refl _ _) (fun _ => rfl)
    (fun pre W => (∃ v, Boxed W w.heap.size 69 v ∧ W.ownsRow w2.heap.size 3 1 v pre.length (pre.map (Value.int .i64)) ∧ True) ∧ Below w.heap.size w W ∧ w2.heap.size ≤ W.heap.size)
    (fun _ _ _ => False)
    (OwnFrom.and (Own.from (holdsRow_own w2.heap.size w.heap.size 69 3 1 (fun pre : List Int => pre.length) (fun pre => pre.map (Value.int .i64)) (fun _ _ => True)) _) (OwnFrom.and (ownFrom_below (Nat.le_refl _) (by omega)) (fun s A B row hs hg hr => Nat.le_trans hs hg.size)))
    (fun _ _ _ _ _ hs _ _ => hs)
    ⟨⟨_, bO, World.ownsRow_nil _ _ _ _, trivial⟩, hB0, Nat.le_refl _⟩
    (fun x => { tmps := #[.int .i64 n, .int .i64 l, undef, undef, .slice none 0 0, .pointer (some ⟨w.heap.size, 0, none⟩), .int .i64 x, .int .i64 l, .bool false, .bool false, .int .i64 l, .int .i64 n, .bool false, .bool false, .int .i64 n, .int .i64 l, .int .i64 (2 * l), .func (.func 147) #[] #[.pointer (some ⟨b1, 0, none⟩), .pointer (some ⟨b2, 0, none⟩)], .int .i64 x, undef, undef, undef, undef, undef], defers := [] }) ?assign ?body ?done ?stop
  case kb => exact (grownBy_putObj' W j o').block b1 (by have := k1.lt; have := (Array.getElem?_eq_some_iff.1 ‹W.heap[j]? = some o›).1; omega) (by have := k1.lt; simp; omega)
  case assign =>
    intro l x W K hK
    gi_wp2
    exact hK
  case body =>
    rintro l pre x W ⟨⟨v, hv, hrow, -⟩, hB, hsw⟩ hlt
    have hc := hv.cell
    gi_wp2_with (gi_at_builtin; refine wpListIn_append_own _ rfl _ _ 69 rfl w2.heap.size 3 i0 (.int .i64 0) 1 8 (by kernel_rfl) hi hz0 hz1 hz2 rfl (by decide) _ _ _ rfl (hrow.alloc _) ⟨W.heap.size, 0, none⟩ 1 1 [.int .i64 x] rfl rfl (cell_one_new _ _ _) (by simp [Value.oneCell']) (by omega) (by omega) (by simp; omega) ?_; intro v' w1 hown' hgrow _; obtain ⟨g', cap', rfl⟩ := ownsRow_succ hown'; obtain ⟨hv1, hv2, hr2, hk2, hb2, hx2⟩ := Boxed.app2 hv (n1 := w.heap.size) (by decide) hrow hsw (by omega) (Nat.le_refl _) hown' hgrow; have hc1 := hv1.cell; have hf1 := hv1.frozen)
    exact ⟨hk2.from _, hx2 b1 k1.lt hne, ⟨_, hv2, by simpa using hr2, trivial⟩, hB.trans hb2, Nat.le_trans hsw hb2.size⟩
  case done =>
    rintro D ys W hD rfl ⟨⟨v, hv, hrow, -⟩, hB, hsw⟩ hK
    have hc := hv.cell
    gi_wp2
    refine ⟨by simp, .inl ⟨_, _, rfl, run_takeDeferred hK, ?_⟩⟩
    exact ⟨_, results_tmp rfl _ _ _, v, rfl, ⟨(ownsRow_putObj hrow (.deferred none) hK rfl).1, (ownsRow_putObj hrow (.deferred none) hK rfl).2.imp id fun ⟨g, cap, cur, h1, h2, h3⟩ => ⟨g, cap, cur, h1, by omega, h3⟩⟩, hB.trans (belowK_b (w := w) (Nat.le_refl _) W D _ _ (by omega) hK rfl rfl)⟩
  case stop =>
    rintro D c pre W _ _ h _
    exact h.elim
set_option maxRecDepth 100000 in
set_option maxHeartbeats 2000000 in
theorem dir_nil (n l : Int) (hl : l < 0 ∨ n ≤ l) (w : World) : Calls Try.prog 75 #[.int .i64 n, .int .i64 l] w fun e W' => e = .returned (.slice none 0 0) ∧ Below w.heap.size w W' := by
  refine (callsIn_wide (n := 8)).1 ?_
  refine callsIn_of_wp_marks Try.func75 rfl trivial ?_ rfl
  simp only [Try.ntmps75, List.size_toArray, List.length_cons, List.length_nil, Nat.reduceAdd, Nat.reduceSub, Array.replicate_succ, Array.replicate_zero, List.push_toArray, List.append_toArray, List.nil_append, List.cons_append]
  by_cases h1 : l < 0
  · gi_wp2
    exact ⟨_, results_tmp rfl _ _ _, rfl, Below.refl _ _⟩
  · have h2 : n ≤ l := by omega
    gi_wp2
    exact ⟨_, results_tmp rfl _ _ _, rfl, Below.refl _ _⟩
theorem fls_ints8 (l : List Int) : fls (ints8 l) = l.map (Value.int .i64) := by
  induction l with
  | nil => rfl
  | cons x r ih =>
    show fls ([.one (.int .i64 x)] :: ints8 r) = _
    rw [fls_cons, ih]
    rfl
/-- What a function of the kit's kind made, frozen. -/
theorem own_out {H : Hp} {w W' : World} {e : TypeId} {v : Value} {D : List Int} (hf : Fz H w) (ho : W'.ownsRow w.heap.size e 1 v D.length (D.map (Value.int .i64))) (hb : Below w.heap.size w W') :
    Outp H w (fun H' v => ∃ A cap, v = .slice A D.length cap ∧ Sl H' 1 A (ints8 D)) (.returned v) W' := by
  have hst : St w [] W' := ⟨(fun _ h => by cases h), .nil, (fun _ h => by cases h), Only.of_below hb fun i hi hge => by omega⟩
  have hF : ∀ b c, H b = some c → ∃ t fr, W'.heap[b]? = some (.cells c t fr) := fun b c hc => by
    obtain ⟨t, fr, h⟩ := hf b c hc
    exact ⟨t, fr, (hb.block b (hf.lt hc)).trans h⟩
  rcases ho.2 with ⟨rfl, hn⟩ | ⟨g, cap, cur, rfl, hge, hgb, hnc, hcm, hsz, htk⟩
  · have hD : D = [] := List.eq_nil_of_length_eq_zero hn
    subst hD
    exact ⟨_, H, rfl, Le.refl _ _, ⟨⟨[], rfl, hst, fun _ h => by cases h⟩, hF⟩, none, 0, rfl, Sl.nil _ _ _⟩
  · have hg0 : H g = none := by
      cases hh : H g with
      | none => rfl
      | some c => have := hf.lt hh; omega
    refine ⟨_, fun k => if k = g then some cur else H k, rfl, ⟨fun b c hc => ?_, fun b hb' hn => ?_⟩, ⟨⟨[], rfl, hst, fun _ h => by cases h⟩, fun b c hc => ?_⟩, some ⟨g, 0, none⟩, cap, rfl, els_ints8 D, .inr ⟨g, 0, cur, rfl, if_pos rfl, fun j u hu => ?_⟩⟩
    · show (if b = g then some cur else H b) = some c
      rw [if_neg (by rintro rfl; rw [hg0] at hc; cases hc)]
      exact hc
    · show (if b = g then some cur else H b) = none
      rw [if_neg (by omega)]
      exact hn
    · have hc : (if b = g then some cur else H b) = some c := hc
      by_cases e : b = g
      · rw [if_pos e] at hc
        cases hc
        exact ⟨_, _, by rw [e]; exact hgb⟩
      · rw [if_neg e] at hc
        exact hF b c hc
    · rw [fls_ints8, ← htk] at hu
      rw [Nat.zero_add, ← Array.getElem?_toList]
      rw [List.getElem?_take] at hu
      split at hu
      · exact hu
      · cases hu
theorem bdirect_ok {H : Hp} {w : World} (n l : Int) (hb : l ≤ 1000000) (hf : Fz H w) : Calls Try.prog 75 #[.int .i64 n, .int .i64 l] w (Outp H w (fun H' v => ∃ A cap, v = .slice A (dirL n l).length cap ∧ Sl H' 1 A (ints8 (dirL n l)))) := by
  by_cases hl : 0 ≤ l ∧ l < n
  · refine (dir_in n l hl hb w).mono ?_
    rintro e W' ⟨v, rfl, ho, hB⟩
    exact own_out hf ho hB
  · refine (dir_nil n l (by omega) w).mono ?_
    rintro e W' ⟨rfl, hB⟩
    have : dirL n l = [] := if_neg hl
    rw [this]
    exact own_out (e := 3) (D := []) hf ⟨rfl, .inl ⟨rfl, rfl⟩⟩ hB
theorem rdirect_out {H : Hp} {w : World} (n l : Int) (hb : -1000000 ≤ l ∧ l ≤ 1000000) (hf : Fz H w) : Calls Try.prog 97 #[.int .i64 n, .int .i64 l] w (Outp H w (fun H' v => ∃ A cap, v = .slice A (dirL n l).length cap ∧ Sl H' 1 A (ints8 (dirL n l)))) := by
  refine (rdirect_ok n l hb (Mem.start hf)).mono ?_
  rintro e w' ⟨v, rfl, A, cap, rfl, hM⟩
  obtain ⟨H', hl, hM, hs, _⟩ := hM.fz0
  exact hM.out hl ⟨A, cap, rfl, hs⟩
end Go.Proofs.Ytmjpbomonhjebaa
