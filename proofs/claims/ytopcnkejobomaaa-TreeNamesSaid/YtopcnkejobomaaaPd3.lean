/- Part 3 of the proof. -/
import Derived.Test.YtopcnkejobomaaaPd2
import Derived.RangeFuncBox
import Derived.RangeFuncLeaves
import Derived.Shelf.Abstract
import Derived.WalkKit
import Derived.OwnWalkIn
import Derived.TacticsInMore
import Derived.LoopNIn
import Derived.LoopIn
import Derived.Maps.AppendAt
import Derived.Lib.AppendZerosOnto
import Derived.Lib.Overlaps
namespace Go.Proofs.Ytopcnkejobomaaa
open Go.RowKit Go.Lib
theorem okd_eq (n x : Int) : okd 8 n x = true := by
  by_cases h : thr n x
  · obtain ⟨h1, h2, h3⟩ := id h
    have := okd_fin ⟨n.toNat, by omega⟩ ⟨x.toNat, by omega⟩
    simp only [Int.toNat_of_nonneg h2, Int.toNat_of_nonneg (show 0 ≤ n by omega)] at this
    exact this h
  · simp [okd, ab_of h]
theorem dirF_end {f : Nat} {n x : Int} (h : ab n x < 0) : dirF f n x = [] := by
  cases f with
  | zero => rfl
  | succ f => rw [dirF, if_pos h]
theorem dirF_step {f : Nat} {n x : Int} (h : ¬ ab n x < 0) (ho : okd f n x = true) : ∃ g, f = g + 1 ∧ dirF f n x = ab n x :: dirF g n (ab n x) ∧ okd g n (ab n x) = true := by
  cases f with
  | zero => simp [okd] at ho; omega
  | succ f =>
    simp only [okd, Bool.or_eq_true, decide_eq_true_eq] at ho
    exact ⟨f, rfl, by rw [dirF, if_neg h], ho.resolve_left h⟩
theorem dirF_len : ∀ (f : Nat) (n x : Int), (dirF f n x).length ≤ f
  | 0, n, x => by simp [dirF]
  | f + 1, n, x => by
    rw [dirF]
    split
    · simp
    · have := dirF_len f n (ab n x)
      simp only [List.length_cons]
      omega
theorem dirL_len (n l : Int) : (dirL n l).length ≤ 8 := by
  unfold dirL
  split
  · exact dirF_len 8 n _
  · simp
abbrev ints8 (l : List Int) : List (List Fd) := l.map fun x => [.one (.int .i64 x)]
theorem ints8_app (a b : List Int) : ints8 (a ++ b) = ints8 a ++ ints8 b := by simp [ints8]
theorem els_ints8 (l : List Int) : Els 1 (ints8 l) := Els.map (f := fun x => [.one (.int .i64 x)]) l fun _ => ⟨inferInstance, rfl⟩
theorem ints8_at {l : List Int} {i : Nat} (h : i < l.length) : (ints8 l)[i]? = some [.one (.int .i64 l[i])] := by simp [ints8, h]
section
variable {H : Hp} {w0 w : World} {L : List Res}
theorem rdirect_ok (n l : Int) (hn : -1000000 ≤ l ∧ l ≤ 1000000) (hM : Mem H w0 L w) : Calls Try.prog 58 #[.int .i64 n, .int .i64 l] w fun en w' => ∃ v, en = .returned v ∧ ∃ A cap, v = .slice A (dirL n l).length cap ∧ Mem H w0 (rowR 3 1 A (dirL n l).length cap (ints8 (dirL n l)) :: L) w' := by
  refine C_bevyref07_Direct ?_
  unfold F_bevyref07_Direct
  refine ⟨fun v w' => v = .bool (decide ((l < 0 ∨ n ≤ l) ∨ ¬ thr n 0)) ∧ hM.now w', ?_, ?_⟩
  · ((with_reducible (refine mop_cS trivial ?_ ?_)))
    · intro h
      ((with_reducible ((iterate 3 refine mguard_n1 ?_); refine mop_c trivial ?_; (iterate 3 refine mguard_n1 ?_); refine mop_c trivial ?_)))
      exact ⟨by rw [decide_eq_true (.inl (.inl h))], hM⟩
    · intro h
      ((with_reducible (refine mguard_yes ?_; refine mop_c trivial ?_; refine mguard_yes ?_; refine mop_c trivial ?_; refine mguard_yes ?_)))
      ((with_reducible (refine mop_cS trivial ?_ ?_)))
      · intro h2
        ((with_reducible (refine mop_c trivial ?_; (iterate 3 refine mguard_n1 ?_); refine mop_c trivial ?_)))
        exact ⟨by rw [decide_eq_true (.inl (.inr h2))], hM⟩
      · intro h2
        by_cases ht : thr n 0
        · ((with_reducible (refine mop_c trivial ?_; refine mguard_yes ?_; refine mop_c trivial ?_; refine mguard_yes ?_; refine mm_purC hM ?_ (fun _ hM2 => ?_))); (focus (first | exact trivial | assumption | omega)); (with_reducible (replace hM := hM2; clear hM2; refine mguard_yes ?_; refine mop_c trivial ?_; refine mop_c trivial ?_)))
          rw [decide_eq_true ht]
          skip
          exact ⟨by rw [decide_eq_false (by simp [ht]; omega)]; rfl, hM⟩
        · ((with_reducible (refine mop_c trivial ?_; refine mguard_yes ?_; refine mop_c trivial ?_; refine mguard_yes ?_; refine mm_purC hM ?_ (fun _ hM2 => ?_))); (focus (first | exact trivial | assumption | omega)); (with_reducible (replace hM := hM2; clear hM2; refine mguard_yes ?_; refine mop_c trivial ?_; refine mop_c trivial ?_)))
          rw [decide_eq_false ht]
          skip
          exact ⟨by rw [decide_eq_true (.inr ht)]; rfl, hM⟩
  rintro v u w2 ⟨rfl, hM⟩
  by_cases hc : (l < 0 ∨ n ≤ l) ∨ ¬ thr n 0
  · have he : dirL n l = [] := by
      unfold dirL
      by_cases hl : 0 ≤ l ∧ l < n
      · rw [if_pos hl]
        have ht : ¬ thr n 0 := hc.resolve_left (by omega)
        refine dirF_end ?_
        rw [ab_of (fun h => ht ⟨h.1, by omega⟩)]
        omega
      · rw [if_neg hl]
    rw [decide_eq_true hc, he]
    ((with_reducible (refine mif_true ?_)))
    exact ⟨_, rfl, _, _, rfl, hM.row0 _ _⟩
  · rw [decide_eq_false hc]
    have hd : dirL n l = dirF 8 n (2 * l) := by unfold dirL; rw [if_pos (by omega)]
    rw [hd]
    ((with_reducible (refine mif_false ?_; refine mop_c ?_ ?_)); (focus omega); (with_reducible (refine mm_purC hM ?_ ?_)); (focus (first | exact trivial | assumption | omega)); (with_reducible (clear hM; intro _ hM)))
    refine ⟨fun v u w' => ∃ (f : Nat) (y : Int) (pre : List Int) (A : Option Addr) (cap : Nat), v = .slice A pre.length cap ∧ u = .int .i64 (ab n y) ∧ f + pre.length = 8 ∧ dirF 8 n (2 * l) = pre ++ dirF f n y ∧ okd f n y = true ∧ Mem H w0 (rowR 3 1 A pre.length cap (ints8 pre) :: L) w', fun v _ _ => match v with | .slice _ k _ => 8 - k | _ => 0, ⟨8, 2 * l, [], none, 0, rfl, rfl, rfl, rfl, okd_eq _ _, hM.row0 _ _⟩, ?_⟩
    clear hM
    rintro v u i w3 ⟨f, y, pre, A, cap, rfl, rfl, hf, he, ho, hM⟩
    ((with_reducible (refine mop_cS trivial ?_ ?_)))
    · intro h
      obtain ⟨g, rfl, e2, ho⟩ := dirF_step (by omega) ho
      ((with_reducible (refine mif_true ?_; refine mm_bsl hM ?_ ?_ ?_)); (focus rfl); (focus (constructor <;> simp)); (with_reducible (clear hM; intro _ _ hM; refine mm_appo hM ?_ ?_)); (focus omega); (with_reducible (clear hM; intro _ _ _ hM; refine mm_purC hM ?_ ?_)); (focus (first | exact trivial | assumption | omega)); (with_reducible (clear hM; intro _ hM)))
      rename_i _ _ A2 cap2 _ _
      refine ⟨⟨g, ab n y, pre ++ [ab n y], A2, cap2, by simp, rfl, by simp; omega, by rw [he, e2]; simp, ho, ?_⟩, by simp only; omega⟩
      rw [ints8_app, List.length_append]
      exact hM
    · intro h
      ((with_reducible (refine mif_false ?_)))
      rw [he, dirF_end (by omega), List.append_nil]
      exact ⟨_, rfl, _, _, rfl, hM⟩
end
end Go.Proofs.Ytopcnkejobomaaa
namespace Go.Proofs.Ytopcnkejobomaaa
open Go.RowKit
structure Lf where
  name : Int
  pub : H32
  ver : H32
  abv : H32
deriving DecidableEq
abbrev Lf.fds (l : Lf) : List Fd := [.one (.int .i64 l.name), .arr 32 (u8s l.pub.1), .arr 32 (u8s l.ver.1), .arr 32 (u8s l.abv.1)]
abbrev lv (l : Lf) : Value := .agg (fl l.fds).toArray
def Lf.zero : Lf := ⟨0, hzero, hzero, hzero⟩
structure Pn where
  set : Bool
  pub : H32
  abv : H32
  loose : List Int
deriving DecidableEq
def Pn.zero : Pn := ⟨false, hzero, hzero, []⟩
structure Tr where
  ls : List Lf
  ps : List Pn
deriving DecidableEq
def Tr.none : Tr := ⟨[], []⟩
def nameAt (ls : List Lf) (p : Int) : Int := match ls[p.toNat]? with
  | some l => l.name
  | none => 0
def leavesB : List Int → List Lf → Bool
  | _, [] => true
  | s, l :: r => if l = Lf.zero then leavesB s r else decide ((1 ≤ l.name ∧ l.name ≤ 64) ∧ l.name ∉ s) && leavesB (l.name :: s) r
def looseB (n : Int) (ls : List Lf) (x : Int) : Option Int → List Int → Bool
  | _, [] => true
  | o, p :: r => decide (hld n x p ∧ nameAt ls p ≠ 0 ∧ ∀ q ∈ o, q < p) && looseB n ls x (some p) r
def Pn.isZero (p : Pn) : Prop := p.set = false ∧ p.pub = hzero ∧ p.abv = hzero ∧ p.loose = []
instance (p : Pn) : Decidable p.isZero := by unfold Pn.isZero; infer_instance
def parB (n : Int) (ls : List Lf) : Int → List Pn → Bool
  | _, [] => true
  | x, p :: r => (p.set || decide p.isZero) && looseB n ls x none p.loose && parB n ls (x + 2) r
abbrev Tr.size (t : Tr) : Int := t.ls.length
def Tr.right (t : Tr) : Bool := decide (t.ls.length ≤ 64 ∧ t.ps.length = t.ls.length - 1) && leavesB [] t.ls && parB t.size t.ls 1 t.ps && decide (t.ls = [] ∨ 0 < nameAt t.ls (t.size - 1))
abbrev Pn.row (p : Pn) (C : Option Addr) (c : Nat) : List Fd := [.one (.bool p.set), .arr 32 (u8s p.pub.1), .arr 32 (u8s p.abv.1), .one (.slice C p.loose.length c)]
def PnF (H : Hp) (q : List Fd) (p : Pn) : Prop := ∃ C c, q = p.row C c ∧ Sl H 1 C (ints8 p.loose) ∧ p.loose.length ≤ maxLen
theorem PnF.mono {H H' : Hp} {q : List Fd} {p : Pn} (h : PnF H q p) (k : H.le H') : PnF H' q p := by
  obtain ⟨C, c, h1, h2, h3⟩ := h
  exact ⟨C, c, h1, h2.mono k, h3⟩
theorem All2.mono {α : Type} {r r' : List Fd → α → Prop} (h : ∀ q x, r q x → r' q x) : ∀ {ps : List (List Fd)} {xs : List α}, All2 r ps xs → All2 r' ps xs
  | [], [], _ => trivial
  | _ :: _, _ :: _, k => ⟨h _ _ k.1, k.2.mono h⟩
  | [], _ :: _, k => k.elim
  | _ :: _, [], k => k.elim
theorem All2.at_ {α : Type} {r : List Fd → α → Prop} : ∀ {ps : List (List Fd)} {xs : List α}, All2 r ps xs → ∀ {i : Nat} (h : i < xs.length), ∃ q, ps[i]? = some q ∧ r q xs[i]
  | [], [], _, i, h => by cases h
  | q :: ps, x :: xs, k, 0, _ => ⟨q, rfl, k.1⟩
  | q :: ps, x :: xs, k, i + 1, h => by
    obtain ⟨q', h1, h2⟩ := k.2.at_ (i := i) (by simpa using h)
    exact ⟨q', by simpa using h1, by simpa using h2⟩
  | [], _ :: _, k, _, _ => k.elim
  | _ :: _, [], k, _, _ => k.elim
abbrev tfd (A : Option Addr) (n a : Nat) (B : Option Addr) (m b : Nat) : List Fd := [.one (.slice A n a), .one (.slice B m b)]
abbrev tv (A : Option Addr) (n a : Nat) (B : Option Addr) (m b : Nat) : Value := .agg (fl (tfd A n a B m b)).toArray
theorem lf_zero (l : Lf) : l = Lf.zero ↔ (l.name = 0 ∧ l.pub = hzero ∧ l.ver = hzero ∧ l.abv = hzero) := by
  cases l
  simp [Lf.zero]
theorem nameAt_get {ls : List Lf} {i : Nat} (h : i < ls.length) : nameAt ls i = ls[i].name := by
  unfold nameAt
  simp [h]
structure TrF (H : Hp) (v : Value) (t : Tr) : Prop where
  ex : ∃ A a B b qs, v = tv A t.ls.length a B t.ps.length b ∧ Sl H 97 A (t.ls.map Lf.fds) ∧ Sl H 66 B qs ∧ All2 (PnF H) qs t.ps
  len : t.ls.length ≤ maxLen ∧ t.ps.length ≤ maxLen
theorem TrF.mono {H H' : Hp} {v : Value} {t : Tr} (h : TrF H v t) (k : H.le H') : TrF H' v t := by
  obtain ⟨A, a, B, b, qs, h1, h2, h3, h4⟩ := h.ex
  exact ⟨⟨A, a, B, b, qs, h1, h2.mono k, h3.mono k, h4.mono fun _ _ h => h.mono k⟩, h.len⟩
end Go.Proofs.Ytopcnkejobomaaa
namespace Go.Proofs.Ytopcnkejobomaaa
open Go.RowKit
theorem rdr_i64 : Rdr Try.prog 3 1 (fun _ fs (x : Int) => fs = [.one (.int .i64 x)] ∧ (Lit.int .i64 x).wf = true) := rdr_int Try.underlying3 (by kernel_rfl)
theorem rdr_u8 : Rdr Try.prog 5 1 (fun _ fs (x : Int) => fs = [.one (.int .u8 x)] ∧ (Lit.int .u8 x).wf = true) := rdr_int Try.underlying5 (by kernel_rfl)
end Go.Proofs.Ytopcnkejobomaaa
namespace Go.Proofs.Ytopcnkejobomaaa
open Go.RowKit Go.Shelf Go.Lib
attribute [local go_sem] Oper.semAt_some
theorem lvl_eq {n x : Int} (h : thr n x) : ab n x < 0 ∨ level x < level (ab n x) ∧ level (ab n x) ≤ 7 := by
  obtain ⟨h1, h2, h3⟩ := id h
  have := lvl_fin ⟨n.toNat, by omega⟩ ⟨x.toNat, by omega⟩
  simp only [Int.toNat_of_nonneg h2, Int.toNat_of_nonneg (show 0 ≤ n by omega)] at this
  exact this h
theorem ab_pos {n x : Int} (h : ¬ ab n x < 0) : thr n x := Decidable.byContradiction fun hn => h (by rw [ab_of hn]; omega)
theorem Only.grown0 {w w' : World} (h : Only (fun k => ∃ b ∈ ([] : List Bk), b.nw = false ∧ b.g = k) w w') : w.grownBy w' none := ⟨h.os, h.tape, h.output, h.size, fun k hk _ => h.block k hk (by rintro ⟨_, hm, _⟩; cases hm)⟩
theorem bup_ok (n x : Int) (w : World) : Calls Try.prog 108 #[.int .i64 n, .int .i64 x] w fun en w' => ∃ b1 b2, en = .returned (.func (.func 132) #[] #[.pointer (some ⟨b1, 0, none⟩), .pointer (some ⟨b2, 0, none⟩)]) ∧ Mem (Hp.of w) w [fb b2 3 [.one (.int .i64 x)], fb b1 3 [.one (.int .i64 n)]] w' := by
  have hM := Mem.start (Fz.of w)
  refine C_bough_up ?_
  unfold F_bough_up
  ((with_reducible (refine mm_box hM ?_; clear hM; intro _ _ hM; refine mm_box hM ?_; clear hM; intro _ _ hM; refine mop_c trivial ?_)))
  exact ⟨_, _, rfl, hM⟩
def mea (v : Value) : Nat := match v with
  | .int _ k => if k < 0 then 0 else (9 - level k).toNat
  | _ => 0
set_option maxRecDepth 100000 in
set_option maxHeartbeats 1000000 in
theorem up1_in (m : Nat) (hm : 2 ≤ m) (l b1 b2 : Nat) (n x : Int) (W0 : Nat) (J Jx : List Int → World → Prop) (hJ : AbidesFrom W0 J)
    (hY : ∀ pre y W, J pre W → pre.length < (dirF 8 n x).length → YieldAt Fence.wide (m - 1) Try.prog l #[.int .i64 y] W fun e W' =>
      (e = .returned (.bool true) ∧ J (pre ++ [y]) W' ∧ W'.heap[b1]? = W.heap[b1]?) ∨ (e = .returned (.bool false) ∧ Jx (pre ++ [y]) W'))
    (W : World) (l1 : b1 < W.heap.size) (h1 : W.cell? ⟨b1, 0, none⟩ = some (.int .i64 n)) (h2 : W.cell? ⟨b2, 0, none⟩ = some (.int .i64 x)) (h0 : J [] W) :
    CallsIn Fence.wide m Try.prog 132 #[.func (.yield l) #[] #[], .pointer (some ⟨b1, 0, none⟩), .pointer (some ⟨b2, 0, none⟩)] W fun e W' => (∃ v, e = .returned v) ∧
      ((∃ ys, ys = dirF 8 n x ∧ J ys W') ∨ (∃ pre, pre <+: dirF 8 n x ∧ Jx pre W')) := by
  have f1 : Fence.wide.fn 109 := trivial
  have m1 : 1 ≤ m := by omega
  refine callsIn_of_wp Try.func132 rfl trivial ?_ rfl
  simp only [Try.ntmps132, List.size_toArray, List.length_cons, List.length_nil, Nat.reduceAdd, Nat.reduceSub, Array.replicate_succ, Array.replicate_zero, List.push_toArray, List.append_toArray, List.nil_append, List.cons_append]
  gi_wp2_with (gi_at_call 109; refine (callsIn_wide.2 (babove_ok n x _)).mono ?_; rintro e w1 ⟨rfl, hst⟩)
  have hg := Only.grown0 hst.only
  have hb1 : w1.heap[b1]? = W.heap[b1]? ∧ W.heap.size ≤ w1.heap.size := ⟨hg.block b1 l1 (by simp), hg.size⟩
  have hJ1 : J [] w1 := hJ [] W w1 none h0 hg (fun r e => by cases e)
  gi_loopw [4] (fun p wr => ∃ (f : Nat) (y : Int) (pre : List Int), p = .int .i64 (ab n y) ∧ dirF 8 n x = pre ++ dirF f n y ∧ okd f n y = true ∧ J pre wr ∧ wr.heap[b1]? = W.heap[b1]?) (fun p _ => mea p)
  case atStart =>
    exact ⟨8, x, [], rfl, rfl, okd_eq _ _, hJ1, hb1.1⟩
  case round =>
    obtain ⟨f, y, pre, rfl, hx, ho, hJs, hB⟩ := hrel
    have c1 : wr.cell? ⟨b1, 0, none⟩ = some (.int .i64 n) := (World.cell?_of_block (w := W) (a := ⟨b1, 0, none⟩) hB).trans h1
    by_cases hp : ab n y < 0
    · have hq : ¬ 0 ≤ ab n y := by omega
      gi_wp2
      refine ⟨fun _ h => (by cases h), ?_⟩
      gi_wp2
      go_end0
      exact ⟨⟨_, rfl⟩, .inl ⟨pre, by rw [hx, dirF_end hp, List.append_nil], hJs⟩⟩
    · have hq : 0 ≤ ab n y := by omega
      obtain ⟨g, rfl, e2, ho⟩ := dirF_step hp ho
      obtain ⟨fn, tmps, assign, body, hy, hR⟩ := hY pre (ab n y) wr hJs (by rw [hx, e2]; simp)
      gi_wp2
      refine hR.mono ?_
      rintro e W3 (⟨rfl, hJ3, hk3⟩ | ⟨rfl, hJx3⟩)
      · have c3 : W3.cell? ⟨b1, 0, none⟩ = some (.int .i64 n) := (World.cell?_of_block (w := wr) (a := ⟨b1, 0, none⟩) hk3).trans c1
        gi_wp2_with (gi_at_call 109; refine (callsIn_wide.2 (babove_ok n (ab n y) _)).mono ?_; rintro e w4 ⟨rfl, hst4⟩)
        have hg4 := Only.grown0 hst4.only
        have hB3 := hk3.trans hB
        have hl3 : b1 < W3.heap.size := by
          have e : W3.heap[b1]? = some W.heap[b1] := by rw [hB3]; simp [l1]
          exact (Array.getElem?_eq_some_iff.1 e).1
        have hB4 : w4.heap[b1]? = W3.heap[b1]? := hg4.block b1 hl3 (by simp)
        have hJ4 : J (pre ++ [ab n y]) w4 := hJ _ W3 w4 none hJ3 hg4 (fun r e => by cases e)
        go_roundw
        case rel => exact ⟨g, ab n y, pre ++ [ab n y], rfl, by rw [hx, e2]; simp, ho, hJ4, hB4.trans hB3⟩
        case measure =>
          have hp : ¬ ab n y < 0 := by omega
          have ht := ab_thr (ab_pos hp) hp
          have := lvl_eq ht
          have h8 := level_rng (ab n y)
          have h7 := (lvl_eq (ab_pos hp)).resolve_left hp
          show mea (.int .i64 (ab n (ab n y))) < mea (.int .i64 (ab n y))
          simp only [mea]
          rw [if_neg hp]
          split <;> omega
      · gi_wp2
        go_end0
        exact ⟨⟨_, rfl⟩, .inr ⟨pre ++ [ab n y], ⟨dirF g n (ab n y), by rw [hx, e2]; simp⟩, hJx3⟩⟩
theorem up_stops (m : Nat) (hm : 2 ≤ m) (b1 b2 : Nat) (n x : Int) (w : World) (l1 : b1 < w.heap.size) (l2 : b2 < w.heap.size) (h1 : w.cell? ⟨b1, 0, none⟩ = some (.int .i64 n)) (h2 : w.cell? ⟨b2, 0, none⟩ = some (.int .i64 x)) :
    SeqStopsK Fence.wide m Try.prog 132 #[.pointer (some ⟨b1, 0, none⟩), .pointer (some ⟨b2, 0, none⟩)] (fun y : Int => #[Value.int .i64 y]) (fun A B => B.heap[b1]? = A.heap[b1]?) (fun ys => ys = dirF 8 n x) (fun pre => pre <+: dirF 8 n x) (dirF 8 n x).length w := fun l J Jx W hW hJ _ hY h0 =>
  up1_in m hm l b1 b2 n x W.heap.size J Jx hJ hY W (Nat.lt_of_lt_of_le l1 hW.size) ((hW.cell (p := ⟨b1, 0, none⟩) l1).trans h1) ((hW.cell (p := ⟨b2, 0, none⟩) l2).trans h2) h0
theorem Boxed.app2 {W w1 : World} {n₀ n1 B : Nat} {t e : TypeId} {size : Nat} {v v' : Value} {k m : Nat} {xs ys : List Value} {tmp : Obj}
    (hv : Boxed W B t v) (hte : t ≠ e) (hrow : W.ownsRow n₀ e size v k xs) (hn₀ : n₀ ≤ W.heap.size) (hn1 : n1 ≤ n₀) (hB : n1 ≤ B)
    (hown' : w1.ownsRow n₀ e size v' m ys) (hgrow : (W.alloc tmp).grownBy w1 v.ownBlock) :
    Boxed w1 B t v ∧ Boxed (w1.setCell ⟨B, 0, none⟩ v') B t v' ∧ (w1.setCell ⟨B, 0, none⟩ v').ownsRow n₀ e size v' m ys ∧ KeepsOthers W (w1.setCell ⟨B, 0, none⟩ v') ∧ Below n1 W (w1.setCell ⟨B, 0, none⟩ v') ∧ ∀ i, i < n₀ → i ≠ B → (w1.setCell ⟨B, 0, none⟩ v').heap[i]? = W.heap[i]? := by
  have hv1 : Boxed w1 B t v := (hv.alloc tmp).kept hgrow (hv.not_row hte hrow)
  have hge : ∀ j, v.ownBlock = some j → n₀ ≤ j := fun j ej => by
    rcases hrow.2 with ⟨rfl, _⟩ | ⟨g, cap, cur, rfl, hb, _, _⟩
    · simp [Value.ownBlock] at ej
    · obtain rfl : g = j := by simpa [Value.ownBlock] using ej
      exact hb
  refine ⟨hv1, hv1.set v', hown'.kept (grownBy_setCell' w1 B v') (.inr (hv1.not_row hte hown').symm), ?_, ?_, ?_⟩
  · refine ((KeepsOthers.alloc W tmp).trans (KeepsOthers.of_grownBy hgrow fun j o ej hj => ?_)).trans (KeepsOthers.setCell _ _ _)
    rcases (hrow.alloc tmp).2 with ⟨rfl, _⟩ | ⟨g, cap, cur, rfl, _, hgb, _⟩
    · simp [Value.ownBlock] at ej
    · obtain rfl : g = j := by simpa [Value.ownBlock] using ej
      rw [hgb] at hj; cases hj; rfl
  · refine (((Below.refl n1 W).alloc (Nat.le_trans hn1 hn₀) tmp).grown hgrow (by simp; omega) fun j ej => ?_).setCell (p := ⟨B, 0, none⟩) hB v'
    exact Nat.le_trans hn1 (hge j ej)
  · intro i hi hne
    have hs : w1.heap.size ≥ (W.alloc tmp).heap.size := hgrow.size
    rw [World.size_alloc] at hs
    rw [(grownBy_setCell' w1 B v').block i (by omega) (by simpa using hne)]
    rw [hgrow.block i (by rw [World.size_alloc]; omega) (fun e => by have := hge i e.symm; omega)]
    exact Below.heap_alloc W tmp i (by omega)
theorem info3 : (Try.prog.info? 3).map (fun i => (i.zero, i.size, i.bytes)) = some (some (.int .i64 0), 1, 8) := by kernel_rfl
set_option maxRecDepth 100000 in
set_option maxHeartbeats 2000000 in
theorem dir_in (n l : Int) (hl : 0 ≤ l ∧ l < n) (hb : l ≤ 1000000) (w : World) :
    Calls Try.prog 60 #[.int .i64 n, .int .i64 l] w fun e W' => ∃ v, e = .returned v ∧ W'.ownsRow w.heap.size 3 1 v (dirL n l).length ((dirL n l).map (Value.int .i64)) ∧ Below w.heap.size w W' := by
  have hD : dirL n l = dirF 8 n (2 * l) := if_pos hl
  have hlen := dirL_len n l
  rw [hD] at hlen ⊢
  have hw : IntKind.i64.wrap (2 * l) = 2 * l := wrap_in (by omega)
  obtain ⟨i0, hi, hz0, hz1, hz2⟩ := info_parts info3
  have f1 : Fence.wide.fn 108 := trivial
  have hn1 : ¬ l < 0 := by omega
  have hn2 : ¬ n ≤ l := by omega
  have hmx : 9 ≤ maxLen := by decide
  refine (callsIn_wide (n := 8)).1 ?_
  refine callsIn_of_wp_marks Try.func60 rfl trivial ?_ rfl
  simp only [Try.ntmps60, List.size_toArray, List.length_cons, List.length_nil, Nat.reduceAdd, Nat.reduceSub, Array.replicate_succ, Array.replicate_zero, List.push_toArray, List.append_toArray, List.nil_append, List.cons_append]
  gi_wp2_with (gi_at_call 108; refine (callsIn_wide.2 (bup_ok n (2 * l) _)).mono ?_; rintro e w2 ⟨b1, b2, rfl, hM⟩)
  have hgr := Only.grown0 hM.st.only
  have bO : Boxed w2 w.heap.size 29 (.slice none 0 0) := (Boxed.new w _ _).kept hgr (by simp)
  have hsz : w.heap.size + 1 ≤ w2.heap.size := by have := hgr.size; rwa [World.size_alloc] at this
  have hB0 : Below w.heap.size w w2 := ((Below.refl _ w).alloc (Nat.le_refl _) _).trans (hM.st.only.below (by simp) (fun i _ h => by obtain ⟨_, hm, _⟩ := h; cases hm))
  obtain ⟨k1, _⟩ := Mem.blf (g := b1) (hM.upB b1) inferInstance
  obtain ⟨k2, _⟩ := Mem.blf (g := b2) (hM.upB b2) inferInstance
  have hne : b1 ≠ w.heap.size := by
    rintro rfl
    obtain ⟨fr, h1, _⟩ := k1
    rw [show w2.heap[w.heap.size]? = _ from bO] at h1
    simp at h1
  refine wpIn_rangeFunc_ownG rfl (by omega) (gf := 132) (lb := #[.pointer (some ⟨b1, 0, none⟩), .pointer (some ⟨b2, 0, none⟩)]) rfl trivial (enters_of Try.func132 (by kernel_rfl) rfl)
    (up_stops _ (by omega) b1 b2 n (2 * l) w2 k1.lt k2.lt (by rw [k1.cell]; rfl) (by rw [k2.cell]; rfl)) (fun h k => Eq.trans k h) (fun W j o o' hj _ _ _ => ?kb) (Below.refl _ _) (fun _ => rfl)
    (fun pre W => (∃ v, Boxed W w.heap.size 29 v ∧ W.ownsRow w2.heap.size 3 1 v pre.length (pre.map (Value.int .i64)) ∧ True) ∧ Below w.heap.size w W ∧ w2.heap.size ≤ W.heap.size)
    (fun _ _ _ => False)
    (OwnFrom.and (Own.from (holdsRow_own w2.heap.size w.heap.size 29 3 1 (fun pre : List Int => pre.length) (fun pre => pre.map (Value.int .i64)) (fun _ _ => True)) _) (OwnFrom.and (ownFrom_below (Nat.le_refl _) (by omega)) (fun s A B row hs hg hr => Nat.le_trans hs hg.size)))
    (fun _ _ _ _ _ hs _ _ => hs)
    ⟨⟨_, bO, World.ownsRow_nil _ _ _ _, trivial⟩, hB0, Nat.le_refl _⟩
    (fun x => { tmps := #[.int .i64 n, .int .i64 l, undef, undef, .slice none 0 0, .pointer (some ⟨w.heap.size, 0, none⟩), .int .i64 x, .int .i64 l, .bool false, .bool false, .int .i64 l, .int .i64 n, .bool false, .bool false, .int .i64 n, .int .i64 l, .int .i64 (2 * l), .func (.func 132) #[] #[.pointer (some ⟨b1, 0, none⟩), .pointer (some ⟨b2, 0, none⟩)], .int .i64 x, undef, undef, undef, undef, undef], defers := [] }) ?assign ?body ?done ?stop
  case kb => exact (grownBy_putObj' W j o').block b1 (by have := k1.lt; have := (Array.getElem?_eq_some_iff.1 ‹W.heap[j]? = some o›).1; omega) (by have := k1.lt; simp; omega)
  case assign =>
    intro l x W K hK
    gi_wp2
    exact hK
  case body =>
    rintro l pre x W ⟨⟨v, hv, hrow, -⟩, hB, hsw⟩ hlt
    have hc := hv.cell
    gi_wp2_with (gi_at_builtin; refine wpListIn_append_own _ rfl _ _ 29 rfl w2.heap.size 3 i0 (.int .i64 0) 1 8 (by kernel_rfl) hi hz0 hz1 hz2 rfl (by decide) _ _ _ rfl (hrow.alloc _) ⟨W.heap.size, 0, none⟩ 1 1 [.int .i64 x] rfl rfl (cell_one_new _ _ _) (by simp [Value.oneCell']) (by omega) (by omega) (by simp; omega) ?_; intro v' w1 hown' hgrow _; obtain ⟨g', cap', rfl⟩ := ownsRow_succ hown'; obtain ⟨hv1, hv2, hr2, hk2, hb2, hx2⟩ := Boxed.app2 hv (n1 := w.heap.size) (by decide) hrow hsw (by omega) (Nat.le_refl _) hown' hgrow; have hc1 := hv1.cell; have hf1 := hv1.frozen)
    exact ⟨hk2.from _, hx2 b1 k1.lt hne, ⟨_, hv2, by simpa using hr2, trivial⟩, hB.trans hb2, Nat.le_trans hsw hb2.size⟩
  case done =>
    rintro D ys W hD rfl ⟨⟨v, hv, hrow, -⟩, hB, hsw⟩ hK
    have hc := hv.cell
    gi_wp2
    refine ⟨by simp, .inl ⟨_, _, rfl, run_takeDeferred hK, ?_⟩⟩
    exact ⟨_, results_tmp rfl _ _ _, v, rfl, ⟨(ownsRow_putObj hrow (.deferred none) hK rfl).1, (ownsRow_putObj hrow (.deferred none) hK rfl).2.imp id fun ⟨g, cap, cur, h1, h2, h3⟩ => ⟨g, cap, cur, h1, by omega, h3⟩⟩, hB.trans (belowK_b (w := w) (Nat.le_refl _) W D _ _ (by omega) hK rfl rfl)⟩
  case stop =>
    rintro D c pre W _ _ h _
    exact h.elim
set_option maxRecDepth 100000 in
set_option maxHeartbeats 2000000 in
theorem dir_nil (n l : Int) (hl : l < 0 ∨ n ≤ l) (w : World) : Calls Try.prog 60 #[.int .i64 n, .int .i64 l] w fun e W' => e = .returned (.slice none 0 0) ∧ Below w.heap.size w W' := by
  refine (callsIn_wide (n := 8)).1 ?_
  refine callsIn_of_wp_marks Try.func60 rfl trivial ?_ rfl
  simp only [Try.ntmps60, List.size_toArray, List.length_cons, List.length_nil, Nat.reduceAdd, Nat.reduceSub, Array.replicate_succ, Array.replicate_zero, List.push_toArray, List.append_toArray, List.nil_append, List.cons_append]
  by_cases h1 : l < 0
  · gi_wp2
    exact ⟨_, results_tmp rfl _ _ _, rfl, Below.refl _ _⟩
  · have h2 : n ≤ l := by omega
    gi_wp2
    exact ⟨_, results_tmp rfl _ _ _, rfl, Below.refl _ _⟩
theorem fls_ints8 (l : List Int) : fls (ints8 l) = l.map (Value.int .i64) := by
  induction l with
  | nil => rfl
  | cons x r ih =>
    show fls ([.one (.int .i64 x)] :: ints8 r) = _
    rw [fls_cons, ih]
    rfl
theorem own_out {H : Hp} {w W' : World} {e : TypeId} {v : Value} {D : List Int} (hf : Fz H w) (ho : W'.ownsRow w.heap.size e 1 v D.length (D.map (Value.int .i64))) (hb : Below w.heap.size w W') :
    Outp H w (fun H' v => ∃ A cap, v = .slice A D.length cap ∧ Sl H' 1 A (ints8 D)) (.returned v) W' := by
  have hst : St w [] W' := ⟨(fun _ h => by cases h), .nil, (fun _ h => by cases h), Only.of_below hb fun i hi hge => by omega⟩
  have hF : ∀ b c, H b = some c → ∃ t fr, W'.heap[b]? = some (.cells c t fr) := fun b c hc => by
    obtain ⟨t, fr, h⟩ := hf b c hc
    exact ⟨t, fr, (hb.block b (hf.lt hc)).trans h⟩
  rcases ho.2 with ⟨rfl, hn⟩ | ⟨g, cap, cur, rfl, hge, hgb, hnc, hcm, hsz, htk⟩
  · have hD : D = [] := List.eq_nil_of_length_eq_zero hn
    subst hD
    exact ⟨_, H, rfl, Le.refl _ _, ⟨⟨[], rfl, hst, fun _ h => by cases h⟩, hF⟩, none, 0, rfl, Sl.nil _ _ _⟩
  · have hg0 : H g = none := by
      cases hh : H g with
      | none => rfl
      | some c => have := hf.lt hh; omega
    refine ⟨_, fun k => if k = g then some cur else H k, rfl, ⟨fun b c hc => ?_, fun b hb' hn => ?_⟩, ⟨⟨[], rfl, hst, fun _ h => by cases h⟩, fun b c hc => ?_⟩, some ⟨g, 0, none⟩, cap, rfl, els_ints8 D, .inr ⟨g, 0, cur, rfl, if_pos rfl, fun j u hu => ?_⟩⟩
    · show (if b = g then some cur else H b) = some c
      rw [if_neg (by rintro rfl; rw [hg0] at hc; cases hc)]
      exact hc
    · show (if b = g then some cur else H b) = none
      rw [if_neg (by omega)]
      exact hn
    · have hc : (if b = g then some cur else H b) = some c := hc
      by_cases e : b = g
      · rw [if_pos e] at hc
        cases hc
        exact ⟨_, _, by rw [e]; exact hgb⟩
      · rw [if_neg e] at hc
        exact hF b c hc
    · rw [fls_ints8, ← htk] at hu
      rw [Nat.zero_add, ← Array.getElem?_toList]
      rw [List.getElem?_take] at hu
      split at hu
      · exact hu
      · cases hu
theorem bdirect_ok {H : Hp} {w : World} (n l : Int) (hb : l ≤ 1000000) (hf : Fz H w) : Calls Try.prog 60 #[.int .i64 n, .int .i64 l] w (Outp H w (fun H' v => ∃ A cap, v = .slice A (dirL n l).length cap ∧ Sl H' 1 A (ints8 (dirL n l)))) := by
  by_cases hl : 0 ≤ l ∧ l < n
  · refine (dir_in n l hl hb w).mono ?_
    rintro e W' ⟨v, rfl, ho, hB⟩
    exact own_out hf ho hB
  · refine (dir_nil n l (by omega) w).mono ?_
    rintro e W' ⟨rfl, hB⟩
    have : dirL n l = [] := if_neg hl
    rw [this]
    exact own_out (e := 3) (D := []) hf ⟨rfl, .inl ⟨rfl, rfl⟩⟩ hB
theorem rdirect_out {H : Hp} {w : World} (n l : Int) (hb : -1000000 ≤ l ∧ l ≤ 1000000) (hf : Fz H w) : Calls Try.prog 58 #[.int .i64 n, .int .i64 l] w (Outp H w (fun H' v => ∃ A cap, v = .slice A (dirL n l).length cap ∧ Sl H' 1 A (ints8 (dirL n l)))) := by
  refine (rdirect_ok n l hb (Mem.start hf)).mono ?_
  rintro e w' ⟨v, rfl, A, cap, rfl, hM⟩
  obtain ⟨H', hl, hM, hs, _⟩ := hM.fz0
  exact hM.out hl ⟨A, cap, rfl, hs⟩
end Go.Proofs.Ytopcnkejobomaaa
namespace Go.Proofs.Ytopcnkejobomaaa
open Go.RowKit
theorem mguard_un {want : Bool} {w : World} {run : (Value → World → Prop) → Prop} {K : Value → World → Prop} (h : K undef w) : mguard undef want run w K := mguard_no (by intro h; cases h) h
theorem lay_in (A X B Y : List Value) (o : Nat) (h : o + Y.length ≤ X.length) : lay (A ++ (X ++ B)) Y (A.length + o) = A ++ (lay X Y o ++ B) := by
  unfold lay
  rw [List.take_length_add_append, Nat.add_assoc, List.drop_length_add_append, List.take_append_of_le_length (by omega), List.drop_append_of_le_length (by omega)]
  simp
section
variable {P : Program} {H : Hp} {w0 w : World} {L : List Res} {n cap e sz by_ : Nat} {t : TypeId} {A : Option Addr} {ps : List (List Fd)} {X : List PanicEntry → World → Prop}
theorem Mem.setFld {R1 : List Res} {g k off : Nat} {fs gs fs' : List Fd} (h : Mem H w0 (rowR e sz (some ⟨g, 0, none⟩) n cap ps :: R1) w) (hk : ps[k]? = some fs) (hp : Put fs off gs fs') (hg : FOk gs) : ∃ w', (storeCells ⟨g, 0 + k * sz + off, none⟩ (fl gs) 0).run P w = .ok () w' ∧ Mem H w0 (rowR e sz (some ⟨g, 0, none⟩) n cap (ps.set k fs') :: R1) w' := by
  obtain ⟨B, ⟨B1, B2, rfl, ⟨h1, h2, h3⟩, h4⟩, hs', hb⟩ := h.own
  obtain ⟨hk', rfl⟩ := List.getElem?_eq_some_iff.1 hk
  rcases h3 with ⟨hA, h3, _⟩ | ⟨g', sp, hA, rfl, h5, h6⟩
  · cases hA
  · cases hA
    have hs' : St w0 (⟨g, e, fls ps ++ sp, true⟩ :: B2) w := hs'
    have hfl : (fls ps).length = n * sz := by rw [h1.len, h2]
    obtain ⟨hxo, hxs⟩ := h1.ok ps[k] (List.getElem_mem _)
    obtain ⟨hf', hly, hle0⟩ := hp.cells hxo hg
    have hxl : (fl ps[k]).length = sz := by rw [hxo.len, hxs]
    have hle : k * sz + sz ≤ n * sz := by rw [← Nat.succ_mul]; exact Nat.mul_le_mul_right _ (by omega)
    have hst := run_storeCells_blf (P := P) (0 + k * sz + off) (fl gs) 0 (fls ps ++ sp) w hs'.head (by rw [List.length_append, hfl]; omega) hg.one
    have ht : (fls (ps.take k)).length = k * sz := by rw [(h1.take k).len, List.length_take, Nat.min_eq_left (by omega)]
    have hlay : lay (fls ps ++ sp) (fl gs) (0 + k * sz + off + 0) = fls (ps.set k fs') ++ sp := by
      have e1 : ps = ps.take k ++ ps[k] :: ps.drop (k + 1) := by rw [List.getElem_cons_drop, List.take_append_drop]
      rw [List.set_eq_take_append_cons_drop, if_pos hk']
      conv => lhs; rw [e1]
      rw [show 0 + k * sz + off + 0 = (fls (ps.take k)).length + off by rw [ht]; omega, fls_app, fls_app, fls_cons, fls_cons, ← hly, List.append_assoc, List.append_assoc, lay_in _ _ _ _ _ hle0]
      simp
    refine ⟨_, hst, ?_⟩
    rw [hlay]
    have hl2 : (fls (ps.set k fs') ++ sp).length = (fls ps ++ sp).length := by
      rw [← hlay]
      exact lay_length _ _ _ (by rw [List.length_append, hfl]; omega)
    have hsz' : fsz fs' = sz := by
      have hh := congrArg List.length hly
      rw [lay_length _ _ _ hle0, hxl, hf'.len] at hh
      omega
    have hels : Els sz (ps.set k fs') := ⟨fun q hq => by
      rcases List.mem_or_eq_of_mem_set hq with hq | rfl
      · exact h1.ok q hq
      · exact ⟨hf', hsz'⟩⟩
    have hgg := hb ⟨g, e, fls ps ++ sp, true⟩ (by simp)
    refine ⟨⟨⟨g, e, fls (ps.set k fs') ++ sp, true⟩ :: B2, ⟨[⟨g, e, fls (ps.set k fs') ++ sp, true⟩], B2, rfl, ⟨hels, by simpa using h2, .inr ⟨g, sp, rfl, rfl, by rw [hl2]; exact h5, h6⟩⟩, h4⟩, hs'.setRow hl2, fun b hm => ?_⟩, h.fz.same fun b c hc => setRow_other w g b _ ?_⟩
    · rcases List.mem_cons.1 hm with rfl | hm
      · exact ⟨rfl, hgg.2⟩
      · exact hb b (List.mem_append.2 (.inr hm))
    · rintro rfl
      have := hgg.2
      simp only [hc] at this
      cases this
theorem run_msf {R1 : List Res} {g k off m : Nat} {tt : TypeId} {q : Bool} {v : Value} {fs gs fs' : List Fd} (h : Mem H w0 L w) (c : ShpC P tt q m) (a : AtA L (some ⟨g, 0, none⟩) n cap e sz ps R1) (hk : ps[k]? = some fs) (f : Vf v m gs) (p : Put fs off gs fs') :
    ∃ w', (o_store tt (.pointer (some ⟨g, 0 + k * sz + off, none⟩)) v).run P w = .ok .skip w' ∧ Mem H w0 (rowR e sz (some ⟨g, 0, none⟩) n cap (ps.set k fs') :: R1) w' := by
  obtain ⟨ev, hn, hp⟩ := f.ok
  obtain ⟨w', hr, hm⟩ := (h.perm a.perm).setFld (P := P) hk p hp
  refine ⟨w', ?_, hm⟩
  have e2 : v.cells.size = m := by rw [← Array.length_toList, ev, hp.len, hn]
  simp [o_store, su, Instr.storeAt, Instr.sureAddr, storeVar, run_size (shp_agg (w := w) c.ok).2, ev, e2]
  simp only [Nat.zero_add] at hr
  simp [hr]
theorem mm_stf {R1 : List Res} {g k off m : Nat} {tt : TypeId} {q : Bool} {v : Value} {fs gs fs' : List Fd} {K : Value → World → Prop} (h : Mem H w0 L w) [c : ShpC P tt q m] [a : AtA L (some ⟨g, 0, none⟩) n cap e sz ps R1] (hk : ps[k]? = some fs) [f : Vf v m gs] [p : Put fs off gs fs']
    (hK : ∀ w', Mem H w0 (rowR e sz (some ⟨g, 0, none⟩) n cap (ps.set k fs') :: R1) w' → K undef w') : mop P (o_store tt (.pointer (some ⟨g, 0 + k * sz + off, none⟩)) v) w K X := by
  obtain ⟨w', hr, hm⟩ := run_msf (P := P) h c a hk f p
  exact mop_skip hr (hK w' hm)
theorem dm_stf {R1 : List Res} {g k off m : Nat} {tt : TypeId} {q : Bool} {v : Value} {fs gs fs' : List Fd} {K : Value → World → Prop} (h : Mem H w0 L w) [c : ShpC P tt q m] [a : AtA L (some ⟨g, 0, none⟩) n cap e sz ps R1] (hk : ps[k]? = some fs) [f : Vf v m gs] [p : Put fs off gs fs']
    (hK : ∀ w', Mem H w0 (rowR e sz (some ⟨g, 0, none⟩) n cap (ps.set k fs') :: R1) w' → K undef w') : df P w (o_store tt (.pointer (some ⟨g, 0 + k * sz + off, none⟩)) v) false K := df_mop fun w1 hd => mop_mono (mm_stf (X := fun _ _ => False) (h.drawn hd) hk hK) (fun v w' h => ⟨(fun e => by cases e), h⟩) (fun _ _ h => h)
end
end Go.Proofs.Ytopcnkejobomaaa
namespace Go.Proofs.Ytopcnkejobomaaa
open Go.RowKit Go.Lib
instance {P : Program} {ts : Array TypeId} {ty : TypeId} {cs : List Bool} {k k' : IntKind} (x y : Int) : StepC P (o_builtin .max ts ty cs [.int k x, .int k' y]) True (.int k (if x < y then y else x)) := ⟨fun _ w => by simp [o_builtin, invoke, go_sem]⟩
def seenL (s : List Int) : List Value := (List.range 65).map fun (i : Nat) => .bool (decide ((i : Int) ∈ s))
theorem seenL_at (s : List Int) {i : Int} (h : 0 ≤ i ∧ i ≤ 64) : (seenL s)[i.toNat]? = some (.bool (decide (i ∈ s))) := by
  unfold seenL
  have hi : i.toNat < 65 := by omega
  simp [hi, Int.toNat_of_nonneg h.1]
theorem seenL_set (s : List Int) {i : Int} (h : 0 ≤ i ∧ i ≤ 64) : (seenL s).set i.toNat (.bool true) = seenL (i :: s) := by
  unfold seenL
  refine List.ext_getElem (by simp) fun k h1 h2 => ?_
  simp only [List.getElem_set, List.getElem_map, List.getElem_range, List.mem_cons]
  split
  · rename_i e
    have : (k : Int) = i := by omega
    simp [this]
  · rename_i e
    have : (k : Int) ≠ i := by omega
    simp [this]
theorem seenL_ok (s : List Int) : FdOk (.arr 65 (seenL s)) := ⟨by simp [Fd.cells, Fd.size, seenL], fun u hu => by
  simp only [Fd.cells, seenL, List.mem_map] at hu
  obtain ⟨_, _, rfl⟩ := hu
  rfl⟩
theorem seenL_nil : List.replicate 65 (Value.bool false) = seenL [] := rfl
theorem leavesB_drop {s : List Int} {ls : List Lf} {i : Nat} (h : i < ls.length) : leavesB s (ls.drop i) = if ls[i] = Lf.zero then leavesB s (ls.drop (i + 1)) else decide ((1 ≤ ls[i].name ∧ ls[i].name ≤ 64) ∧ ls[i].name ∉ s) && leavesB (ls[i].name :: s) (ls.drop (i + 1)) := by
  rw [List.drop_eq_getElem_cons h, leavesB]
theorem parB_drop {n : Int} {ls : List Lf} {x : Int} {ps : List Pn} {i : Nat} (h : i < ps.length) : parB n ls x (ps.drop i) = ((ps[i].set || decide ps[i].isZero) && looseB n ls x none ps[i].loose && parB n ls (x + 2) (ps.drop (i + 1))) := by
  rw [List.drop_eq_getElem_cons h, parB]
theorem looseB_drop {n : Int} {ls : List Lf} {x : Int} {o : Option Int} {l : List Int} {i : Nat} (h : i < l.length) : looseB n ls x o (l.drop i) = (decide (hld n x l[i] ∧ nameAt ls l[i] ≠ 0 ∧ ∀ q ∈ o, q < l[i]) && looseB n ls x (some l[i]) (l.drop (i + 1))) := by
  rw [List.drop_eq_getElem_cons h, looseB]
def prv (l : List Int) : Nat → Option Int
  | 0 => none
  | k + 1 => l[k]?
theorem nameAt_at {ls : List Lf} {p : Int} (h0 : 0 ≤ p) (h : p.toNat < ls.length) : nameAt ls p = ls[p.toNat].name := by
  unfold nameAt
  rw [List.getElem?_eq_getElem h]
theorem hld_rng {n x p : Int} (h : hld n x p) : 0 ≤ p ∧ p < n ∧ thr n x := by
  by_cases ht : thr n x
  · obtain ⟨-, -, -, -, -, hT, -⟩ := bough_eq ht
    have h1 : fro n x = (fd n x).1 := if_pos ht
    have h2 := (fd_eq ht).1
    have h3 : pTo n x ≤ n := by unfold pTo; rw [if_pos ht]; omega
    obtain ⟨a, b⟩ := h
    exact ⟨by omega, by omega, ht⟩
  · obtain ⟨a, b⟩ := h
    rw [fro_of ht] at a
    rw [til_of ht] at b
    omega
section
variable {H : Hp} {w0 w : World} {L : List Res} {A B : Option Addr} {a b : Nat} {t : Tr} {qs : List (List Fd)}
theorem zero_ok (p : Pn) (C : Option Addr) (c : Nat) (w : World) : Calls Try.prog 67 #[.agg (fl (p.row C c)).toArray] w fun en w' => en = .returned (.bool (decide p.isZero)) ∧ St w [] w' := by
  have hM := Mem.start (Fz.of w)
  refine C_tree_zero ?_
  unfold F_tree_zero
  ((with_reducible (refine mm_box hM ?_; clear hM; intro _ _ hM; refine mop_c trivial ?_; refine mm_ld hM ?_; refine mop_c trivial ?_)))
  cases hs : p.set
  · rw [Bool.not_false]
    ((with_reducible (refine mguard_yes ?_; refine mop_c trivial ?_; refine mguard_yes ?_; refine mm_ld hM ?_; refine mguard_yes ?_; refine mop_c trivial ?_; refine mguard_yes ?_)))
    ((with_reducible (refine mop_cS trivial ?_ ?_)))
    · intro h1
      ((with_reducible (refine mop_c trivial ?_; refine mguard_yes ?_; refine mop_c trivial ?_; refine mguard_yes ?_; refine mm_ld hM ?_; refine mguard_yes ?_; refine mop_c trivial ?_; refine mguard_yes ?_)))
      ((with_reducible (refine mop_cS trivial ?_ ?_)))
      · intro h2
        ((with_reducible (refine mop_c trivial ?_; refine mguard_yes ?_; refine mop_c trivial ?_; refine mguard_yes ?_; refine mm_ld hM ?_; refine mguard_yes ?_; refine mop_c trivial ?_; refine mguard_yes ?_)))
        ((with_reducible (refine mop_cS trivial ?_ ?_)))
        · intro h3
          ((with_reducible (refine mop_c trivial ?_)))
          exact ⟨by rw [decide_eq_true (show p.isZero from ⟨hs, h1, h2, List.eq_nil_of_length_eq_zero (by omega)⟩)], hM.st⟩
        · intro h3
          ((with_reducible (refine mop_c trivial ?_)))
          exact ⟨by rw [decide_eq_false (show ¬ p.isZero from fun h => h3 (by rw [h.2.2.2]; rfl))], hM.st⟩
      · intro h2
        ((with_reducible (refine mop_c trivial ?_; (iterate 4 refine mguard_n2 ?_); refine mop_c trivial ?_)))
        exact ⟨by rw [decide_eq_false (show ¬ p.isZero from fun h => h2 h.2.2.1)], hM.st⟩
    · intro h1
      ((with_reducible (refine mop_c trivial ?_; (iterate 4 refine mguard_n2 ?_); refine mop_c trivial ?_; (iterate 4 refine mguard_n2 ?_); refine mop_c trivial ?_)))
      exact ⟨by rw [decide_eq_false (show ¬ p.isZero from fun h => h1 h.2.1)], hM.st⟩
  · rw [Bool.not_true]
    ((with_reducible ((iterate 4 refine mguard_n2 ?_); refine mop_c trivial ?_; (iterate 4 refine mguard_n2 ?_); refine mop_c trivial ?_; (iterate 4 refine mguard_n2 ?_); refine mop_c trivial ?_)))
    exact ⟨by rw [decide_eq_false (show ¬ p.isZero from fun h => by rw [h.1] at hs; cases hs)], hM.st⟩
instance (p : Pn) (C : Option Addr) (c : Nat) : PurC Try.prog 67 [.agg (fl (p.row C c)).toArray] True (.bool (decide p.isZero)) := ⟨fun _ w => zero_ok p C c w⟩
theorem right_ok (h1 : Sl H 97 A (t.ls.map Lf.fds)) (h2 : Sl H 66 B qs) (h3 : All2 (PnF H) qs t.ps) (hl : t.ls.length ≤ maxLen) (hp : t.ps.length ≤ maxLen) (hf : Fz H w) :
    Calls Try.prog 27 #[tv A t.ls.length a B t.ps.length b] w fun en w' => en = .returned (.bool t.right) ∧ St w [] w' := by
  have hM := Mem.start hf
  refine C_tree_Right ?_
  unfold F_tree_Right
  have hl' : t.ls.length ≤ 9223372036854775807 := hl
  have hp' : t.ps.length ≤ 9223372036854775807 := hp
  have hq : qs.length = t.ps.length := h3.len
  have hts : t.size = t.ls.length := rfl
  ((with_reducible (refine mm_box hM ?_; clear hM; intro _ _ hM; refine mop_c trivial ?_; refine mm_ld hM ?_; refine mop_c trivial ?_)))
  rename_i g1 _
  refine ⟨fun v w' => v = .bool (!decide (t.ls.length ≤ 64 ∧ t.ps.length = t.ls.length - 1)) ∧ hM.now w', ?_, ?_⟩
  · ((with_reducible (refine mop_cS trivial ?_ ?_)))
    · intro h
      ((with_reducible ((iterate 7 refine mguard_n1 ?_); refine mop_c trivial ?_)))
      exact ⟨by rw [decide_eq_false (by omega)]; rfl, hM⟩
    · intro h
      ((with_reducible (refine mguard_yes ?_; refine mop_c trivial ?_; refine mguard_yes ?_; refine mm_ld hM ?_; refine mguard_yes ?_; refine mop_c trivial ?_; refine mguard_yes ?_; refine mop_c trivial ?_; refine mguard_yes ?_; refine mop_c ?_ ?_)); (focus omega); (with_reducible (refine mguard_yes ?_; refine mop_c trivial ?_; refine mguard_yes ?_)))
      rw [show (if (t.ls.length : Int) - 1 < 0 then 0 else (t.ls.length : Int) - 1) = ((t.ls.length - 1 : Nat) : Int) by split <;> omega]
      ((with_reducible (refine mop_cS trivial ?_ ?_)))
      · intro h4
        ((with_reducible (refine mop_c trivial ?_)))
        exact ⟨by rw [decide_eq_false (by omega)]; rfl, hM⟩
      · intro h4
        ((with_reducible (refine mop_c trivial ?_)))
        exact ⟨by rw [decide_eq_true (by omega)]; rfl, hM⟩
  rintro v u w2 ⟨rfl, hM⟩
  by_cases hsz : t.ls.length ≤ 64 ∧ t.ps.length = t.ls.length - 1
  case neg =>
    rw [decide_eq_false hsz]
    ((with_reducible (refine mif_nf ?_)))
    refine ⟨?_, hM.st⟩
    unfold Tr.right
    rw [decide_eq_false hsz]
    rfl
  rw [decide_eq_true hsz]
  ((with_reducible (refine mif_nt ?_; refine mm_new hM ?_; clear hM; intro _ _ hM; refine mop_c trivial ?_; refine mm_ld hM ?_; refine mop_c trivial ?_)))
  rename_i g2 _
  rw [seenL_nil] at hM
  refine ⟨fun v w' => ∃ (i : Nat) (s : List Int), v = .int .i64 i ∧ i ≤ t.ls.length ∧ leavesB [] t.ls = leavesB s (t.ls.drop i) ∧ Mem H w [fb g2 67 [.arr 65 (seenL s)], fb g1 27 (tfd A t.ls.length a B t.ps.length b)] w', fun v _ => match v with | .int _ k => t.ls.length - k.toNat | _ => 0, ⟨0, [], rfl, by omega, rfl, hM⟩, ?_⟩
  clear hM
  rintro v u2 w3 ⟨i, s, rfl, hi, hb, hM⟩
  have hso := seenL_ok s
  ((with_reducible (refine mop_cS trivial ?_ ?_)))
  · intro hlt
    have hdr := leavesB_drop (s := s) (ls := t.ls) (i := i) (by omega)
    ((with_reducible (refine mif_true ?_)))
    refine ⟨fun w' => ∃ s', leavesB [] t.ls = leavesB s' (t.ls.drop (i + 1)) ∧ Mem H w [fb g2 67 [.arr 65 (seenL s')], fb g1 27 (tfd A t.ls.length a B t.ps.length b)] w', ?_, ?_⟩
    · ((with_reducible refine mm_ixs ‹_› ?_ ?_ ?_); (focus (simp only [List.length_map]; omega)); (focus (simp only [List.length_map]; first | done | omega)); (with_reducible (intro _ _ hA)); (cases hA); (with_reducible refine mm_lds0 hM ‹_› (map_atI ?_) ?_); (focus omega); (with_reducible (refine mm_new hM ?_; clear hM; intro _ _ hM; refine mm_st hM ?_; clear hM; intro _ hM; refine mm_ld hM ?_; refine mop_c trivial ?_)))
      ((with_reducible (refine mop_cS trivial ?_ ?_)))
      · intro hz
        ((with_reducible (refine mif_true ?_)))
        exact ⟨s, by rw [hb, hdr, if_pos ((lf_zero _).2 hz)], hM.sub⟩
      · intro hz
        rw [if_neg (fun e => hz ((lf_zero _).1 e))] at hdr
        ((with_reducible (refine mif_false ?_)))
        refine ⟨fun v w' => v = .bool (!decide ((1 ≤ t.ls[i].name ∧ t.ls[i].name ≤ 64) ∧ t.ls[i].name ∉ s)) ∧ hM.now w', ?_, ?_⟩
        · ((with_reducible (refine mop_c trivial ?_; refine mm_ld hM ?_)))
          ((with_reducible (refine mop_cS trivial ?_ ?_)))
          · intro h
            ((with_reducible ((iterate 3 refine mguard_n1 ?_); refine mop_c trivial ?_; (iterate 4 refine mguard_n1 ?_); refine mop_c trivial ?_)))
            exact ⟨by rw [decide_eq_false (by omega)]; rfl, hM⟩
          · intro h
            ((with_reducible (refine mguard_yes ?_; refine mop_c trivial ?_; refine mguard_yes ?_; refine mm_ld hM ?_; refine mguard_yes ?_)))
            ((with_reducible (refine mop_cS trivial ?_ ?_)))
            · intro h4
              ((with_reducible (refine mop_c trivial ?_; (iterate 4 refine mguard_n1 ?_); refine mop_c trivial ?_)))
              exact ⟨by rw [decide_eq_false (by omega)]; rfl, hM⟩
            · intro h4
              have hs := seenL_at s (i := t.ls[i].name) (by omega)
              ((with_reducible (refine mop_c trivial ?_; refine mguard_yes ?_; refine mop_c trivial ?_; refine mguard_yes ?_; refine mm_ld hM ?_; refine mguard_yes ?_; refine mop_c ?_ ?_)); (focus omega); (with_reducible (refine mguard_yes ?_)))
              refine mm_ldj hM hs ?_
              ((with_reducible (refine mop_c trivial ?_)))
              exact ⟨by simp [show 1 ≤ t.ls[i].name by omega, show t.ls[i].name ≤ 64 by omega], hM⟩
        rintro v u4 w5 ⟨rfl, hM⟩
        by_cases hc : (1 ≤ t.ls[i].name ∧ t.ls[i].name ≤ 64) ∧ t.ls[i].name ∉ s
        · rw [decide_eq_true hc]
          ((with_reducible (refine mif_nt ?_; refine mop_c trivial ?_; refine mm_ld hM ?_; refine mop_c ?_ ?_)); (focus omega); (with_reducible (refine mm_sta hM ?_ ?_)); (focus omega); (with_reducible (clear hM; intro _ hM)))
          rw [seenL_set s (by omega)] at hM
          exact ⟨t.ls[i].name :: s, by rw [hb, hdr, decide_eq_true hc, Bool.true_and], hM.sub⟩
        · rw [decide_eq_false hc]
          ((with_reducible (refine mif_nf ?_)))
          refine ⟨?_, hM.st⟩
          unfold Tr.right
          rw [hb, hdr, decide_eq_false hc]
          simp
    · rintro u3 w4 ⟨s', hb', hM⟩
      ((with_reducible (refine mop_c ?_ ?_)); (focus omega))
      exact ⟨⟨i + 1, s', rfl, by omega, hb', hM⟩, by simp only; omega⟩
  · intro hge
    have hls : leavesB [] t.ls = true := by
      rw [hb, List.drop_eq_nil_of_le (by omega)]
      rfl
    ((with_reducible (refine mif_false ?_; refine mop_c trivial ?_; refine mm_ld hM ?_; refine mop_c trivial ?_)))
    have hM := hM.at_ (fb g1 27 (tfd A t.ls.length a B t.ps.length b))
    refine ⟨fun v w' => ∃ i : Nat, v = .int .i64 i ∧ i ≤ t.ps.length ∧ parB t.size t.ls 1 t.ps = parB t.size t.ls (2 * i + 1) (t.ps.drop i) ∧ Mem H w [fb g1 27 (tfd A t.ls.length a B t.ps.length b)] w', fun v _ => match v with | .int _ k => t.ps.length - k.toNat | _ => 0, ⟨0, rfl, by omega, rfl, hM.sub⟩, ?_⟩
    clear hM hi hb hge hso
    rintro v u5 w5 ⟨i, rfl, hi, hb, hM⟩
    ((with_reducible (refine mop_cS trivial ?_ ?_)))
    · intro hlt
      obtain ⟨p, hpe⟩ : ∃ p, t.ps[i] = p := ⟨_, rfl⟩
      obtain ⟨q, hq1, C, c, rfl, hC, hcl⟩ := h3.at_ (i := i) (by omega)
      have hdr := parB_drop (n := t.size) (ls := t.ls) (x := 2 * i + 1) (ps := t.ps) (i := i) (by omega)
      rw [hpe] at hq1 hC hcl hdr
      have hcl' : p.loose.length ≤ 9223372036854775807 := hcl
      ((with_reducible (refine mif_true ?_)))
      refine mm_ixs h2 (by omega) hq.symm (fun bb oo hB => ?_)
      cases hB
      refine mm_lds0 hM h2 hq1 ?_
      ((with_reducible (refine mm_new hM ?_; clear hM; intro _ _ hM; refine mm_st hM ?_; clear hM; intro _ hM)))
      rename_i g3 _ _
      refine ⟨fun v w' => v = .bool (!(p.set || decide p.isZero)) ∧ hM.now w', ?_, ?_⟩
      · ((with_reducible (refine mop_c trivial ?_; refine mm_ld hM ?_; refine mop_c trivial ?_)))
        rcases Bool.eq_false_or_eq_true p.set with hs | hs
        · have e : (!p.set) = false := by rw [hs]; rfl
          rw [e]
          ((with_reducible ((iterate 3 refine mguard_n2 ?_); refine mop_c trivial ?_)))
          exact ⟨by rw [hs, Bool.true_or]; rfl, hM⟩
        · have e : (!p.set) = true := by rw [hs]; rfl
          rw [e]
          ((with_reducible (refine mguard_yes ?_; refine mm_ld hM ?_; refine mguard_yes ?_; refine mm_purC hM ?_ (fun _ hM2 => ?_))); (focus (first | exact trivial | assumption | omega)); (with_reducible (replace hM := hM2; clear hM2; refine mguard_yes ?_; refine mop_c trivial ?_; refine mop_c trivial ?_)))
          exact ⟨by rw [hs, Bool.false_or], hM⟩
      rintro v u6 w6 ⟨rfl, hM⟩
      cases hz : (p.set || decide p.isZero)
      · rw [Bool.not_false]
        ((with_reducible (refine mif_true ?_)))
        refine ⟨?_, hM.st⟩
        unfold Tr.right
        rw [hb, hdr, hz]
        simp
      rw [hz, Bool.true_and] at hdr
      rw [Bool.not_true]
      ((with_reducible (refine mif_false ?_; refine mop_c trivial ?_; refine mm_ld hM ?_; refine mop_c trivial ?_)))
      refine ⟨fun v w' => ∃ k : Nat, v = .int .i64 k ∧ k ≤ p.loose.length ∧ looseB t.size t.ls (2 * i + 1) none p.loose = looseB t.size t.ls (2 * i + 1) (prv p.loose k) (p.loose.drop k) ∧ hM.now w', fun v _ => match v with | .int _ k => p.loose.length - k.toNat | _ => 0, ⟨0, rfl, by omega, rfl, hM⟩, ?_⟩
      rintro v u7 w7 ⟨k, rfl, hk, hlb, hM⟩
      ((with_reducible (refine mop_cS trivial ?_ ?_)))
      · intro hlt2
        obtain ⟨x, hx⟩ : ∃ x, p.loose[k] = x := ⟨_, rfl⟩
        have hdl := looseB_drop (n := t.size) (ls := t.ls) (x := 2 * i + 1) (o := prv p.loose k) (l := p.loose) (i := k) (by omega)
        rw [hx] at hdl
        ((with_reducible (refine mif_true ?_)); (with_reducible refine mm_ixs ‹_› ?_ ?_ ?_); (focus (simp only [List.length_map]; omega)); (focus (simp only [List.length_map]; first | done | omega)); (with_reducible (intro _ _ hA)); (cases hA); (with_reducible refine mm_lds0 hM ‹_› (map_atI ?_) ?_); (focus omega))
        rw [hx]
        refine ⟨fun v w' => v = .bool (!decide (hld t.size (2 * i + 1) x ∧ nameAt t.ls x ≠ 0 ∧ ∀ q ∈ prv p.loose k, q < x)) ∧ hM.now w', ?_, ?_⟩
        · ((with_reducible (refine mop_c ?_ ?_)); (focus omega); (with_reducible (refine mop_c ?_ ?_)); (focus omega); (with_reducible (refine mm_purC hM ?_ (fun _ hM2 => ?_))); (focus (first | exact trivial | assumption | omega)); (with_reducible (replace hM := hM2; clear hM2; refine mop_c trivial ?_)))
          by_cases hh : hld t.size (2 * i + 1) x
          · obtain ⟨r1, r2, -⟩ := hld_rng hh
            have hna := nameAt_at (ls := t.ls) (p := x) r1 (by omega)
            rw [decide_eq_true hh, Bool.not_true]
            ((with_reducible (refine mguard_yes ?_; refine mop_c trivial ?_; refine mguard_yes ?_; refine mm_ld hM ?_; refine mguard_yes ?_; refine mop_c trivial ?_; refine mguard_yes ?_)); (with_reducible refine mm_ixs ‹_› ?_ ?_ ?_); (focus (simp only [List.length_map]; omega)); (focus (simp only [List.length_map]; first | done | omega)); (with_reducible (intro _ _ hA)); (cases hA); (with_reducible (refine mguard_yes ?_; refine mop_c trivial ?_; refine mguard_yes ?_)); (with_reducible refine mm_lds hM ‹_› (map_at ?_) ?_); (focus omega); (with_reducible (refine mguard_yes ?_)))
            rw [← hna]
            ((with_reducible (refine mop_cS trivial ?_ ?_)))
            · intro h5
              ((with_reducible (refine mop_c trivial ?_; (iterate 3 refine mguard_n1 ?_); (iterate 8 refine mguard_un ?_); refine mguard_n1 ?_; refine mop_c trivial ?_)))
              exact ⟨by rw [decide_eq_false (fun h => h.2.1 h5)]; rfl, hM⟩
            · intro h5
              cases k with
              | zero =>
                ((with_reducible (refine mop_c trivial ?_; refine mguard_yes ?_; refine mop_c trivial ?_; refine mguard_yes ?_; refine mop_cF trivial ?_ ?_)); (focus (first | assumption | omega | with_reducible rfl | exact fun h => Bool.noConfusion h)); (with_reducible (refine mguard_yes ?_; refine mop_c trivial ?_; (iterate 8 refine mguard_n2 ?_); refine mguard_yes ?_; refine mop_c trivial ?_; refine mop_c trivial ?_)))
                exact ⟨by rw [decide_eq_true ⟨hh, h5, by simp [prv]⟩]; rfl, hM⟩
              | succ k =>
                have hix : (((k + 1 : Nat) : Int) - 1).toNat = k := by omega
                have hpv : prv p.loose (k + 1) = some p.loose[k] := List.getElem?_eq_getElem (by omega)
                ((with_reducible (refine mop_c trivial ?_; refine mguard_yes ?_; refine mop_c trivial ?_; refine mguard_yes ?_; refine mop_cT trivial ?_ ?_)); (focus (first | assumption | omega | with_reducible rfl | exact fun h => Bool.noConfusion h)); (with_reducible (refine mguard_yes ?_; refine mop_c trivial ?_; refine mguard_yes ?_; refine mop_c trivial ?_; refine mguard_yes ?_; refine mop_c trivial ?_; refine mguard_yes ?_; refine mm_ld hM ?_; refine mguard_yes ?_; refine mop_c trivial ?_; refine mguard_yes ?_; refine mop_c ?_ ?_)); (focus omega); (with_reducible (refine mguard_yes ?_)); (with_reducible refine mm_ixs ‹_› ?_ ?_ ?_); (focus (simp only [List.length_map]; omega)); (focus (simp only [List.length_map]; first | done | omega)); (with_reducible (intro _ _ hA)); (cases hA); (with_reducible (refine mguard_yes ?_)); (with_reducible refine mm_lds0 hM ‹_› (map_at ?_) ?_); (focus omega); (with_reducible (refine mguard_yes ?_)))
                ((with_reducible (refine mop_cS trivial ?_ ?_)))
                · intro h6
                  simp only [hix] at h6
                  ((with_reducible (refine mguard_yes ?_; refine mop_c trivial ?_; refine mop_c trivial ?_)))
                  exact ⟨by rw [decide_eq_false (fun h => by have := h.2.2 _ hpv; omega)]; rfl, hM⟩
                · intro h6
                  simp only [hix] at h6
                  ((with_reducible (refine mguard_yes ?_; refine mop_c trivial ?_; refine mop_c trivial ?_)))
                  exact ⟨by rw [decide_eq_true ⟨hh, h5, fun q hq => by rw [hpv] at hq; cases hq; omega⟩]; rfl, hM⟩
          · rw [decide_eq_false hh, Bool.not_false]
            ((with_reducible ((iterate 7 refine mguard_n1 ?_); refine mop_c trivial ?_; (iterate 3 refine mguard_n1 ?_); (iterate 8 refine mguard_un ?_); refine mguard_n1 ?_; refine mop_c trivial ?_)))
            exact ⟨by rw [decide_eq_false (fun h => hh h.1)]; rfl, hM⟩
        rintro v u8 w8 ⟨rfl, hM⟩
        by_cases hc : hld t.size (2 * i + 1) x ∧ nameAt t.ls x ≠ 0 ∧ ∀ q ∈ prv p.loose k, q < x
        · rw [decide_eq_true hc, Bool.not_true]
          rw [decide_eq_true hc, Bool.true_and] at hdl
          ((with_reducible (refine mif_false ?_; refine mop_c ?_ ?_)); (focus omega))
          refine ⟨⟨k + 1, rfl, by omega, ?_, hM⟩, by simp only; omega⟩
          rw [hlb, hdl, prv, List.getElem?_eq_getElem (by omega), hx]
        · rw [decide_eq_false hc, Bool.not_false]
          ((with_reducible (refine mif_true ?_)))
          refine ⟨?_, hM.st⟩
          unfold Tr.right
          rw [hb, hdr, hlb, hdl, decide_eq_false hc]
          simp
      · intro hge2
        have hl2 : looseB t.size t.ls (2 * i + 1) none p.loose = true := by
          rw [hlb, List.drop_eq_nil_of_le (by omega)]
          rfl
        rw [hl2, Bool.true_and] at hdr
        ((with_reducible (refine mif_false ?_; refine mop_c ?_ ?_)); (focus omega))
        refine ⟨⟨i + 1, rfl, by omega, ?_, hM.sub⟩, by simp only; omega⟩
        rw [hb, hdr]
        congr 1
    · intro hge
      have hps : parB t.size t.ls 1 t.ps = true := by
        rw [hb, List.drop_eq_nil_of_le (by omega)]
        rfl
      have hR : t.right = decide (t.ls = [] ∨ 0 < nameAt t.ls (t.size - 1)) := by
        unfold Tr.right
        rw [hls, hps, decide_eq_true hsz]
        simp
      ((with_reducible (refine mif_false ?_)))
      ((with_reducible (refine mop_cS trivial ?_ ?_)))
      · intro h0
        ((with_reducible ((iterate 8 refine mguard_n1 ?_); refine mop_c trivial ?_)))
        exact ⟨by rw [hR, decide_eq_true (.inl (List.eq_nil_of_length_eq_zero (by omega)))], hM.st⟩
      · intro h0
        ((with_reducible (refine mguard_yes ?_; refine mop_c trivial ?_; refine mguard_yes ?_; refine mm_ld hM ?_; refine mguard_yes ?_; refine mop_c trivial ?_; refine mguard_yes ?_; refine mop_c ?_ ?_)); (focus omega); (with_reducible (refine mguard_yes ?_)); (with_reducible refine mm_ixs ‹_› ?_ ?_ ?_); (focus (simp only [List.length_map]; omega)); (focus (simp only [List.length_map]; first | done | omega)); (with_reducible (intro _ _ hA)); (cases hA); (with_reducible (refine mguard_yes ?_; refine mop_c trivial ?_; refine mguard_yes ?_)); (with_reducible refine mm_lds hM ‹_› (map_at ?_) ?_); (focus omega); (with_reducible (refine mguard_yes ?_)))
        rw [← nameAt_at (ls := t.ls) (p := (t.ls.length : Int) - 1) (by omega) (by omega)]
        ((with_reducible (refine mop_cS trivial ?_ ?_)))
        · intro h9
          ((with_reducible (refine mop_c trivial ?_)))
          exact ⟨by rw [hR, decide_eq_true (.inr h9)], hM.st⟩
        · intro h9
          ((with_reducible (refine mop_c trivial ?_)))
          exact ⟨by rw [hR, decide_eq_false (fun h => h.elim (fun h => h0 (by rw [h]; rfl)) h9)], hM.st⟩
end
end Go.Proofs.Ytopcnkejobomaaa
namespace Go.Proofs.Ytopcnkejobomaaa
open Go.RowKit
theorem dir_cands {n l : Int} (h : 0 ≤ l ∧ l < n ∧ n ≤ 64) : dirL n l = cands n.toNat l.toNat := by
  have := dir_fin ⟨n.toNat, by omega⟩ ⟨l.toNat, by omega⟩ (by simp only; omega)
  simpa only [Int.toNat_of_nonneg h.1, Int.toNat_of_nonneg (show 0 ≤ n by omega)] using this
theorem mem_cands {n l : Nat} {x : Int} : x ∈ cands n l ↔ ∃ k, (1 ≤ k ∧ k ≤ 6) ∧ cand k l = x ∧ x ≤ 2 * n - 2 := by
  unfold cands
  simp only [List.mem_filter, List.mem_map, decide_eq_true_eq]
  constructor
  · rintro ⟨⟨k, hk, rfl⟩, h⟩
    exact ⟨k, by simp at hk; omega, rfl, h⟩
  · rintro ⟨k, hk, rfl, h⟩
    refine ⟨⟨k, ?_, rfl⟩, h⟩
    simp only [List.mem_cons, List.not_mem_nil, or_false]
    omega
theorem cand_eq {k l : Nat} (hk : 1 ≤ k ∧ k ≤ 6) (hl : l < 64) : cand k l % 2 = 1 ∧ 0 ≤ cand k l ∧ cand k l < 127 ∧ level (cand k l) = k := cand_fin ⟨k, by omega⟩ ⟨l, hl⟩ hk.1
theorem mem_dir {n l : Int} {i : Nat} (h : 0 ≤ l ∧ l < n ∧ n ≤ 64) (hi : (i : Int) + 1 < n) : 2 * (i : Int) + 1 ∈ dirL n l ↔ hld n (2 * i + 1) l := by
  have ht : thr n (2 * i + 1) := ⟨by omega, by omega, by omega⟩
  obtain ⟨-, -, -, -, hF, hT, -⟩ := bough_eq ht
  obtain ⟨⟨h1, h2⟩, h3⟩ := hold_fin ⟨i, by omega⟩ ⟨l.toNat, by omega⟩
  simp only [Int.toNat_of_nonneg h.1] at h1 h2 h3
  rw [dir_cands h, mem_cands]
  unfold hld
  rw [← hF, ← hT]
  unfold pFrom pTo
  rw [if_pos ht, if_pos ht]
  have hmin : l < min ((2 * (i : Int) + 1 + 1 + pw (level (2 * i + 1))) / 2) n ↔ l < (2 * (i : Int) + 1 + 1 + pw (level (2 * i + 1))) / 2 := by omega
  rw [hmin, h3]
  constructor
  · rintro ⟨k, hk, hc, -⟩
    have hl := (cand_eq (l := l.toNat) hk (by omega)).2.2.2
    rw [hc] at hl
    rw [hl]
    exact hc
  · intro hc
    exact ⟨(level (2 * i + 1)).toNat, by omega, hc, by omega⟩
theorem dir_mem {n l x : Int} (h : n ≤ 64) (hx : x ∈ dirL n l) : (0 ≤ l ∧ l < n) ∧ x = 2 * (x / 2) + 1 ∧ 0 ≤ x / 2 ∧ x / 2 + 1 < n := by
  by_cases hl : 0 ≤ l ∧ l < n
  · rw [dir_cands ⟨hl.1, hl.2, h⟩, mem_cands] at hx
    obtain ⟨k, hk, rfl, hle⟩ := hx
    obtain ⟨h1, h2, -⟩ := cand_eq (l := l.toNat) hk (by omega)
    refine ⟨hl, ?_⟩
    have : ((n.toNat : Nat) : Int) = n := Int.toNat_of_nonneg (by omega)
    omega
  · unfold dirL at hx
    rw [if_neg hl] at hx
    cases hx
theorem dir_nodup {n l : Int} (h : n ≤ 64) : (dirL n l).Nodup := by
  by_cases hl : 0 ≤ l ∧ l < n
  · rw [dir_cands ⟨hl.1, hl.2, h⟩]
    unfold cands
    have hc : ∀ k, 1 ≤ k → k ≤ 6 → level (cand k l.toNat) = k := fun k h1 h2 => (cand_eq (l := l.toNat) ⟨h1, h2⟩ (by omega)).2.2.2
    have hne : ∀ a b : Nat, 1 ≤ a → a ≤ 6 → 1 ≤ b → b ≤ 6 → a ≠ b → cand a l.toNat ≠ cand b l.toNat := fun a b h1 h2 h3 h4 hn e => by
      have := hc a h1 h2
      rw [e, hc b h3 h4] at this
      omega
    have hm : ([1, 2, 3, 4, 5, 6].map fun k => cand k l.toNat).Nodup := by
      simp only [List.map_cons, List.map_nil, List.nodup_cons, List.mem_cons, List.not_mem_nil, or_false, not_or, not_false_eq_true, List.nodup_nil, and_true]
      refine ⟨⟨?_, ?_, ?_, ?_, ?_⟩, ⟨?_, ?_, ?_, ?_⟩, ⟨?_, ?_, ?_⟩, ⟨?_, ?_⟩, ?_⟩ <;> exact hne _ _ (by omega) (by omega) (by omega) (by omega) (by omega)
    exact List.Pairwise.filter _ hm
  · unfold dirL
    rw [if_neg hl]
    exact List.nodup_nil
def fix {α : Type} (f : α → Bool) (l : List α) : Int := if l.findIdx f < l.length then (l.findIdx f : Int) else -1
theorem findIdx_at {α : Type} {f : α → Bool} {l : List α} {i : Nat} (h : i < l.length) (hb : ∀ j (hj : j < l.length), j < i → f l[j] = false) (ht : f l[i] = true) : l.findIdx f = i := by
  rw [List.findIdx_eq h]
  exact ⟨ht, fun j hj => by simpa using hb j (by omega) hj⟩
theorem findIdx_none {α : Type} {f : α → Bool} {l : List α} (hb : ∀ j (hj : j < l.length), f l[j] = false) : l.findIdx f = l.length := by
  rw [List.findIdx_eq_length]
  intro x hx
  obtain ⟨j, hj, rfl⟩ := List.getElem_of_mem hx
  simpa using hb j hj
theorem fix_at {α : Type} {f : α → Bool} {l : List α} {i : Nat} (h : i < l.length) (hb : ∀ j (hj : j < l.length), j < i → f l[j] = false) (ht : f l[i] = true) : fix f l = i := by
  unfold fix
  rw [findIdx_at h hb ht, if_pos h]
theorem fix_none {α : Type} {f : α → Bool} {l : List α} (hb : ∀ j (hj : j < l.length), f l[j] = false) : fix f l = -1 := by
  unfold fix
  rw [findIdx_none hb, if_neg (by omega)]
def Tr.place (t : Tr) (name : Int) : Int := if name < 1 then -1 else fix (fun l => decide (l.name = name)) t.ls
def Tr.sound (t : Tr) : Tr := if t.right then t else Tr.none
def putL (l : List Int) (x : Int) : List Int := l.takeWhile (· ≤ x) ++ x :: l.dropWhile (· ≤ x)
def bs' (l : List Int) (x : Int) : Nat := l.findIdx (fun y => decide (x ≤ y))
def ins (l : List Int) (x : Int) : List Int := l.take (bs' l x) ++ x :: l.drop (bs' l x)
theorem put_ins : ∀ {l : List Int} {x : Int}, x ∉ l → ins l x = putL l x
  | [], x, _ => by simp [ins, putL]
  | y :: r, x, h => by
    simp only [List.mem_cons, not_or] at h
    have ih := put_ins h.2
    by_cases hy : y ≤ x
    · have h1 : bs' (y :: r) x = bs' r x + 1 := by
        unfold bs'
        rw [List.findIdx_cons, decide_eq_false (by omega)]
        rfl
      have e1 : ins (y :: r) x = y :: ins r x := by unfold ins; rw [h1]; rfl
      have e2 : putL (y :: r) x = y :: putL r x := by
        unfold putL
        rw [List.takeWhile_cons, List.dropWhile_cons, decide_eq_true hy]
        rfl
      rw [e1, e2, ih]
    · have h1 : bs' (y :: r) x = 0 := by
        unfold bs'
        rw [List.findIdx_cons, decide_eq_true (by omega)]
        rfl
      have e1 : ins (y :: r) x = x :: y :: r := by unfold ins; rw [h1]; rfl
      have e2 : putL (y :: r) x = x :: y :: r := by
        unfold putL
        rw [List.takeWhile_cons, List.dropWhile_cons, decide_eq_false hy]
        rfl
      rw [e1, e2]
theorem looseB_spec {n : Int} {ls : List Lf} {x : Int} : ∀ {o : Option Int} {l : List Int}, looseB n ls x o l = true → (∀ p ∈ l, hld n x p ∧ nameAt ls p ≠ 0 ∧ ∀ q ∈ o, q < p) ∧ l.Pairwise (· < ·)
  | _, [], _ => ⟨fun _ h => (by cases h), .nil⟩
  | o, p :: r, h => by
    simp only [looseB, Bool.and_eq_true, decide_eq_true_eq] at h
    obtain ⟨h1, h2⟩ := h
    obtain ⟨h3, h4⟩ := looseB_spec h2
    refine ⟨fun y hy => ?_, .cons (fun y hy => (h3 y hy).2.2 p rfl) h4⟩
    rcases List.mem_cons.1 hy with rfl | hy
    · exact h1
    · obtain ⟨a, b, c⟩ := h3 y hy
      exact ⟨a, b, fun q hq => by have := h1.2.2 q hq; have := c p rfl; omega⟩
theorem parB_spec {n : Int} {ls : List Lf} : ∀ {x : Int} {ps : List Pn}, parB n ls x ps = true → ∀ i (hi : i < ps.length), (ps[i].set = true ∨ ps[i].isZero) ∧ looseB n ls (x + 2 * i) none ps[i].loose = true
  | _, [], _, i, hi => by cases hi
  | x, p :: r, h, i, hi => by
    simp only [parB, Bool.and_eq_true, Bool.or_eq_true, decide_eq_true_eq] at h
    cases i with
    | zero => simpa using h.1
    | succ i =>
      have := parB_spec h.2 i (by simpa using hi)
      have e : x + 2 * ((i + 1 : Nat) : Int) = x + 2 + 2 * (i : Int) := by omega
      rw [e]
      simpa using this
theorem leavesB_spec : ∀ {s : List Int} {ls : List Lf}, leavesB s ls = true → ∀ l ∈ ls, l = Lf.zero ∨ (1 ≤ l.name ∧ l.name ≤ 64)
  | _, [], _, _, h => by cases h
  | s, l :: r, h, x, hx => by
    unfold leavesB at h
    split at h
    · rename_i hz
      rcases List.mem_cons.1 hx with rfl | hx
      · exact .inl hz
      · exact leavesB_spec h x hx
    · simp only [Bool.and_eq_true, decide_eq_true_eq] at h
      rcases List.mem_cons.1 hx with rfl | hx
      · exact .inr h.1.1
      · exact leavesB_spec h.2 x hx
structure Tr.Rt (t : Tr) : Prop where
  len : t.ls.length ≤ 64 ∧ t.ps.length = t.ls.length - 1
  leaves : leavesB [] t.ls = true
  par : parB t.size t.ls 1 t.ps = true
  last : t.ls = [] ∨ 0 < nameAt t.ls (t.size - 1)
theorem Tr.rt {t : Tr} : t.right = true ↔ t.Rt := by
  unfold Tr.right
  simp only [Bool.and_eq_true, decide_eq_true_eq]
  exact ⟨fun ⟨⟨⟨a, b⟩, c⟩, d⟩ => ⟨a, b, c, d⟩, fun ⟨a, b, c, d⟩ => ⟨⟨⟨a, b⟩, c⟩, d⟩⟩
theorem Lf.zero_name {l : Lf} (h : l = Lf.zero ∨ (1 ≤ l.name ∧ l.name ≤ 64)) : l = Lf.zero ↔ l.name = 0 := by
  constructor
  · rintro rfl
    rfl
  · intro e
    exact h.resolve_right (by omega)
def Tr.gap (t : Tr) : Nat := t.ls.findIdx fun l => decide (l.name = 0)
theorem Tr.gap_le (t : Tr) : t.gap ≤ t.ls.length := List.findIdx_le_length
theorem Tr.Rt.gap_eq {t : Tr} (h : t.Rt) : (t.ls.findIdx fun l => decide (l = Lf.zero)) = t.gap := by
  have := leavesB_spec h.leaves
  unfold Tr.gap
  revert this
  generalize t.ls = ls
  intro hl
  induction ls with
  | nil => rfl
  | cons l r ih =>
    rw [List.findIdx_cons, List.findIdx_cons, ih fun x hx => hl x (List.mem_cons_of_mem _ hx)]
    simp only [Lf.zero_name (hl l (List.mem_cons_self ..))]
def addL (t : Tr) (l : Lf) : List Lf := (if t.gap = t.ls.length then t.ls ++ [l] else t.ls).set t.gap l
def addPs (t : Tr) : List Pn := if t.gap = t.ls.length ∧ 0 < t.gap then t.ps ++ [Pn.zero] else t.ps
theorem addL_len (t : Tr) (l : Lf) : (addL t l).length = if t.gap = t.ls.length then t.ls.length + 1 else t.ls.length := by
  unfold addL
  split <;> simp
def Tr.addR (t : Tr) (l : Lf) : Tr × Int × Int :=
  if l.name < 1 ∨ 64 < l.name then (Tr.none, 0, 1) else if 0 ≤ t.place l.name then (Tr.none, 0, 8) else if t.gap = 64 then (Tr.none, 0, 9) else
  (⟨addL t l, (addPs t).mapIdx fun i p => if p.set = true ∧ hld (addL t l).length (2 * i + 1) t.gap then { p with loose := putL p.loose t.gap } else p⟩, t.gap, 0)
def updA (x : Int) (p : Pn) : Pn := if p.set = true then { p with loose := ins p.loose x } else p
def onDir (f : Pn → Pn) (D : List Int) (ps : List Pn) : List Pn := D.foldl (fun ps x => ps.modify (x / 2).toNat f) ps
def Tr.addP (t : Tr) (l : Lf) : Tr × Int × Int :=
  if ¬ t.right = true ∨ l.name < 1 ∨ 64 < l.name then (Tr.none, 0, 1) else if 0 ≤ t.place l.name then (Tr.none, 0, 8) else if t.gap = t.ls.length ∧ t.gap = 64 then (Tr.none, 0, 9) else
  (⟨addL t l, onDir (updA t.gap) (dirL (addL t l).length t.gap) (addPs t)⟩, t.gap, 0)
theorem onDir_eq {f : Pn → Pn} : ∀ {D : List Int} {ps : List Pn}, D.Nodup → (∀ x ∈ D, x = 2 * (x / 2) + 1 ∧ 0 ≤ x / 2) → onDir f D ps = ps.mapIdx fun i p => if 2 * (i : Int) + 1 ∈ D then f p else p
  | [], ps, _, _ => by
    unfold onDir
    refine List.ext_getElem (by simp) fun i h1 h2 => ?_
    simp
  | x :: D, ps, hn, hD => by
    have hn' := List.nodup_cons.1 hn
    have ih := onDir_eq (f := f) (D := D) (ps := ps.modify (x / 2).toNat f) hn'.2 fun y hy => hD y (List.mem_cons_of_mem _ hy)
    have hx := hD x (List.mem_cons_self ..)
    unfold onDir at ih ⊢
    rw [List.foldl_cons, ih]
    refine List.ext_getElem (by simp) fun i h1 h2 => ?_
    simp only [List.getElem_mapIdx, List.getElem_modify, List.mem_cons]
    by_cases e : (x / 2).toNat = i
    · have e2 : 2 * (i : Int) + 1 = x := by omega
      rw [if_pos e, if_neg (by rw [e2]; exact hn'.1), if_pos (.inl e2)]
    · have e2 : ¬ 2 * (i : Int) + 1 = x := by omega
      rw [if_neg e]
      simp only [e2, false_or]
theorem onDir_dir {f : Pn → Pn} {n l : Int} {ps : List Pn} (h : 0 ≤ l ∧ l < n ∧ n ≤ 64) (hp : (ps.length : Int) + 1 = n) : onDir f (dirL n l) ps = ps.mapIdx fun i p => if hld n (2 * i + 1) l then f p else p := by
  rw [onDir_eq (dir_nodup h.2.2) fun x hx => by have := dir_mem h.2.2 hx; omega]
  refine List.ext_getElem (by simp) fun i h1 h2 => ?_
  simp only [List.getElem_mapIdx, List.length_mapIdx] at h1 ⊢
  simp only [mem_dir h (show (i : Int) + 1 < n by omega)]
theorem addPs_len {t : Tr} (h : t.Rt) (l : Lf) : ((addPs t).length : Int) + 1 = (addL t l).length := by
  have := t.gap_le
  have := h.len
  rw [addL_len]
  unfold addPs
  by_cases h1 : t.gap = t.ls.length
  · rw [if_pos h1]
    by_cases h2 : 0 < t.gap
    · rw [if_pos ⟨h1, h2⟩, List.length_append]
      simp
      omega
    · rw [if_neg (fun h => h2 h.2)]
      omega
  · rw [if_neg h1, if_neg (fun h => h1 h.1)]
    omega
theorem Tr.Rt.gap_free {t : Tr} (h : t.Rt) {i : Nat} (hi : i < t.ps.length) : (t.gap : Int) ∉ t.ps[i].loose := fun hm => by
  obtain ⟨h1, h2, -⟩ := (looseB_spec (parB_spec h.par i hi).2).1 _ hm
  unfold nameAt at h2
  rw [Int.toNat_natCast] at h2
  by_cases hg : t.gap < t.ls.length
  · rw [List.getElem?_eq_getElem hg] at h2
    have := List.findIdx_getElem (p := fun l : Lf => decide (l.name = 0)) (xs := t.ls) (w := hg)
    simp only [decide_eq_true_eq] at this
    exact h2 this
  · rw [List.getElem?_eq_none (by omega)] at h2
    exact h2 rfl
theorem add_same {t : Tr} (h : t.Rt) (l : Lf) : t.addP l = t.addR l := by
  unfold Tr.addP Tr.addR
  have hr : t.right = true := Tr.rt.2 h
  have hg := t.gap_le
  have hl := h.len
  simp only [hr, not_true_eq_false, false_or]
  by_cases h1 : l.name < 1 ∨ 64 < l.name
  · rw [if_pos h1, if_pos h1]
  rw [if_neg h1, if_neg h1]
  by_cases h2 : 0 ≤ t.place l.name
  · rw [if_pos h2, if_pos h2]
  rw [if_neg h2, if_neg h2]
  by_cases h3 : t.gap = 64
  · rw [if_pos h3, if_pos ⟨by omega, h3⟩]
  rw [if_neg h3, if_neg (fun h => h3 h.2)]
  have hn := addPs_len h l
  have hln : (addL t l).length ≤ 64 ∧ t.gap < (addL t l).length := by
    rw [addL_len]
    split <;> omega
  rw [onDir_dir ⟨by omega, by omega, by omega⟩ hn]
  congr 2
  refine List.ext_getElem (by simp) fun i k1 k2 => ?_
  simp only [List.getElem_mapIdx, List.length_mapIdx] at k1 ⊢
  have hfree : (t.gap : Int) ∉ (addPs t)[i].loose := by
    unfold addPs at k1 ⊢
    by_cases hc : t.gap = t.ls.length ∧ 0 < t.gap
    · simp only [if_pos hc, List.getElem_append]
      split
      · exact h.gap_free _
      · simp [Pn.zero]
    · simp only [if_neg hc] at k1 ⊢
      exact h.gap_free _
  by_cases hh : hld (addL t l).length (2 * i + 1) t.gap
  · simp only [hh, if_true, and_true, updA, put_ins hfree]
  · simp only [hh, if_false, and_false]
def Tr.nobody (t : Tr) (p : Int) : Prop := (p < 0 ∨ t.size ≤ p) ∨ nameAt t.ls p = 0
instance (t : Tr) (p : Int) : Decidable (t.nobody p) := by unfold Tr.nobody; infer_instance
def blankR (n p : Int) (ps : List Pn) : List Pn := ps.mapIdx fun i q => if hld n (2 * i + 1) p then Pn.zero else q
def blankP (n p : Int) (ps : List Pn) : List Pn := onDir (fun _ => Pn.zero) (dirL n p) ps
theorem blank_same {n l : Int} {ps : List Pn} (h : 0 ≤ l ∧ l < n ∧ n ≤ 64) (hp : (ps.length : Int) + 1 = n) : blankP n l ps = blankR n l ps := onDir_dir h hp
def keepN (ls : List Lf) : Nat → Nat
  | 0 => 0
  | n + 1 => if nameAt ls n = 0 then keepN ls n else n + 1
theorem keepN_le (ls : List Lf) : ∀ n, keepN ls n ≤ n
  | 0 => Nat.le_refl _
  | n + 1 => by
    unfold keepN
    split
    · exact Nat.le_trans (keepN_le ls n) (by omega)
    · exact Nat.le_refl _
def cut (ls : List Lf) (ps : List Pn) : Tr := ⟨ls.take (keepN ls ls.length), ps.take (keepN ls ls.length - 1)⟩
def Tr.remR (t : Tr) (p : Int) : Tr × Int := if t.nobody p then (Tr.none, 7) else (cut (t.ls.set p.toNat Lf.zero) (blankR t.size p t.ps), 0)
def Tr.remP (t : Tr) (p : Int) : Tr × Int := if ¬ t.right = true then (Tr.none, 1) else if t.nobody p then (Tr.none, 7) else (cut (t.ls.set p.toNat Lf.zero) (blankP t.size p t.ps), 0)
def Lf.key (l : Lf) (pub abv : H32) : Lf := ⟨l.name, pub, l.ver, abv⟩
def Tr.renR (t : Tr) (p : Int) (pub : H32) : Tr × Int := if t.nobody p then (Tr.none, 7) else (⟨t.ls.modify p.toNat (·.key pub hzero), blankR t.size p t.ps⟩, 0)
def Tr.renP (t : Tr) (p : Int) (pub : H32) : Tr × Int := if ¬ t.right = true then (Tr.none, 1) else if t.nobody p then (Tr.none, 7) else (⟨t.ls.modify p.toNat (·.key pub hzero), blankP t.size p t.ps⟩, 0)
theorem Tr.Rt.blank {t : Tr} (h : t.Rt) {p : Int} (hp : ¬ t.nobody p) : blankP t.size p t.ps = blankR t.size p t.ps := by
  have := h.len
  unfold Tr.nobody Tr.size at hp
  exact blank_same ⟨by omega, by unfold Tr.size; omega, by unfold Tr.size; omega⟩ (by unfold Tr.size; omega)
theorem rem_same {t : Tr} (h : t.Rt) (p : Int) : t.remP p = t.remR p := by
  unfold Tr.remP Tr.remR
  rw [if_neg (fun hh => hh (Tr.rt.2 h))]
  by_cases hp : t.nobody p
  · rw [if_pos hp, if_pos hp]
  · rw [if_neg hp, if_neg hp, h.blank hp]
theorem ren_same {t : Tr} (h : t.Rt) (p : Int) (pub : H32) : t.renP p pub = t.renR p pub := by
  unfold Tr.renP Tr.renR
  rw [if_neg (fun hh => hh (Tr.rt.2 h))]
  by_cases hp : t.nobody p
  · rw [if_pos hp, if_pos hp]
  · rw [if_neg hp, if_neg hp, h.blank hp]
end Go.Proofs.Ytopcnkejobomaaa
namespace Go.Proofs.Ytopcnkejobomaaa
open Go.RowKit Go.Lib
def bk (g e : Nat) (cs : List Value) : Res := fun B => B = [⟨g, e, cs, true⟩]
class AtK (L : List Res) (g : Nat) (e : outParam Nat) (cs : outParam (List Value)) (R : outParam (List Res)) : Prop where
  perm : L.Perm (bk g e cs :: R)
instance (L : List Res) (g e : Nat) (cs : List Value) : AtK (bk g e cs :: L) g e cs L := ⟨.refl _⟩
instance (priority := 900) (L R : List Res) (g e : Nat) (cs : List Value) (x : Res) [h : AtK L g e cs R] : AtK (x :: L) g e cs (x :: R) := ⟨(h.perm.cons x).trans (.swap ..)⟩
section
variable {P : Program} {H : Hp} {w0 w : World} {L R : List Res} {n cap e sz by_ g : Nat} {t : TypeId} {A : Option Addr} {ps : List (List Fd)} {cs : List Value} {X : List PanicEntry → World → Prop} {K : Value → World → Prop}
theorem Mem.raw (h : Mem H w0 L w) [k : AtA L (some ⟨g, 0, none⟩) n cap e sz ps R] : ∃ sp, (fls ps ++ sp).length = cap * sz ∧ n ≤ cap ∧ cap ≤ maxLen ∧ Els sz ps ∧ ps.length = n ∧ Mem H w0 (bk g e (fls ps ++ sp) :: R) w := by
  obtain ⟨B, ⟨B1, B2, rfl, ⟨h1, h2, h3⟩, h4⟩, hs', hb⟩ := (h.perm k.perm).own
  rcases h3 with ⟨hA, _⟩ | ⟨g', sp, hA, rfl, h5, h6, h7⟩
  · cases hA
  · cases hA
    exact ⟨sp, h5, h6, h7, h1, h2, ⟨_, ⟨_, B2, rfl, rfl, h4⟩, hs', hb⟩, h.fz⟩
theorem Mem.unraw {sp : List Value} (h : Mem H w0 (bk g e (fls ps ++ sp) :: R) w) (h1 : Els sz ps) (h2 : ps.length = n) (h5 : (fls ps ++ sp).length = cap * sz) (h6 : n ≤ cap) (h7 : cap ≤ maxLen) : Mem H w0 (rowR e sz (some ⟨g, 0, none⟩) n cap ps :: R) w := by
  obtain ⟨B, ⟨B1, B2, rfl, rfl, h4⟩, hs', hb⟩ := h.own
  exact ⟨⟨_, ⟨_, B2, rfl, ⟨h1, h2, .inr ⟨g, sp, rfl, rfl, h5, h6, h7⟩⟩, h4⟩, hs', hb⟩, h.fz⟩
theorem Mem.bkBlf (h : Mem H w0 L w) [k : AtK L g e cs R] : Blf w g e cs := by
  obtain ⟨B, ⟨B1, B2, rfl, rfl, _⟩, hs, _⟩ := (h.perm k.perm).own
  exact (hs.own ⟨g, e, cs, true⟩ (by simp)).blf
theorem Mem.setBk {cs' : List Value} (h : Mem H w0 (bk g e cs :: R) w) (hl : cs'.length = cs.length) : Mem H w0 (bk g e cs' :: R) (w.setRow g cs'.toArray) := by
  obtain ⟨B, ⟨B1, B2, rfl, rfl, h4⟩, hs, hb⟩ := h.own
  have hs' : St w0 (⟨g, e, cs, true⟩ :: B2) w := hs
  have hgg := hb ⟨g, e, cs, true⟩ (by simp)
  refine ⟨⟨_, ⟨[⟨g, e, cs', true⟩], B2, rfl, rfl, h4⟩, hs'.setRow hl, fun b hm => ?_⟩, h.fz.same fun b c hc => setRow_other w g b _ ?_⟩
  · rcases List.mem_cons.1 hm with rfl | hm
    · exact ⟨rfl, hgg.2⟩
    · exact hb b (List.mem_append.2 (.inr hm))
  · rintro rfl
    have := hgg.2
    simp only [hc] at this
    cases this
theorem Mem.allocBk (h : Mem H w0 L w) (e : TypeId) (cs : List Value) : Mem H w0 (bk w.heap.size e cs :: L) (w.alloc (.cells cs.toArray e)) := by
  obtain ⟨B, hl, hs', hb'⟩ := h.own
  refine ⟨⟨⟨w.heap.size, e, cs, true⟩ :: B, ⟨[⟨w.heap.size, e, cs, true⟩], B, rfl, rfl, hl⟩, hs'.alloc e cs, fun b hm => ?_⟩, h.fz.ext ((Only.refl _ w).alloc _)⟩
  rcases List.mem_cons.1 hm with rfl | hm
  · refine ⟨rfl, ?_⟩
    cases hh : H w.heap.size with
    | none => rfl
    | some c => have := h.fz.lt hh; omega
  · exact hb' b hm
theorem run_copy_blf {o dl dc sl sc : Nat} {a : Addr} {vs : List Value} {dT sT ty e2 : TypeId} {ks : List Bool} (hb : Blf w g e cs) (hu : P.underlying dT = some (.slice e2)) (hs : (P.info? e2).map (·.size) = some 1) (hn : vs.length = min sl dl) (hsrc : ∀ j v, vs[j]? = some v → w.cell? (a.add j) = some v) (hle : o + vs.length ≤ cs.length) (h1 : ∀ v ∈ vs, v.oneCell' = true) :
    (o_builtin .copy #[dT, sT] ty ks [.slice (some ⟨g, o, none⟩) dl dc, .slice (some a) sl sc]).run P w = .ok (.value (.int .i64 vs.length)) (w.setRow g (lay cs vs o).toArray) := by
  have hl := run_loadCells_list (P := P) w a vs hsrc
  have hst := run_storeCells_blf (P := P) o vs 0 cs w hb (by omega) h1
  rw [Nat.add_zero] at hst
  have hn' : Nat.min sl dl = vs.length := hn.symm
  cases hq : P.info? e2 with
  | none => simp [hq] at hs
  | some i =>
    have hi : i.size = 1 := by simpa [hq] using hs
    simp [o_builtin, invoke, builtin, Builtin.copy_, run_underlying hu, Builtin.lenOf, Builtin.firstCells, sizeOf, typeInfo, hq, hi, hn', hl, hst, goInt]
theorem mm_cpk {o dl dc sl sc : Nat} {a : Addr} {vs : List Value} {dT sT ty e2 : TypeId} {ks : List Bool} (h : Mem H w0 L w) [c : SliC P dT e2 1 by_] [k : AtK L g e cs R] (hn : vs.length = min sl dl) (hsrc : ∀ j v, vs[j]? = some v → w.cell? (a.add j) = some v) (hle : o + vs.length ≤ cs.length) (h1 : ∀ v ∈ vs, v.oneCell' = true)
    (hk : ∀ w', Mem H w0 (bk g e (lay cs vs o) :: R) w' → K (.int .i64 vs.length) w') : mop P (o_builtin .copy #[dT, sT] ty ks [.slice (some ⟨g, o, none⟩) dl dc, .slice (some a) sl sc]) w K X := by
  obtain ⟨ht, i, z, hi, -, h3, -⟩ := sli_spec c.ok
  exact mop_run (run_copy_blf h.bkBlf ht (by simp [hi, h3]) hn hsrc hle h1) (hk _ ((h.perm k.perm).setBk (lay_length _ _ _ hle)))
theorem dm_cpk {o dl dc sl sc : Nat} {a : Addr} {vs : List Value} {dT sT ty e2 : TypeId} {ks : List Bool} (h : Mem H w0 L w) [c : SliC P dT e2 1 by_] [k : AtK L g e cs R] (hn : vs.length = min sl dl) (hsrc : ∀ w', Mem H w0 L w' → ∀ j v, vs[j]? = some v → w'.cell? (a.add j) = some v) (hle : o + vs.length ≤ cs.length) (h1 : ∀ v ∈ vs, v.oneCell' = true)
    (hk : ∀ w', Mem H w0 (bk g e (lay cs vs o) :: R) w' → K (.int .i64 vs.length) w') : df P w (o_builtin .copy #[dT, sT] ty ks [.slice (some ⟨g, o, none⟩) dl dc, .slice (some a) sl sc]) false K :=
  df_no h fun w' h' => mm_cpk h' hn (hsrc w' h') hle h1 hk
theorem mm_apz {i k c e2 : Nat} {tn ty : TypeId} {ks : List Bool} {kn : IntKind} {z : Value} (h : Mem H w0 L w) [cc : SliC P t e2 1 by_] (htn : P.underlying tn = some (.int kn)) (hz : ((P.info? e2).bind (·.zero)) = some z) (hz1 : z.cells = #[z]) [a : AtK L g e cs R] (hi : i ≤ cs.length) (hk0 : 0 < k) (hg : c < i + k) (hb : (i + k) ≤ 9223372036854775807 ∧ (i + k) * by_ ≤ 70368744177664)
    (hk : ∀ g' cap' m w', i + k + m = cap' → cap' ≤ maxLen → Mem H w0 (bk g' e2 (cs.take i ++ List.replicate (k + m) z) :: L) w' → K (.slice (some ⟨g', 0, none⟩) (i + k) cap') w') : mop P (o_builtin .append #[t, tn] ty ks [.slice (some ⟨g, 0, none⟩) i c, .int .i64 k]) w K X := by
  obtain ⟨ht, ii, zv, hii, hzz, h3, h4, h5⟩ := sli_spec cc.ok
  obtain rfl : zv = z := by simpa [hii, hzz] using hz
  have hB := h.bkBlf (g := g)
  have hold : (Builtin.firstCells ii.size i (.slice (some ⟨g, 0, none⟩) i c)).run P w.drew = .ok (cs.take i).toArray w.drew := by
    rw [h3]
    exact run_firstCells_some w.drew 1 i ⟨g, 0, none⟩ i c (cs.take i) (by rw [List.length_take]; omega) (fun j v hj => by
      rw [Addr.add_lit, Nat.zero_add]
      show w.cell? ⟨g, j, none⟩ = some v
      rw [hB.cell]
      rw [List.getElem?_take] at hj
      split at hj
      · exact hj
      · cases hj)
  have hr1 := Lib.run_append_grow_zeros w t tn ty e2 ii zv .i64 kn ht htn hii hzz (some ⟨g, 0, none⟩) i c (cs.take i) hold k hk0 (by omega) hg (by omega) (by rw [h4]; have : k * by_ ≤ (i + k) * by_ := Nat.mul_le_mul_right _ (by omega); omega) (by rw [h4]; exact growslice_fits hg (by omega))
  have hge := grownCap_ge w (i + k) c e2
  have hle := grownCap_le_maxLen w (i + k) c e2 (by simp only [maxLen]; omega)
  obtain ⟨m, hm⟩ : ∃ m, i + k + m = grownCap w (i + k) c e2 := ⟨grownCap w (i + k) c e2 - (i + k), by omega⟩
  have hzc : ∀ q, Builtin.zeroCells zv.cells q = (List.replicate q zv).toArray := fun q => by
    rw [hz1]
    refine Array.ext (by simp [Builtin.zeroCells]) fun j h1 h2 => ?_
    simp [Builtin.zeroCells, Nat.mod_one]
  refine mop_run (u := .slice (some ⟨w.heap.size, 0, none⟩) (i + k) (grownCap w (i + k) c e2)) (w' := w.drew.alloc (.cells (cs.take i ++ List.replicate (k + m) zv).toArray e2)) ?_ (hk _ _ m _ hm hle ?_)
  · simp only [o_builtin, invoke, builtin]
    rw [Sem.run_bind, hr1, Result.andThen_ok]
    have e1 : (cs.take i).toArray ++ Builtin.zeroCells zv.cells k ++ Builtin.zeroCells zv.cells (grownCap w (i + k) c e2 - (i + k)) = (cs.take i ++ List.replicate (k + m) zv).toArray := by
      rw [hzc, hzc, ← hm, Nat.add_sub_cancel_left]
      simp
    rw [e1]
    rfl
  · exact (h.drawn ⟨1, rfl⟩).allocBk e2 _
end
end Go.Proofs.Ytopcnkejobomaaa
namespace Go.Proofs.Ytopcnkejobomaaa
open Go.RowKit Go.Lib
theorem lay_mid (A X B Y : List Value) (h : X.length = Y.length) : lay (A ++ (X ++ B)) Y A.length = A ++ (Y ++ B) := by
  have := lay_in A X B Y 0 (by omega)
  rw [Nat.add_zero] at this
  rw [this]
  congr 2
  unfold lay
  rw [Nat.zero_add, List.take_zero, List.nil_append, List.drop_eq_nil_of_le (by omega), List.append_nil]
theorem lay_midN {A X B Y cs : List Value} {o : Nat} (e : cs = A ++ (X ++ B)) (ho : o = A.length) (h : X.length = Y.length) : lay cs Y o = A ++ (Y ++ B) := by
  subst e ho
  exact lay_mid A X B Y h
theorem split_drop {α : Type} (V : List α) (i : Nat) (h : i < V.length) : V = V.take i ++ ([V[i]] ++ V.drop (i + 1)) := by simp
theorem split_app {α : Type} (V : List α) (i : Nat) (h : i < V.length) : V.take i ++ ([V[i]] ++ V.drop (i + 1)) = V := (split_drop V i h).symm
theorem lay_shift (V sp : List Value) (x : Value) (i : Nat) (hi : i < V.length) (hsp : 0 < sp.length) : lay (lay (V ++ sp) (V.drop i) (i + 1)) [x] i = V.take i ++ ([x] ++ (V.drop i ++ sp.drop 1)) := by
  obtain ⟨u, sp', rfl⟩ : ∃ u r, sp = u :: r := by
    cases sp with
    | nil => simp at hsp
    | cons u r => exact ⟨u, r, rfl⟩
  have ht : (V.take i).length = i := by simp; omega
  have h1 : lay (V ++ u :: sp') (V.drop i) (i + 1) = (V.take i ++ [V[i]]) ++ (V.drop i ++ sp') := lay_midN (X := V.drop (i + 1) ++ [u]) (by
    rw [← List.append_assoc, ← List.append_assoc, List.append_assoc (V.take i), split_app V i hi, List.append_assoc]
    rfl) (by simp; omega) (by simp; omega)
  rw [h1, List.append_assoc]
  exact lay_midN (X := [V[i]]) rfl ht.symm rfl
theorem lay_grow (V : List Value) (x z : Value) (i m : Nat) (hi : i < V.length) : lay (lay (V.take i ++ List.replicate (V.length + 1 - i + m) z) [x] i) (V.drop i) (i + 1) = V.take i ++ ([x] ++ (V.drop i ++ List.replicate m z)) := by
  have ht : (V.take i).length = i := by simp; omega
  have h1 : lay (V.take i ++ List.replicate (V.length + 1 - i + m) z) [x] i = V.take i ++ ([x] ++ List.replicate (V.length - i + m) z) := lay_midN (X := [z]) (by
    rw [show V.length + 1 - i + m = V.length - i + m + 1 by omega, List.replicate_succ]
    rfl) ht.symm rfl
  rw [h1]
  refine (lay_midN (A := V.take i ++ [x]) (X := List.replicate (V.length - i) z) (B := List.replicate m z) ?_ (by simp; omega) (by simp)).trans (by simp)
  rw [List.replicate_append_replicate]
  simp
theorem vals_ints8 (l : List Int) : fls (ints8 l) = l.map (Value.int .i64) := fls_ints8 l
theorem one_vals (l : List Int) : ∀ v ∈ l.map (Value.int .i64), v.oneCell' = true := by
  intro v hv
  obtain ⟨_, _, rfl⟩ := List.mem_map.1 hv
  rfl
theorem p_sliceL {P : Program} {t : TypeId} {sz n cap : Nat} {a : Option Addr} {kk : IntKind} {ll : Int} [cs : SliS P t sz] (h0 : 0 ≤ ll) (h1 : ll ≤ n) : ∃ v, Pur P (o_slice t (.slice a n cap) (some (.int kk ll)) none none) v := ⟨_, fun w => by
  have h2 := run_slice_l (P := P) w t a n cap cs.ok.1 kk ll h0 h1
  have h3 : (sizeOf (P.elem t)).run P w = .ok sz w := run_size cs.ok.2 w
  simp only [o_slice, sv, Sem.run_bind, run_sliceAt_slice w t _ _ _ _ cs.ok.1, h2, h3, Result.andThen_ok]
  rfl⟩
instance {P : Program} (t ty : TypeId) (ks : List Bool) (a : Option Addr) (n cap : Nat) [h : IsSl P t] : StepC P (o_builtin .cap #[t] ty ks [.slice a n cap]) True (.int .i64 cap) := ⟨fun _ w => by
  obtain ⟨e, h⟩ := h.ok
  simp [o_builtin, invoke, Builtin.cap_, run_underlying h, go_sem]⟩
section
variable {H : Hp} {w0 w : World} {L R R2 : List Res} {A : Option Addr} {cap g vb e e2 : Nat} {cs cs2 : List Value} {K : Value → World → Prop} {X : List PanicEntry → World → Prop}
theorem Mem.bkNe (h : Mem H w0 L w) [k : AtK L g e cs R] [k2 : AtK R vb e2 cs2 R2] : g ≠ vb ∧ Blf w g e cs ∧ Blf w vb e2 cs2 := by
  obtain ⟨B, ⟨B1, B2, rfl, rfl, B3, B4, rfl, rfl, _⟩, hs, _⟩ := (h.perm (k.perm.trans (k2.perm.cons _))).own
  refine ⟨?_, (hs.own ⟨g, e, cs, true⟩ (by simp)).blf, (hs.own ⟨vb, e2, cs2, true⟩ (by simp)).blf⟩
  have := (List.pairwise_cons.1 hs.ne).1 ⟨vb, e2, cs2, true⟩ (by simp)
  exact this
theorem Mem.bkCell (h : Mem H w0 L w) [k : AtK L g e cs R] (j : Nat) : w.cell? ⟨g, j, none⟩ = cs[j]? := by
  rw [h.bkBlf.cell]
theorem run_ocall_ext {P : Program} {f : Nat} {w' : World} {args : List Value} {v : Value} (h : (callFunc f args.toArray).run P w = .ok (.value v) w') : (o_call (fv f) args).run P w = .ok (.value v) w' := by
  simp [o_call, fv, Deferred.ofValue, invoke, h]
theorem mm_ovl {o la ca lb cb : Nat} (h : Mem H w0 L w) [k : AtK L g 3 cs R] [k2 : AtK R vb 3 cs2 R2] (hc : cs ≠ []) (hk : K (.bool false) w) : mop Try.prog (o_call (fv 114) [.slice (some ⟨vb, 0, none⟩) la ca, .slice (some ⟨g, o, none⟩) lb cb]) w K X := by
  obtain ⟨hne, ⟨fr, hb, h1⟩, ⟨fr2, hb2, h2⟩⟩ := h.bkNe (g := g) (vb := vb)
  obtain rfl : fr = (0, 0) := h1.resolve_right fun h => absurd h.2 (by decide)
  obtain rfl : fr2 = (0, 0) := h2.resolve_right fun h => absurd h.2 (by decide)
  refine mop_run (run_ocall_ext ?_) hk
  rw [run_callFunc_extern Try.func114 (by kernel_rfl) (by kernel_rfl) (by kernel_rfl) (e := Extern.SlicesOverlaps.overlaps #[29, 29] #[4]) (by kernel_rfl)]
  show ((Extern.SlicesOverlaps.overlaps #[29, 29] #[4] #[.slice (some ⟨vb, 0, none⟩) la ca, .slice (some ⟨g, o, none⟩) lb cb]).run Try.prog w).andThen _ = _
  rw [Lib.run_overlaps_apart w 29 4 3 (by kernel_rfl) 1 (fun w => run_size (by kernel_rfl) w) ⟨vb, 0, none⟩ ⟨g, o, none⟩ la ca lb cb (fun e => hne e.symm) 3 3 cs2.length cs.length (by simp [World.shape?, hb2]) (by simp [World.shape?, hb]) (by cases cs with
    | nil => exact absurd rfl hc
    | cons => simp) (by simp [World.frozen?, hb2]) (by simp [World.frozen?, hb2])]
  rfl
theorem insert_ok (l : List Int) (i : Nat) (x : Int) (hi : i ≤ l.length) (hl : l.length < 1000000) (hM : Mem H w0 (rowR 3 1 A l.length cap (ints8 l) :: rowR 3 1 (some ⟨vb, 0, none⟩) 1 1 [[.one (.int .i64 x)]] :: L) w) :
    Calls Try.prog 71 #[.slice A l.length cap, .int .i64 i, .slice (some ⟨vb, 0, none⟩) 1 1] w fun en w' => ∃ v, en = .returned v ∧ ∃ A' cap', v = .slice A' (l.length + 1) cap' ∧ Mem H w0 (rowR 3 1 A' (l.length + 1) cap' (ints8 (l.take i ++ x :: l.drop i)) :: L) w' := by
  obtain ⟨-, hcl, hcm, -⟩ := hM.rowLen ⟨.refl _⟩
  have hcm' : cap ≤ 9223372036854775807 := hcm
  refine C_slices_Insert_int_int ?_
  unfold F_slices_Insert_int_int
  obtain ⟨v0, hv0⟩ := p_sliceL (P := Try.prog) (t := 29) (a := A) (n := l.length) (cap := cap) (kk := .i64) (ll := i) (by omega) (by omega)
  refine mop_pur hv0 ?_
  ((with_reducible (refine mop_c trivial ?_; refine mop_cF trivial ?_ ?_)); (focus (first | assumption | omega | with_reducible rfl | exact fun h => Bool.noConfusion h)); (with_reducible (refine mif_false ?_; refine mop_c trivial ?_)))
  ((with_reducible (refine mop_cS trivial ?_ ?_)))
  · intro he
    obtain rfl : i = l.length := by omega
    ((with_reducible (refine mif_true ?_; refine mm_appo hM ?_ ?_)); (focus omega); (with_reducible (clear hM; intro _ _ _ hM)))
    refine ⟨_, rfl, _, _, rfl, ?_⟩
    rw [List.take_length, List.drop_length, ints8_app]
    exact hM
  · intro hne
    have hlt : i < l.length := by omega
    obtain ⟨gg, rfl⟩ := hM.rowAt ⟨.refl _⟩ (by omega)
    obtain ⟨sp, h5, h6, h7, hE, hlen, hM⟩ := hM.raw (g := gg)
    obtain ⟨sp2, h52, -, -, -, -, hM⟩ := hM.raw (g := vb)
    obtain rfl : sp2 = [] := by simp [fls, fl, Fd.cells] at h52; exact h52
    rw [vals_ints8] at h5 hM
    have hone := one_vals l
    have hvl : (l.map (Value.int .i64)).length = l.length := by simp
    generalize hV : l.map (Value.int .i64) = V at *
    rw [show fls [[Fd.one (.int .i64 x)]] ++ [] = [.int .i64 x] from rfl] at hM
    have hg1 : ∀ j v, (V.drop i)[j]? = some v → (V ++ sp)[0 + (i : Int).toNat * 1 + j]? = some v := fun j v hj => by
      rw [List.getElem?_drop] at hj
      rw [show 0 + (i : Int).toNat * 1 + j = i + j by omega, List.getElem?_append_left (List.getElem?_eq_some_iff.1 hj).1]
      exact hj
    have hnil : V ++ sp ≠ [] := fun e => by
      have : (V ++ sp).length = 0 := by rw [e]; rfl
      omega
    have hone2 : ∀ v ∈ V.drop i, v.oneCell' = true := fun v hv => hone v (List.mem_of_mem_drop hv)
    have hfin : fls (ints8 (l.take i ++ x :: l.drop i)) = V.take i ++ ([.int .i64 x] ++ V.drop i) := by
      rw [vals_ints8, ← hV]
      simp
    have hels := els_ints8 (l.take i ++ x :: l.drop i)
    have hll : (ints8 (l.take i ++ x :: l.drop i)).length = l.length + 1 := by simp [ints8]; omega
    ((with_reducible (refine mif_false ?_; refine mop_c ?_ ?_)); (focus omega); (with_reducible (refine mop_c trivial ?_)))
    ((with_reducible (refine mop_cS trivial ?_ ?_)))
    · intro hroom
      ((with_reducible (refine mif_true ?_; refine mop_c ?_ ?_)); (focus omega); (with_reducible (refine mop_c ?_ ?_)); (focus omega); (with_reducible (refine mop_c ?_ ?_)); (focus omega))
      rw [show ((l.length : Int) + ((1 : Nat) : Int) - (i : Int)) = ((l.length + 1 - i : Nat) : Int) by omega, Int.toNat_natCast]
      refine mm_apz (g := gg) (z := .int .i64 0) (kn := .i64) hM (by kernel_rfl) (by kernel_rfl) rfl (by rw [List.length_append]; omega) (by omega) (by omega) ⟨by omega, by omega⟩ (fun g2 cap2 m w2 hc2 hc3 hM => ?_)
      ((with_reducible (refine mop_c ?_ ?_)); (focus omega))
      refine mm_cpk (g := g2) (vs := [.int .i64 x]) hM (by simp; omega) (fun j v hj => by rw [Addr.add_lit, Nat.zero_add, hM.bkCell (g := vb)]; exact hj) (by simp; omega) (fun v hv => by rw [List.mem_singleton.1 hv]; rfl) (fun w3 hM => ?_)
      ((with_reducible (refine dp_c ?_ ?_)); (focus omega); (with_reducible (refine dp_c ?_ ?_)); (focus omega); (with_reducible (refine dp_c ?_ ?_)); (focus omega))
      refine dm_cpk (g := g2) (vs := V.drop i) hM (by simp; omega) (fun w' hM j v hj => by rw [Addr.add_lit, hM.bkCell (g := gg)]; exact hg1 j v hj) (by rw [lay_length _ _ _ (by simp; omega)]; simp; omega) hone2 (fun w4 hM => ?_)
      ((with_reducible (refine mm_end hM ?_; clear hM; intro _ hM)))
      have hgr := lay_grow V (.int .i64 x) (.int .i64 0) i m (by omega)
      rw [show 0 + (i : Int).toNat * 1 = i by omega, show 0 + ((i : Int) + ((1 : Nat) : Int)).toNat * 1 = i + 1 by omega, List.take_append_of_le_length (by omega), show l.length + 1 - i + m = V.length + 1 - i + m by omega, hgr, ← List.append_assoc, ← List.append_assoc, List.append_assoc (V.take i), ← hfin] at hM
      have hM := hM.unraw hels hll (cap := cap2) ?_ (by omega) hc3
      refine ⟨_, rfl, some ⟨g2, 0, none⟩, cap2, ?_, hM.sub⟩
      · congr 1
        omega
      · rw [List.length_append, els_ints8 _ |>.len, hll]
        simp
        omega
    · intro hroom
      ((with_reducible (refine mif_false ?_; refine mop_c ?_ ?_)); (focus omega); (with_reducible (refine mop_c ?_ ?_)); (focus omega); (with_reducible (refine mop_c ?_ ?_)); (focus omega); (with_reducible (refine mop_c ?_ ?_)); (focus omega))
      rw [show ((l.length : Int) + ((1 : Nat) : Int)).toNat = l.length + 1 by omega, show ((i : Int) + ((1 : Nat) : Int)).toNat = i + 1 by omega]
      refine mm_ovl (g := gg) (vb := vb) hM hnil ?_
      ((with_reducible (refine mop_c trivial ?_; refine mif_true ?_; refine dp_c ?_ ?_)); (focus omega); (with_reducible (refine dp_c ?_ ?_)); (focus omega); (with_reducible (refine dp_c ?_ ?_)); (focus omega))
      refine dm_cpk (g := gg) (vs := V.drop i) hM (by simp; omega) (fun w' hM j v hj => by rw [Addr.add_lit, hM.bkCell (g := gg)]; exact hg1 j v hj) (by rw [List.length_drop]; omega) hone2 (fun w' hM => ?_)
      ((with_reducible (refine mm_end hM ?_; clear hM; intro _ hM; refine mop_c ?_ ?_)); (focus omega))
      refine mm_cpk (g := gg) (vs := [.int .i64 x]) hM (by simp; omega) (fun j v hj => by rw [Addr.add_lit, Nat.zero_add, hM.bkCell (g := vb)]; exact hj) (by rw [lay_length] <;> simp only [List.length_singleton, List.length_drop] <;> omega) (fun v hv => by rw [List.mem_singleton.1 hv]; rfl) (fun w' hM => ?_)
      skip
      have hsh := lay_shift V sp (.int .i64 x) i (by omega) (by rw [List.length_append] at h5; omega)
      rw [show 0 + (i : Int).toNat * 1 = i by omega, show 0 + ((i : Int) + ((1 : Nat) : Int)).toNat * 1 = i + 1 by omega, hsh, ← List.append_assoc, ← List.append_assoc, List.append_assoc (V.take i), ← hfin] at hM
      have hM := hM.unraw hels hll (cap := cap) ?_ (by omega) h7
      refine ⟨_, rfl, _, _, rfl, hM.sub⟩
      rw [List.length_append] at h5
      rw [List.length_append, (els_ints8 _).len, hll, List.length_drop]
      omega
theorem less_ok (a b : Int) (w : World) : Calls Try.prog 112 #[.int .i64 a, .int .i64 b] w fun en w' => en = .returned (.bool (decide (a < b))) ∧ St w [] w' := by
  have hM := Mem.start (Fz.of w)
  refine C_cmp_Less_int ?_
  unfold F_cmp_Less_int
  have hn : ∀ (x : Int) (w : World), Calls Try.prog 133 #[.int .i64 x] w fun en w' => en = .returned (.bool false) ∧ St w [] w' := fun x w => by
    have hM := Mem.start (Fz.of w)
    refine C_cmp_isNaN_int ?_
    unfold F_cmp_isNaN_int
    refine mop_cF trivial (by simp) ?_
    exact ⟨rfl, hM.st⟩
  refine mm_pure hM (hn a w) (fun w hM => ?_)
  ((with_reducible ((iterate 3 refine mguard_n2 ?_); refine mop_c trivial ?_; refine mguard_yes ?_; refine mop_c trivial ?_; refine mguard_yes ?_; refine mop_c trivial ?_; refine mguard_yes ?_)))
  ((with_reducible (refine mop_cS trivial ?_ ?_)))
  all_goals
    intro h
    ((with_reducible (refine mop_c trivial ?_)))
    exact ⟨by simp [h], hM.st⟩
instance (a b : Int) : PurC Try.prog 112 [.int .i64 a, .int .i64 b] True (.bool (decide (a < b))) := ⟨fun _ w => less_ok a b w⟩
theorem nan_ok (x : Int) (w : World) : Calls Try.prog 113 #[.int .i64 x] w fun en w' => en = .returned (.bool false) ∧ St w [] w' := by
  have hM := Mem.start (Fz.of w)
  refine C_slices_isNaN_int ?_
  unfold F_slices_isNaN_int
  refine mop_cF trivial (by simp) ?_
  exact ⟨rfl, hM.st⟩
instance (x : Int) : PurC Try.prog 113 [.int .i64 x] True (.bool false) := ⟨fun _ w => nan_ok x w⟩
theorem bsearch_ok {a : Nat} (l : List Int) (x : Int) (hs : l.Pairwise (· < ·)) (hl : l.length < 1000000) (h1 : Sl H 1 A (ints8 l)) (hf : Fz H w) :
    Calls Try.prog 70 #[.slice A l.length a, .int .i64 x] w fun en w' => (∃ b, en = .returned (.tuple #[.int .i64 (bs' l x), .bool b])) ∧ St w [] w' := by
  have hM := Mem.start hf
  refine C_slices_BinarySearch_int_int ?_
  unfold F_slices_BinarySearch_int_int
  ((with_reducible (refine mop_c trivial ?_)))
  refine ⟨fun v u w' => ∃ i j : Nat, v = .int .i64 i ∧ u = .int .i64 j ∧ i ≤ j ∧ j ≤ l.length ∧ (∀ k (hk : k < l.length), k < i → l[k] < x) ∧ (∀ k (hk : k < l.length), j ≤ k → x ≤ l[k]) ∧ hM.now w', fun v u _ => match v, u with | .int _ i, .int _ j => (j - i).toNat | _, _ => 0, ⟨0, l.length, rfl, rfl, by omega, by omega, fun k _ h => by omega, fun k h h2 => by omega, hM⟩, ?_⟩
  rintro v u i' w2 ⟨i, j, rfl, rfl, hij, hj, hlo, hhi, hM⟩
  ((with_reducible (refine mop_cS trivial ?_ ?_)))
  · intro hlt
    ((with_reducible (refine mif_true ?_; refine mop_c ?_ ?_)); (focus omega); (with_reducible (refine mop_c trivial ?_; refine mop_c ?_ ?_)); (focus omega))
    obtain ⟨m, hm⟩ : ∃ m, (i + j) / 2 = m := ⟨_, rfl⟩
    rw [show ((i : Int) + (j : Int)) % 18446744073709551616 / 2 ^ Int.toNat 1 = (m : Int) by show _ / 2 = _; omega]
    have hml : m < l.length := by omega
    ((with_reducible (refine mop_c ?_ ?_)); (focus omega); (with_reducible refine mm_ixs ‹_› ?_ ?_ ?_); (focus (simp only [List.length_map]; omega)); (focus (simp only [List.length_map]; first | done | omega)); (with_reducible (intro _ _ hA)); (cases hA); (with_reducible refine mm_lds0 hM ‹_› (map_atI ?_) ?_); (focus omega); (with_reducible (refine mm_purC hM ?_ ?_)); (focus (first | exact trivial | assumption | omega)); (with_reducible (clear hM; intro _ hM)))
    by_cases hc : l[m] < x
    · rw [decide_eq_true hc]
      ((with_reducible (refine mif_true ?_; refine mop_c ?_ ?_)); (focus omega))
      refine ⟨⟨m + 1, j, rfl, rfl, by omega, hj, fun k hk hkm => ?_, hhi, hM⟩, by simp only; omega⟩
      rcases Nat.lt_or_ge k m with h | h
      · have := List.pairwise_iff_getElem.1 hs k m hk hml h
        omega
      · obtain rfl : k = m := by omega
        exact hc
    · rw [decide_eq_false hc]
      ((with_reducible (refine mif_false ?_)))
      refine ⟨⟨i, m, rfl, rfl, by omega, by omega, hlo, fun k hk hkm => ?_, hM⟩, by simp only; omega⟩
      rcases Nat.lt_or_ge m k with h | h
      · have := List.pairwise_iff_getElem.1 hs m k hml hk h
        omega
      · obtain rfl : k = m := by omega
        omega
  · intro hge
    obtain rfl : i = j := by omega
    have hb : bs' l x = i := by
      unfold bs'
      by_cases h : i < l.length
      · exact findIdx_at h (fun k hk hki => by have := hlo k hk hki; simp only [decide_eq_false_iff_not]; omega) (by simpa using hhi i h (Nat.le_refl _))
      · rw [findIdx_none fun k hk => by have := hlo k hk (by omega); simp only [decide_eq_false_iff_not]; omega]
        omega
    rw [hb]
    ((with_reducible (refine mif_false ?_)))
    ((with_reducible (refine mop_cS trivial ?_ ?_)))
    · intro hlt
      have hlt' : i < l.length := by omega
      ((with_reducible (refine mguard_yes ?_; refine mop_c trivial ?_; refine mguard_yes ?_; refine mop_c trivial ?_; refine mguard_yes ?_)); (with_reducible refine mm_ixs ‹_› ?_ ?_ ?_); (focus (simp only [List.length_map]; omega)); (focus (simp only [List.length_map]; first | done | omega)); (with_reducible (intro _ _ hA)); (cases hA); (with_reducible (refine mguard_yes ?_)); (with_reducible refine mm_lds0 hM ‹_› (map_atI ?_) ?_); (focus omega); (with_reducible (refine mguard_yes ?_; refine mop_c trivial ?_; refine mguard_yes ?_)))
      ((with_reducible (refine mop_cS trivial ?_ ?_)))
      all_goals
        intro h
        (first | ((with_reducible (refine mguard_yes ?_; refine mop_c trivial ?_; refine mguard_yes ?_; refine mop_c trivial ?_; refine mguard_yes ?_; refine mop_c trivial ?_; refine mguard_yes ?_)); (with_reducible refine mm_ixs ‹_› ?_ ?_ ?_); (focus (simp only [List.length_map]; omega)); (focus (simp only [List.length_map]; first | done | omega)); (with_reducible (intro _ _ hA)); (cases hA); (with_reducible (refine mguard_yes ?_)); (with_reducible refine mm_lds0 hM ‹_› (map_atI ?_) ?_); (focus omega); (with_reducible (refine mguard_yes ?_; refine mm_purC hM ?_ ?_)); (focus (first | exact trivial | assumption | omega)); (with_reducible (clear hM; intro _ hM; refine mguard_yes ?_; refine mop_c trivial ?_; refine mguard_n2 ?_; refine mguard_n2 ?_; refine mguard_yes ?_; refine mop_c trivial ?_; refine mguard_yes ?_; refine mop_c trivial ?_; refine mop_c trivial ?_))) | ((with_reducible (refine mguard_yes ?_; refine mop_c trivial ?_; (iterate 6 refine mguard_n1 ?_); refine mguard_un ?_; refine mguard_un ?_; refine mguard_n1 ?_; refine mguard_yes ?_; refine mop_c trivial ?_; refine mop_c trivial ?_))))
        exact ⟨⟨_, rfl⟩, hM.st⟩
    · intro hlt
      ((with_reducible ((iterate 7 refine mguard_n2 ?_); (iterate 9 refine mguard_un ?_); refine mguard_n2 ?_; refine mop_c trivial ?_)))
      exact ⟨⟨_, rfl⟩, hM.st⟩
theorem index_ok {a : Nat} (ls : List Lf) (hl : ls.length < 1000000) (h1 : Sl H 97 A (ls.map Lf.fds)) (hf : Fz H w) :
    Calls Try.prog 69 #[.slice A ls.length a, lv Lf.zero] w fun en w' => en = .returned (.int .i64 (fix (fun l => decide (l = Lf.zero)) ls)) ∧ St w [] w' := by
  have hM := Mem.start hf
  refine C_slices_Index_api_Leaf_api_Leaf ?_
  unfold F_slices_Index_api_Leaf_api_Leaf
  ((with_reducible (refine mm_box hM ?_; clear hM; intro _ _ hM; refine mop_c trivial ?_)))
  rename_i g1 _
  refine ⟨fun v w' => ∃ i : Nat, v = .int .i64 i ∧ i ≤ ls.length ∧ (∀ j (hj : j < ls.length), j < i → decide (ls[j] = Lf.zero) = false) ∧ hM.now w', fun v _ => match v with | .int _ k => ls.length - k.toNat | _ => 0, ⟨0, rfl, by omega, fun j _ h => by omega, hM⟩, ?_⟩
  rintro v u w3 ⟨i, rfl, hi, hlo, hM⟩
  ((with_reducible (refine mop_cS trivial ?_ ?_)))
  · intro hlt
    have hlt' : i < ls.length := by omega
    ((with_reducible (refine mif_true ?_; refine dm_ld hM ?_)); (with_reducible refine dp_ixs ‹_› ?_ ?_ ?_); (focus (simp only [List.length_map]; omega)); (focus (simp only [List.length_map]; first | done | omega)); (with_reducible (intro _ _ hA)); (cases hA); (with_reducible refine dm_lds0 hM ‹_› (map_atI ?_) ?_); (focus omega))
    ((with_reducible (refine dp_cS trivial ?_ ?_)))
    · intro h
      ((with_reducible (refine mm_end hM ?_; clear hM; intro _ hM; refine mif_true ?_)))
      refine ⟨?_, hM.st⟩
      rw [fix_at hlt' hlo (decide_eq_true ((lf_zero _).2 ⟨h.1.symm, h.2.1.symm, h.2.2.1.symm, h.2.2.2.symm⟩))]
    · intro h
      ((with_reducible (refine mm_end hM ?_; clear hM; intro _ hM; refine mif_false ?_; refine mop_c ?_ ?_)); (focus omega))
      refine ⟨⟨i + 1, rfl, by omega, fun j hj hji => ?_, hM⟩, by simp only; omega⟩
      rcases Nat.lt_or_ge j i with h2 | h2
      · exact hlo j hj h2
      · obtain rfl : j = i := by omega
        refine decide_eq_false fun e => h ?_
        obtain ⟨a1, a2, a3, a4⟩ := (lf_zero _).1 e
        exact ⟨a1.symm, a2.symm, a3.symm, a4.symm⟩
  · intro hge
    ((with_reducible (refine mif_false ?_)))
    refine ⟨?_, hM.st⟩
    rw [fix_none fun j hj => hlo j hj (by omega)]
end
end Go.Proofs.Ytopcnkejobomaaa
namespace Go.Proofs.Ytopcnkejobomaaa
open Go.RowKit Go.Lib
abbrev Xp := Pn × Option Addr × Nat
abbrev xrow (x : Xp) : List Fd := x.1.row x.2.1 x.2.2
abbrev xres (x : Xp) : Res := rowR 3 1 x.2.1 x.1.loose.length x.2.2 (ints8 x.1.loose)
def allR (X : List Xp) : Res := fun B => Hl (X.map xres) B
def restR (X : List Xp) (j : Nat) : Res := fun B => Hl ((X.take j ++ X.drop (j + 1)).map xres) B
abbrev x0 : Xp := (Pn.zero, none, 0)
section
variable {H : Hp} {w0 w : World} {L : List Res} {X : List Xp} {j : Nat} {A B : Option Addr} {n m a b e sz cap k : Nat} {ps : List (List Fd)}
theorem Mem.all0 (h : Mem H w0 L w) : Mem H w0 (allR [] :: L) w := Mem.fold (R := []) (L := L) h fun _ hb => hb
theorem out_perm (hj : j < X.length) : (X.map xres).Perm (xres X[j] :: (X.take j ++ X.drop (j + 1)).map xres) := by
  have e : X = X.take j ++ X[j] :: X.drop (j + 1) := by simp
  conv => lhs; rw [e]
  rw [List.map_append, List.map_append, List.map_cons]
  exact List.perm_middle
theorem in_perm (hj : j < X.length) (y : Xp) : ((X.set j y).map xres).Perm (xres y :: (X.take j ++ X.drop (j + 1)).map xres) := by
  rw [List.set_eq_take_append_cons_drop, if_pos hj, List.map_append, List.map_append, List.map_cons]
  exact List.perm_middle
theorem Mem.outk (h : Mem H w0 (allR X :: L) w) (hj : j < X.length) : Mem H w0 (xres X[j] :: restR X j :: L) w := by
  have h1 : Mem H w0 (X.map xres ++ L) w := h.imp (R := X.map xres) fun _ hb => hb
  have h2 := h1.perm ((out_perm hj).append_right L)
  have h3 : Mem H w0 ((X.take j ++ X.drop (j + 1)).map xres ++ (xres X[j] :: L)) w := h2.perm List.perm_middle.symm
  have h4 : Mem H w0 (restR X j :: xres X[j] :: L) w := h3.fold fun _ hb => hb
  exact h4.perm (.swap ..)
theorem Mem.ink {y : Xp} (h : Mem H w0 (xres y :: restR X j :: L) w) (hj : j < X.length) : Mem H w0 (allR (X.set j y) :: L) w := by
  have h1 : Mem H w0 (restR X j :: xres y :: L) w := h.perm (.swap ..)
  have h2 : Mem H w0 ((X.take j ++ X.drop (j + 1)).map xres ++ (xres y :: L)) w := h1.imp fun _ hb => hb
  have h3 : Mem H w0 ((X.set j y).map xres ++ L) w := (h2.perm List.perm_middle).perm ((in_perm hj y).append_right L).symm
  exact h3.fold fun _ hb => hb
theorem Mem.addk {y : Xp} (h : Mem H w0 (allR X :: xres y :: L) w) : Mem H w0 (allR (X ++ [y]) :: L) w := by
  have h1 : Mem H w0 (X.map xres ++ (xres y :: L)) w := h.imp fun _ hb => hb
  have h2 : Mem H w0 ((X ++ [y]).map xres ++ L) w := by
    rw [List.map_append, List.append_assoc]
    exact h1
  exact h2.fold fun _ hb => hb
theorem Mem.unk {x : Xp} (h : Mem H w0 (allR (x :: X) :: L) w) : Mem H w0 (xres x :: allR X :: L) w := by
  have h1 : Mem H w0 (xres x :: (X.map xres ++ L)) w := h.imp (R := xres x :: X.map xres) fun _ hb => hb
  have h2 : Mem H w0 (X.map xres ++ (xres x :: L)) w := h1.perm List.perm_middle.symm
  have h3 : Mem H w0 (allR X :: xres x :: L) w := h2.fold fun _ hb => hb
  exact h3.perm (.swap ..)
theorem Mem.blankk (h : Mem H w0 (allR X :: L) w) (hj : j < X.length) : Mem H w0 (allR (X.set j x0) :: L) w := by
  have h1 := (h.outk hj).drop
  have h2 : Mem H w0 (xres x0 :: restR X j :: L) w := h1.row0 3 1
  exact h2.ink hj
theorem Mem.dropk : ∀ {X : List Xp} {L : List Res} (k : Nat), Mem H w0 (allR X :: L) w → Mem H w0 (allR (X.take k) :: L) w
  | X, L, 0, h => by
    rw [List.take_zero]
    exact h.drop.all0
  | [], L, k + 1, h => by simpa using h
  | x :: X, L, k + 1, h => by
    have h1 : Mem H w0 (allR X :: xres x :: L) w := h.unk.perm (.swap ..)
    have h2 := Mem.dropk k h1
    have h3 : Mem H w0 ((X.take k).map xres ++ (xres x :: L)) w := h2.imp fun _ hb => hb
    have h4 : Mem H w0 (((x :: X).take (k + 1)).map xres ++ L) w := h3.perm List.perm_middle
    exact h4.fold fun _ hb => hb
theorem Mem.frzX : ∀ {X : List Xp} {L : List Res} {H : Hp}, Mem H w0 (allR X :: L) w → ∃ H', Le w0 H H' ∧ Mem H' w0 L w ∧ ∀ x ∈ X, Sl H' 1 x.2.1 (ints8 x.1.loose)
  | [], L, H, h => ⟨H, Le.refl _ _, h.drop, fun _ h => by cases h⟩
  | x :: X, L, H, h => by
    obtain ⟨H1, l1, h1, s1, -⟩ := h.unk.fz0
    obtain ⟨H2, l2, h2, s2⟩ := Mem.frzX h1
    refine ⟨H2, l1.trans l2, h2, fun y hy => ?_⟩
    rcases List.mem_cons.1 hy with rfl | hy
    · exact s1.mono l2.le
    · exact s2 y hy
theorem all2_rows {H : Hp} : ∀ {X : List Xp}, (∀ x ∈ X, Sl H 1 x.2.1 (ints8 x.1.loose) ∧ x.1.loose.length ≤ maxLen) → All2 (PnF H) (X.map xrow) (X.map (·.1))
  | [], _ => trivial
  | x :: X, h => ⟨⟨x.2.1, x.2.2, rfl, h x (List.mem_cons_self ..)⟩, all2_rows fun y hy => h y (List.mem_cons_of_mem _ hy)⟩
theorem Mem.frzT {ls : List Lf} (h : Mem H w0 (rowR 36 97 A ls.length a (ls.map Lf.fds) :: rowR 96 66 B X.length b (X.map xrow) :: allR X :: L) w) (hb : ∀ x ∈ X, x.1.loose.length ≤ maxLen) : ∃ H', Le w0 H H' ∧ Mem H' w0 L w ∧ TrF H' (tv A ls.length a B X.length b) ⟨ls, X.map (·.1)⟩ := by
  obtain ⟨-, k1, k2, -⟩ := h.rowLen ⟨.refl _⟩
  obtain ⟨H1, l1, h, s1, -⟩ := h.fz0
  obtain ⟨-, k3, k4, -⟩ := h.rowLen ⟨.refl _⟩
  obtain ⟨H2, l2, h, s2, -⟩ := h.fz0
  obtain ⟨H3, l3, h, s3⟩ := h.frzX
  refine ⟨H3, (l1.trans l2).trans l3, h, ⟨A, a, B, b, X.map xrow, by simp, s1.mono (l2.trans l3).le, s2.mono l3.le, all2_rows fun x hx => ⟨s3 x hx, hb x hx⟩⟩, by simp only; omega, by simp only [List.length_map]; omega⟩
theorem Mem.short (h : Mem H w0 (rowR e sz A n cap ps :: L) w) (hk : k ≤ n) : Mem H w0 (rowR e sz A k cap (ps.take k) :: L) w := by
  obtain ⟨B, ⟨B1, B2, rfl, ⟨h1, h2, h3⟩, h4⟩, hs', hb⟩ := h.own
  refine ⟨⟨_, ⟨B1, B2, rfl, ⟨h1.take k, by rw [List.length_take]; omega, ?_⟩, h4⟩, hs', hb⟩, h.fz⟩
  rcases h3 with ⟨hA, hn, hc, hB⟩ | ⟨g, sp, hA, hB, h5, h6, h7⟩
  · exact .inl ⟨hA, by omega, hc, hB⟩
  · have e1 : fls ps = fls (ps.take k) ++ fls (ps.drop k) := by rw [← fls_app, List.take_append_drop]
    exact .inr ⟨g, fls (ps.drop k) ++ sp, hA, by rw [hB, e1, List.append_assoc], by rw [← List.append_assoc, ← e1]; exact h5, by omega, h7⟩
theorem le_of {H : Hp} (hf : Fz H w) : H.le (Hp.of w) := fun b c h => by
  obtain ⟨t, fr, e⟩ := hf b c h
  simp [Hp.of, e]
end
theorem rising_len : ∀ {l : List Int} {lo hi : Int}, l.Pairwise (· < ·) → (∀ x ∈ l, lo ≤ x ∧ x < hi) → lo ≤ hi → (l.length : Int) ≤ hi - lo
  | [], lo, hi, _, _, h => by simp; omega
  | x :: r, lo, hi, hp, hb, h => by
    obtain ⟨h1, h2⟩ := List.pairwise_cons.1 hp
    have hx := hb x (List.mem_cons_self ..)
    have := rising_len (lo := lo + 1) (hi := hi) h2 (fun y hy => by have := h1 y hy; have := hb y (List.mem_cons_of_mem _ hy); omega) (by omega)
    simp only [List.length_cons]
    omega
theorem Tr.Rt.loose {t : Tr} (h : t.Rt) : ∀ p ∈ t.ps, p.loose.length ≤ 64 ∧ p.loose.Pairwise (· < ·) := by
  intro p hp
  obtain ⟨i, hi, rfl⟩ := List.getElem_of_mem hp
  obtain ⟨h1, h2⟩ := looseB_spec (parB_spec h.par i hi).2
  have hl := h.len
  have := rising_len (lo := 0) (hi := t.size) h2 (fun x hx => by have := hld_rng (h1 x hx).1; omega) (by unfold Tr.size; omega)
  refine ⟨?_, h2⟩
  unfold Tr.size at this
  omega
end Go.Proofs.Ytopcnkejobomaaa
namespace Go.Proofs.Ytopcnkejobomaaa
open Go.RowKit Go.Lib
theorem xrow0 : xrow x0 = [.one (.bool false), .arr 32 (u8s hzero.1), .arr 32 (u8s hzero.1), .one (.slice none 0 0)] := rfl
theorem modify_const {α : Type} (l : List α) (k : Nat) (y : α) : l.modify k (fun _ => y) = l.set k y := by
  refine List.ext_getElem (by simp) fun i h1 h2 => ?_
  simp only [List.getElem_modify, List.getElem_set]
theorem onDir_succ {f : Pn → Pn} {D : List Int} {ps : List Pn} {i : Nat} (h : i < D.length) : onDir f (D.take (i + 1)) ps = (onDir f (D.take i) ps).modify (D[i] / 2).toNat f := by
  unfold onDir
  rw [List.take_succ_eq_append_getElem h, List.foldl_append]
  rfl
section
variable {H : Hp} {w0 w : World} {L R : List Res} {A B C : Option Addr} {a b c n : Nat} {t : Tr} {qs ps : List (List Fd)}
theorem cloneL_q {Q : Ending → World → Prop} (hs : Sl (Hp.of w) 97 A ps) (hn : n = ps.length) (hb : n ≤ 100000) (hM : Mem H w0 L w)
    (hQ : ∀ A' a' w', Ext w w' → Mem H w0 (rowR 36 97 A' n a' ps :: L) w' → Q (.returned (.slice A' n a')) w') : Calls Try.prog 83 #[.slice A n a] w Q := by
  refine C_slices_Clone_api_Leaf_api_Leaf ?_
  unfold F_slices_Clone_api_Leaf_api_Leaf
  refine clone_gen (P := Try.prog) (t := 24) (R := Q) hs hn hM ?_ hQ
  omega
theorem cloneL_ok (hs : Sl (Hp.of w) 97 A ps) (hn : n = ps.length) (hb : n ≤ 100000) (hM : Mem H w0 L w) : Calls Try.prog 83 #[.slice A n a] w fun en w' => ∃ v, en = .returned v ∧ Ext w w' ∧ ∃ A' a', v = .slice A' n a' ∧ Mem H w0 (rowR 36 97 A' n a' ps :: L) w' :=
  cloneL_q hs hn hb hM fun A' a' w' hx hM => ⟨_, rfl, hx, _, _, rfl, hM⟩
theorem cloneP_q {Q : Ending → World → Prop} (hs : Sl (Hp.of w) 66 A ps) (hn : n = ps.length) (hb : n ≤ 100000) (hM : Mem H w0 L w)
    (hQ : ∀ A' a' w', Ext w w' → Mem H w0 (rowR 96 66 A' n a' ps :: L) w' → Q (.returned (.slice A' n a')) w') : Calls Try.prog 84 #[.slice A n a] w Q := by
  refine C_slices_Clone_api_Parent_api_Parent ?_
  unfold F_slices_Clone_api_Parent_api_Parent
  refine clone_gen (P := Try.prog) (t := 25) (R := Q) hs hn hM ?_ hQ
  omega
theorem cloneP_ok (hs : Sl (Hp.of w) 66 A ps) (hn : n = ps.length) (hb : n ≤ 100000) (hM : Mem H w0 L w) : Calls Try.prog 84 #[.slice A n a] w fun en w' => ∃ v, en = .returned v ∧ Ext w w' ∧ ∃ A' a', v = .slice A' n a' ∧ Mem H w0 (rowR 96 66 A' n a' ps :: L) w' :=
  cloneP_q hs hn hb hM fun A' a' w' hx hM => ⟨_, rfl, hx, _, _, rfl, hM⟩
theorem cloneI_q {Q : Ending → World → Prop} (hs : Sl (Hp.of w) 1 A ps) (hn : n = ps.length) (hb : n ≤ 100000) (hM : Mem H w0 L w)
    (hQ : ∀ A' a' w', Ext w w' → Mem H w0 (rowR 3 1 A' n a' ps :: L) w' → Q (.returned (.slice A' n a')) w') : Calls Try.prog 85 #[.slice A n a] w Q := by
  refine C_slices_Clone_int_int ?_
  unfold F_slices_Clone_int_int
  refine clone_gen (P := Try.prog) (t := 29) (R := Q) hs hn hM ?_ hQ
  omega
theorem cloneI_ok (hs : Sl (Hp.of w) 1 A ps) (hn : n = ps.length) (hb : n ≤ 100000) (hM : Mem H w0 L w) : Calls Try.prog 85 #[.slice A n a] w fun en w' => ∃ v, en = .returned v ∧ Ext w w' ∧ ∃ A' a', v = .slice A' n a' ∧ Mem H w0 (rowR 3 1 A' n a' ps :: L) w' :=
  cloneI_q hs hn hb hM fun A' a' w' hx hM => ⟨_, rfl, hx, _, _, rfl, hM⟩
theorem clone_ok (h1 : Sl H 97 A (t.ls.map Lf.fds)) (h2 : Sl H 66 B qs) (h3 : All2 (PnF H) qs t.ps) (hl : t.ls.length ≤ 1000) (hp : t.ps.length ≤ 1000) (hlo : ∀ p ∈ t.ps, p.loose.length ≤ 1000) (hM : Mem H w0 L w) :
    Calls Try.prog 61 #[tv A t.ls.length a B t.ps.length b] w fun en w' => ∃ v, en = .returned v ∧ ∃ A' a' B' b' X, v = tv A' t.ls.length a' B' t.ps.length b' ∧ X.map (·.1) = t.ps ∧
      Mem H w0 (rowR 36 97 A' t.ls.length a' (t.ls.map Lf.fds) :: rowR 96 66 B' t.ps.length b' (X.map xrow) :: allR X :: L) w' := by
  have hq : qs.length = t.ps.length := h3.len
  refine C_tree_clone ?_
  unfold F_tree_clone
  ((with_reducible (refine mm_box hM ?_; clear hM; intro _ _ hM; refine mm_new hM ?_; clear hM; intro _ _ hM)))
  rename_i g1 _ g2 _
  refine ⟨fun v w' => ∃ g3 A' a' B' b', v = .pointer (some ⟨g3, 0, none⟩) ∧ Mem H w0 (fb g3 27 (tfd A' t.ls.length a' B' t.ps.length b') :: fb g2 27 (tfd none 0 0 none 0 0) :: rowR 36 97 A' t.ls.length a' (t.ls.map Lf.fds) :: rowR 96 66 B' t.ps.length b' qs :: L) w', ⟨?_, ?_, ?_⟩, ?_⟩
  · ((with_reducible (refine dp_c trivial ?_; refine dm_ld hM ?_; refine dp_c trivial ?_; refine dm_ld hM ?_)))
    refine dm_ownE hM (fun w hM => cloneL_ok (h1.mono (le_of hM.fz)) (by simp) (by omega) hM) ?_
    rintro v w' hx ⟨A', a', rfl, hM⟩
    skip
    refine dm_own hM (fun w hM => (cloneP_ok (h2.mono (le_of hM.fz)) hq.symm (by omega) hM).mono fun en w' ⟨v, h, _, k⟩ => ⟨v, h, k⟩) ?_
    rintro v w' ⟨B', b', rfl, hM⟩
    ((with_reducible (refine dp_c trivial ?_; refine dm_new hM ?_; clear hM; intro _ _ hM; refine dS_st hM ?_; clear hM; intro _ hM; refine mm_end hM ?_; clear hM; intro _ hM)))
    exact ⟨_, A', a', B', b', rfl, hM.sub⟩
  · ((with_reducible (refine dp_c trivial ?_; refine dm_ld hM ?_; refine dp_c trivial ?_; refine dm_ld hM ?_)))
    refine dm_ownE hM (fun w hM => cloneL_ok (h1.mono (le_of hM.fz)) (by simp) (by omega) hM) ?_
    rintro v w' hx ⟨A', a', rfl, hM⟩
    ((with_reducible (refine dm_new hM ?_; clear hM; intro _ _ hM)))
    refine dm_own hM (fun w hM => (cloneP_ok (h2.mono (le_of hM.fz)) hq.symm (by omega) hM).mono fun en w' ⟨v, h, _, k⟩ => ⟨v, h, k⟩) ?_
    rintro v w' ⟨B', b', rfl, hM⟩
    ((with_reducible (refine dp_c trivial ?_; refine dS_st hM ?_; clear hM; intro _ hM; refine mm_end hM ?_; clear hM; intro _ hM)))
    exact ⟨_, A', a', B', b', rfl, hM.sub⟩
  · ((with_reducible (refine dp_c trivial ?_; refine dm_ld hM ?_; refine dp_c trivial ?_; refine dm_ld hM ?_; refine dm_new hM ?_; clear hM; intro _ _ hM)))
    refine dm_ownE hM (fun w hM => cloneL_ok (h1.mono (le_of hM.fz)) (by simp) (by omega) hM) ?_
    rintro v w' hx ⟨A', a', rfl, hM⟩
    skip
    refine dm_own hM (fun w hM => (cloneP_ok (h2.mono (le_of hM.fz)) hq.symm (by omega) hM).mono fun en w' ⟨v, h, _, k⟩ => ⟨v, h, k⟩) ?_
    rintro v w' ⟨B', b', rfl, hM⟩
    ((with_reducible (refine dp_c trivial ?_; refine dS_st hM ?_; clear hM; intro _ hM; refine mm_end hM ?_; clear hM; intro _ hM)))
    exact ⟨_, A', a', B', b', rfl, hM.sub⟩
  clear hM
  rintro v u2 w2 ⟨g3, A', a', B', b', rfl, hM⟩
  ((with_reducible (refine mop_c trivial ?_; refine mm_ld hM ?_; refine mop_c trivial ?_)))
  have hM0 : Mem H w0 (fb g3 27 (tfd A' t.ls.length a' B' t.ps.length b') :: fb g2 27 (tfd none 0 0 none 0 0) :: rowR 36 97 A' t.ls.length a' (t.ls.map Lf.fds) :: rowR 96 66 B' t.ps.length b' qs :: allR [] :: L) _ := hM.all0.same
  refine ⟨fun v w' => ∃ (i : Nat) (X : List Xp), v = .int .i64 i ∧ i ≤ t.ps.length ∧ X.map (·.1) = t.ps.take i ∧ Mem H w0 (fb g3 27 (tfd A' t.ls.length a' B' t.ps.length b') :: fb g2 27 (tfd none 0 0 none 0 0) :: rowR 36 97 A' t.ls.length a' (t.ls.map Lf.fds) :: rowR 96 66 B' t.ps.length b' (X.map xrow ++ qs.drop i) :: allR X :: L) w', fun v _ => match v with | .int _ k => t.ps.length - k.toNat | _ => 0, ⟨0, [], rfl, by omega, rfl, hM0⟩, ?_⟩
  clear hM hM0
  rintro v u3 w3 ⟨i, X, rfl, hi, hX, hM⟩
  have hXl : X.length = i := by
    have := congrArg List.length hX
    simp at this
    omega
  ((with_reducible (refine mop_cS trivial ?_ ?_)))
  · intro hlt
    have hlt' : i < t.ps.length := by omega
    obtain ⟨q, hq1, C, c, rfl, hC, hcl⟩ := h3.at_ (i := i) hlt'
    obtain ⟨p, hpe⟩ : ∃ p, t.ps[i] = p := ⟨_, rfl⟩
    have hpl := hlo p (hpe ▸ List.getElem_mem _)
    rw [hpe] at hq1 hC
    have hrow : (X.map xrow ++ qs.drop i)[(i : Int).toNat]? = some (p.row C c) := by
      rw [Int.toNat_natCast, List.getElem?_append_right (by simp; omega)]
      simp [hXl, hq1]
    ((with_reducible (refine mif_true ?_; refine dp_c trivial ?_; refine dm_ld hM ?_; refine dp_c trivial ?_; refine dm_ld hM ?_; refine dp_ixr hM ?_ ?_)); (focus omega); (with_reducible (intro _ hA)); (cases hA); (with_reducible (refine dp_c trivial ?_)))
    refine dm_ldr hM hrow ?_
    refine dm_ownE hM (fun w hM => cloneI_ok (hC.mono (le_of hM.fz)) (by simp) (by omega) hM) ?_
    rintro v w' hx ⟨C', c', rfl, hM⟩
    ((with_reducible (refine dp_ixr hM ?_ ?_)); (focus omega); (with_reducible (intro _ hA)); (cases hA); (with_reducible (refine dp_c trivial ?_)))
    refine dm_stf hM hrow (fun w' hM => ?_)
    ((with_reducible (refine mm_end hM ?_; clear hM; intro _ hM; refine mop_c ?_ ?_)); (focus omega))
    rename_i g5 _ _ _ _
    have hset : (X.map xrow ++ qs.drop i).set (i : Int).toNat (p.row C' c') = (X ++ [(p, C', c')]).map xrow ++ qs.drop (i + 1) := by
      rw [Int.toNat_natCast, List.set_append_right _ _ (by simp; omega)]
      simp only [List.length_map, hXl, Nat.sub_self, List.map_append, List.append_assoc]
      rw [List.drop_eq_getElem_cons (by omega)]
      rfl
    have hM2 : Mem H w0 (rowR 96 66 (some ⟨g5, 0, none⟩) t.ps.length b' ((X ++ [(p, C', c')]).map xrow ++ qs.drop (i + 1)) :: _) _ := hset ▸ hM
    have hM : Mem H w0 (allR X :: xres (p, C', c') :: fb g3 27 (tfd A' t.ls.length a' (some ⟨g5, 0, none⟩) t.ps.length b') :: fb g2 27 (tfd none 0 0 none 0 0) :: rowR 36 97 A' t.ls.length a' (t.ls.map Lf.fds) :: rowR 96 66 (some ⟨g5, 0, none⟩) t.ps.length b' ((X ++ [(p, C', c')]).map xrow ++ qs.drop (i + 1)) :: L) _ := hM2.sub
    refine ⟨⟨i + 1, X ++ [(p, C', c')], rfl, by omega, ?_, hM.addk.same⟩, by simp only; omega⟩
    rw [List.map_append, hX, List.take_succ_eq_append_getElem hlt', hpe]
    rfl
  · intro hge
    obtain rfl : i = t.ps.length := by omega
    rw [List.take_length] at hX
    rw [List.drop_eq_nil_of_le (by omega), List.append_nil] at hM
    ((with_reducible (refine mif_false ?_; refine mm_ld hM ?_; refine mm_st hM ?_; clear hM; intro _ hM; refine rm_ld hM ?_)))
    exact ⟨_, rfl, _, _, _, _, _, rfl, hX, hM.sub⟩
theorem none_ok (p : Int) (h1 : Sl H 97 A (t.ls.map Lf.fds)) (hl : t.ls.length ≤ maxLen) (hf : Fz H w) : Calls Try.prog 59 #[tv A t.ls.length a B n b, .int .i64 p] w fun en w' => en = .returned (.bool (decide (t.nobody p))) ∧ St w [] w' := by
  have hM := Mem.start hf
  have hl' : t.ls.length ≤ 9223372036854775807 := hl
  refine C_tree_none ?_
  unfold F_tree_none
  ((with_reducible (refine mm_box hM ?_; clear hM; intro _ _ hM)))
  ((with_reducible (refine mop_cS trivial ?_ ?_)))
  · intro h
    ((with_reducible ((iterate 5 refine mguard_n1 ?_); refine mop_c trivial ?_; (iterate 7 refine mguard_n1 ?_); refine mop_c trivial ?_)))
    exact ⟨by rw [decide_eq_true (show t.nobody p from .inl (.inl h))], hM.st⟩
  · intro h
    ((with_reducible (refine mguard_yes ?_; refine mop_c trivial ?_; refine mguard_yes ?_; refine mop_c trivial ?_; refine mguard_yes ?_; refine mm_ld hM ?_; refine mguard_yes ?_; refine mop_c trivial ?_; refine mguard_yes ?_)))
    ((with_reducible (refine mop_cS trivial ?_ ?_)))
    · intro h2
      ((with_reducible (refine mop_c trivial ?_; (iterate 7 refine mguard_n1 ?_); refine mop_c trivial ?_)))
      exact ⟨by rw [decide_eq_true (show t.nobody p from .inl (.inr h2))], hM.st⟩
    · intro h2
      have h3 : p.toNat < t.ls.length := by omega
      have h4 := nameAt_at (ls := t.ls) (p := p) (by omega) h3
      ((with_reducible (refine mop_c trivial ?_; refine mguard_yes ?_; refine mop_c trivial ?_; refine mguard_yes ?_; refine mm_ld hM ?_; refine mguard_yes ?_; refine mop_c trivial ?_; refine mguard_yes ?_)); (with_reducible refine mm_ixs ‹_› ?_ ?_ ?_); (focus (simp only [List.length_map]; omega)); (focus (simp only [List.length_map]; first | done | omega)); (with_reducible (intro _ _ hA)); (cases hA); (with_reducible (refine mguard_yes ?_; refine mop_c trivial ?_; refine mguard_yes ?_)); (with_reducible refine mm_lds hM ‹_› (map_at ?_) ?_); (focus omega); (with_reducible (refine mguard_yes ?_)))
      rw [← h4]
      ((with_reducible (refine mop_cS trivial ?_ ?_)))
      · intro h5
        ((with_reducible (refine mop_c trivial ?_)))
        exact ⟨by rw [decide_eq_true (show t.nobody p from .inr h5)], hM.st⟩
      · intro h5
        ((with_reducible (refine mop_c trivial ?_)))
        exact ⟨by rw [decide_eq_false (show ¬ t.nobody p from fun k => k.elim (fun k => k.elim h h2) h5)], hM.st⟩
theorem sound_ok (h1 : Sl H 97 A (t.ls.map Lf.fds)) (h2 : Sl H 66 B qs) (h3 : All2 (PnF H) qs t.ps) (hl : t.ls.length ≤ maxLen) (hp : t.ps.length ≤ maxLen) (hf : Fz H w) :
    Calls Try.prog 46 #[tv A t.ls.length a B t.ps.length b] w fun en w' => en = .returned (if t.right = true then tv A t.ls.length a B t.ps.length b else tv none 0 0 none 0 0) ∧ St w [] w' := by
  have hM := Mem.start hf
  refine C_tree_sound ?_
  unfold F_tree_sound
  ((with_reducible (refine mm_box hM ?_; clear hM; intro _ _ hM; refine mm_new hM ?_; clear hM; intro _ _ hM; refine mm_ld hM ?_)))
  refine mm_pure hM (right_ok h1 h2 h3 hl hp hM.fz) (fun w hM => ?_)
  cases hr : t.right
  · ((with_reducible (refine mif_false ?_; refine mop_c trivial ?_; refine mm_st hM ?_; clear hM; intro _ hM; refine rm_ld hM ?_)))
    exact ⟨rfl, hM.st⟩
  · ((with_reducible (refine mif_true ?_; refine mm_ld hM ?_; refine mm_st hM ?_; clear hM; intro _ hM; refine rm_ld hM ?_)))
    exact ⟨rfl, hM.st⟩
theorem place1_ok (g : Nat) (x : Int) (y : Lf) (hM : Mem H w0 (fb g 3 [.one (.int .i64 x)] :: R) w) :
    Calls Try.prog 76 #[lv y, .pointer (some ⟨g, 0, none⟩)] w fun e w' => ∃ v, e = .returned v ∧ v = .bool (decide (y.name = x)) ∧ Mem H w0 (fb g 3 [.one (.int .i64 x)] :: R) w' := by
  refine C_tree_Place_1 ?_
  unfold F_tree_Place_1
  ((with_reducible (refine mm_box hM ?_; clear hM; intro _ _ hM; refine mop_c trivial ?_; refine mm_ld hM ?_; refine mm_ld hM ?_)))
  ((with_reducible (refine mop_cS trivial ?_ ?_)))
  all_goals
    intro hi
    skip
    exact ⟨_, rfl, by simp [hi], hM.drop⟩
theorem clo_place (g : Nat) (x : Int) : Clo Try.prog H w0 (fb g 3 [.one (.int .i64 x)]) (.func (.func 76) #[] #[.pointer (some ⟨g, 0, none⟩)]) lv (fun y : Lf => decide (y.name = x)) := fun y R w K X hM hk =>
  mop_callv (place1_ok g x y hM) (by rintro e w' ⟨v, rfl, rfl, h⟩; exact hk w' h)
theorem ixf_ok {r : Res} {cl : Value} {f : Lf → Bool} (ls : List Lf) (hl : ls.length < 1000000) (hc : Clo Try.prog H w0 r cl lv f) (hs : Sl H 97 A (ls.map Lf.fds)) (hM : Mem H w0 (r :: R) w) :
    Calls Try.prog 75 #[.slice A ls.length a, cl] w fun en w' => ∃ v, en = .returned v ∧ v = .int .i64 (fix f ls) ∧ Mem H w0 (r :: R) w' := by
  refine C_slices_IndexFunc_api_Leaf_api_Leaf ?_
  unfold F_slices_IndexFunc_api_Leaf_api_Leaf
  ((with_reducible (refine mop_c trivial ?_)))
  refine ⟨fun v w' => ∃ i : Nat, v = .int .i64 i ∧ i ≤ ls.length ∧ (∀ j (hj : j < ls.length), j < i → f ls[j] = false) ∧ Mem H w0 (r :: R) w', fun v _ => match v with | .int _ k => ls.length - k.toNat | _ => 0, ⟨0, rfl, by omega, fun j _ h => by omega, hM⟩, ?_⟩
  rintro v u w3 ⟨i, rfl, hi, hlo, hM⟩
  ((with_reducible (refine mop_cS trivial ?_ ?_)))
  · intro hlt
    have hlt' : i < ls.length := by omega
    ((with_reducible (refine mif_true ?_)); (with_reducible refine mm_ixs ‹_› ?_ ?_ ?_); (focus (simp only [List.length_map]; omega)); (focus (simp only [List.length_map]; first | done | omega)); (with_reducible (intro _ _ hA)); (cases hA); (with_reducible refine mm_lds0 hM ‹_› (map_atI ?_) ?_); (focus omega))
    refine hc _ _ _ _ _ hM (fun w hM => ?_)
    cases hfi : f ls[i]
    · ((with_reducible (refine mif_false ?_; refine mop_c ?_ ?_)); (focus omega))
      refine ⟨⟨i + 1, rfl, by omega, fun j hj hji => ?_, hM⟩, by simp only; omega⟩
      rcases Nat.lt_or_ge j i with h2 | h2
      · exact hlo j hj h2
      · obtain rfl : j = i := by omega
        exact hfi
    · ((with_reducible (refine mif_true ?_)))
      exact ⟨_, rfl, by rw [fix_at hlt' hlo hfi], hM⟩
  · intro hge
    ((with_reducible (refine mif_false ?_)))
    exact ⟨_, rfl, by rw [fix_none fun j hj => hlo j hj (by omega)], hM⟩
theorem place_ok (x : Int) (h1 : Sl H 97 A (t.ls.map Lf.fds)) (h2 : Sl H 66 B qs) (h3 : All2 (PnF H) qs t.ps) (hl : t.ls.length ≤ maxLen) (hp : t.ps.length ≤ maxLen) (hf : Fz H w) :
    Calls Try.prog 34 #[tv A t.ls.length a B t.ps.length b, .int .i64 x] w fun en w' => en = .returned (.int .i64 (t.sound.place x)) ∧ St w [] w' := by
  have hM := Mem.start hf
  refine C_tree_Place ?_
  unfold F_tree_Place
  ((with_reducible (refine mm_box hM ?_; clear hM; intro _ _ hM; refine mm_box hM ?_; clear hM; intro _ _ hM; refine mm_ld hM ?_)))
  rename_i g1 _ g2 _
  ((with_reducible (refine mop_cS trivial ?_ ?_)))
  · intro h
    ((with_reducible (refine mif_true ?_)))
    exact ⟨by rw [show t.sound.place x = -1 from if_pos h], hM.st⟩
  · intro h
    ((with_reducible (refine mif_false ?_; refine mm_ld hM ?_)))
    have hpl : t.sound.place x = fix (fun l => decide (l.name = x)) t.sound.ls := if_neg h
    rw [hpl]
    refine mm_pure hM (sound_ok h1 h2 h3 hl hp hM.fz) (fun w hM => ?_)
    have hM := hM.at_ (fb g2 3 [.one (.int .i64 x)])
    unfold Tr.sound
    cases hr : t.right
    · rw [if_neg (by simp), if_neg (by simp)]
      ((with_reducible (refine mop_c trivial ?_; refine mop_c trivial ?_)))
      refine mm_own (ixf_ok (A := none) [] (by simp) (clo_place g2 x) (Sl.nil _ _ _) hM) ?_
      rintro v w' ⟨rfl, hM⟩
      exact ⟨rfl, hM.st⟩
    · rw [if_pos rfl, if_pos rfl]
      ((with_reducible (refine mop_c trivial ?_; refine mop_c trivial ?_)))
      have := (Tr.rt.1 hr).len
      refine mm_own (ixf_ok t.ls (by omega) (clo_place g2 x) h1 hM) ?_
      rintro v w' ⟨rfl, hM⟩
      exact ⟨rfl, hM.st⟩
theorem blank_ok {X : List Xp} {ls : List Lf} {p : Int} (hp : 0 ≤ p ∧ p < ls.length ∧ ls.length ≤ 64) (hX : X.length + 1 = ls.length)
    (hM : Mem H w0 (rowR 36 97 A ls.length a (ls.map Lf.fds) :: rowR 96 66 B X.length b (X.map xrow) :: allR X :: L) w) :
    Calls Try.prog 72 #[tv A ls.length a B X.length b, .int .i64 p] w fun en w' => ∃ v, en = .returned v ∧ ∃ H' X', v = .tuple #[] ∧ X'.map (·.1) = blankP ls.length p (X.map (·.1)) ∧ X'.length = X.length ∧ Le w0 H H' ∧
      Mem H' w0 (rowR 36 97 A ls.length a (ls.map Lf.fds) :: rowR 96 66 B X.length b (X'.map xrow) :: allR X' :: L) w' := by
  refine C_tree_blank ?_
  unfold F_tree_blank
  ((with_reducible (refine mm_box hM ?_; clear hM; intro _ _ hM; refine mop_c trivial ?_; refine mm_ld hM ?_; refine mop_c trivial ?_)))
  rename_i g1 _
  refine mm_call hM (bdirect_ok ls.length p (by omega) hM.fz) ?_
  rintro H1 v w1 l1 hM ⟨D, c, rfl, hD⟩
  have hdl := dirL_len ls.length p
  have hdm := fun x hx => dir_mem (n := ls.length) (l := p) (x := x) (by omega) hx
  generalize hDL : dirL ls.length p = DL at *
  ((with_reducible (refine mop_c trivial ?_)))
  refine ⟨fun v w' => ∃ (i : Nat) (Y : List Xp), v = .int .i64 i ∧ i ≤ DL.length ∧ Y.map (·.1) = onDir (fun _ => Pn.zero) (DL.take i) (X.map (·.1)) ∧ Y.length = X.length ∧ Mem H1 w0 (fb g1 27 (tfd A ls.length a B X.length b) :: rowR 36 97 A ls.length a (ls.map Lf.fds) :: rowR 96 66 B X.length b (Y.map xrow) :: allR Y :: L) w', fun v _ => match v with | .int _ k => DL.length - k.toNat | _ => 0, ⟨0, X, rfl, by omega, rfl, rfl, hM⟩, ?_⟩
  clear hM
  rintro v u w3 ⟨i, Y, rfl, hi, hY, hYl, hM⟩
  ((with_reducible (refine mop_cS trivial ?_ ?_)))
  · intro hlt
    have hlt' : i < DL.length := by omega
    obtain ⟨x, hx⟩ : ∃ x, DL[i] = x := ⟨_, rfl⟩
    have hxm := hdm x (hx ▸ List.getElem_mem _)
    ((with_reducible (refine mif_true ?_)); (with_reducible refine mm_ixs ‹_› ?_ ?_ ?_); (focus (simp only [List.length_map]; omega)); (focus (simp only [List.length_map]; first | done | omega)); (with_reducible (intro _ _ hA)); (cases hA); (with_reducible refine mm_lds0 hM ‹_› (map_atI ?_) ?_); (focus omega); (with_reducible (refine mop_c trivial ?_; refine mm_ld hM ?_; refine mop_c ?_ ?_)); (focus omega); (with_reducible (refine mop_c trivial ?_; refine mm_ixr hM ?_ ?_)); (focus omega); (with_reducible (intro _ hA)); (cases hA); (with_reducible (refine mm_str hM ?_ ?_)); (focus omega); (with_reducible (clear hM; intro _ hM; refine mop_c ?_ ?_)); (focus omega))
    have hk : (x / 2).toNat < Y.length := by omega
    rw [← xrow0, hx, ← List.map_set] at hM
    have hM := (hM.at_ (allR Y)).blankk hk
    refine ⟨⟨i + 1, Y.set (x / 2).toNat x0, rfl, by omega, ?_, by simpa using hYl, hM.same⟩, by simp only; omega⟩
    rw [List.map_set, hY, onDir_succ hlt', hx, modify_const]
  · intro hge
    ((with_reducible (refine mif_false ?_)))
    refine ⟨_, rfl, H1, Y, rfl, ?_, hYl, l1, hM.sub⟩
    rw [hY, List.take_of_length_le (by omega)]
    unfold blankP
    rw [hDL]
end
end Go.Proofs.Ytopcnkejobomaaa
namespace Go.Proofs.Ytopcnkejobomaaa
open Go.RowKit Go.Lib
theorem trF_none (H : Hp) : TrF H (tv none 0 0 none 0 0) Tr.none := ⟨⟨none, 0, none, 0, [], rfl, Sl.nil _ _ _, Sl.nil _ _ _, trivial⟩, by simp [Tr.none, maxLen]⟩
def gapL (t : Tr) : List Lf := if t.gap = t.ls.length then t.ls ++ [Lf.zero] else t.ls
theorem gapL_set (t : Tr) (l : Lf) : (gapL t).set t.gap l = addL t l := by
  unfold gapL addL
  by_cases h : t.gap = t.ls.length
  · rw [if_pos h, if_pos h, h]
    simp
  · rw [if_neg h, if_neg h]
theorem gapL_len (t : Tr) (l : Lf) : (gapL t).length = (addL t l).length := by
  rw [← gapL_set t l, List.length_set]
theorem onDir_get {f : Pn → Pn} {D : List Int} {ps : List Pn} {k : Nat} (hn : D.Nodup) (hD : ∀ x ∈ D, x = 2 * (x / 2) + 1 ∧ 0 ≤ x / 2) (hk : 2 * (k : Int) + 1 ∉ D) : (onDir f D ps)[k]? = ps[k]? := by
  rw [onDir_eq hn hD, List.getElem?_mapIdx]
  simp only [if_neg hk]
  cases ps[k]? <;> rfl
theorem Tr.Rt.addPs_loose {t : Tr} (h : t.Rt) : ∀ p ∈ addPs t, p.loose.length ≤ 64 ∧ p.loose.Pairwise (· < ·) := by
  intro p hp
  unfold addPs at hp
  split at hp
  · rcases List.mem_append.1 hp with hp | hp
    · exact h.loose p hp
    · rw [List.mem_singleton.1 hp]
      exact ⟨by simp [Pn.zero], .nil⟩
  · exact h.loose p hp
theorem ins_len (l : List Int) (x : Int) : (ins l x).length = l.length + 1 := by
  have : bs' l x ≤ l.length := List.findIdx_le_length
  unfold ins
  simp
  omega
section
variable {H : Hp} {w0 w : World} {L R : List Res} {A B C : Option Addr} {a b c n : Nat} {t : Tr} {qs ps : List (List Fd)}
theorem add_q {Q : Hp → Value → Prop} (l : Lf) (hq : ∀ H' v1 r, t.addP l = r → TrF H' v1 r.1 → Q H' (.tuple #[v1, .int .i64 r.2.1, .int .i64 r.2.2])) (h1 : Sl H 97 A (t.ls.map Lf.fds)) (h2 : Sl H 66 B qs) (h3 : All2 (PnF H) qs t.ps) (hl : t.ls.length ≤ maxLen) (hp : t.ps.length ≤ maxLen) (hf : Fz H w) :
    Calls Try.prog 28 #[tv A t.ls.length a B t.ps.length b, lv l] w (Outp H w Q) := by
  obtain ⟨w1, hw1⟩ : ∃ w1, w1 = w := ⟨_, rfl⟩
  rw [← hw1]
  rw [← hw1] at hf
  have hM := Mem.start hf
  refine C_tree_Add ?_
  unfold F_tree_Add
  ((with_reducible (refine mm_box hM ?_; clear hM; intro _ _ hM; refine mm_box hM ?_; clear hM; intro _ _ hM; refine mm_new hM ?_; clear hM; intro _ _ hM)))
  rename_i g1 _ g2 _ g3 _
  refine ⟨fun v w' => v = .bool (decide (¬ t.right = true ∨ l.name < 1 ∨ 64 < l.name)) ∧ hM.now w', ?_, ?_⟩
  · ((with_reducible (refine mm_ld hM ?_)))
    refine mm_pure hM (right_ok h1 h2 h3 hl hp hM.fz) (fun w hM => ?_)
    ((with_reducible (refine mop_c trivial ?_)))
    cases hr : t.right
    · rw [Bool.not_false]
      ((with_reducible ((iterate 3 refine mguard_n1 ?_); refine mop_c trivial ?_; (iterate 3 refine mguard_n1 ?_); refine mop_c trivial ?_)))
      exact ⟨by simp, hM.sub⟩
    · rw [Bool.not_true]
      ((with_reducible (refine mguard_yes ?_; refine mop_c trivial ?_; refine mguard_yes ?_; refine mm_ld hM ?_; refine mguard_yes ?_)))
      ((with_reducible (refine mop_cS trivial ?_ ?_)))
      · intro h
        ((with_reducible (refine mop_c trivial ?_; (iterate 3 refine mguard_n1 ?_); refine mop_c trivial ?_)))
        exact ⟨by rw [decide_eq_true (.inr (.inl h))], hM.sub⟩
      · intro h
        ((with_reducible (refine mop_c trivial ?_; refine mguard_yes ?_; refine mop_c trivial ?_; refine mguard_yes ?_; refine mm_ld hM ?_; refine mguard_yes ?_)))
        ((with_reducible (refine mop_cS trivial ?_ ?_)))
        · intro h4
          ((with_reducible (refine mop_c trivial ?_)))
          exact ⟨by rw [decide_eq_true (.inr (.inr h4))], hM.sub⟩
        · intro h4
          ((with_reducible (refine mop_c trivial ?_)))
          exact ⟨by rw [decide_eq_false (fun hh => hh.elim (fun k => k rfl) (fun k => k.elim h h4))], hM.sub⟩
  rintro v u2 w2 ⟨rfl, hM⟩
  unfold Tr.addP at hq
  by_cases hc : ¬ t.right = true ∨ l.name < 1 ∨ 64 < l.name
  · rw [if_pos hc] at hq
    rw [decide_eq_true hc]
    ((with_reducible (refine mif_true ?_; refine mop_c trivial ?_; refine mm_st hM ?_; clear hM; intro _ hM; refine rm_ld hM ?_)))
    exact hM.out (Le.refl _ _) (hq _ _ _ rfl (trF_none H))
  rw [if_neg hc] at hq
  rw [decide_eq_false hc]
  have hr : t.right = true := Decidable.byContradiction fun h => hc (.inl h)
  have hR := Tr.rt.1 hr
  have hlen := hR.len
  have hs : t.sound = t := if_pos hr
  ((with_reducible (refine mif_false ?_; refine mm_ld hM ?_; refine mop_c trivial ?_; refine mm_ld hM ?_)))
  refine mm_pure hM (place_ok l.name h1 h2 h3 hl hp hM.fz) (fun w hM => ?_)
  rw [hs]
  skip
  ((with_reducible (refine mop_cS trivial ?_ ?_)))
  · intro h
    have h' : 0 ≤ t.place l.name := by omega
    rw [if_pos h'] at hq
    ((with_reducible (refine mif_true ?_; refine mop_c trivial ?_; refine mm_st hM ?_; clear hM; intro _ hM; refine rm_ld hM ?_)))
    exact hM.out (Le.refl _ _) (hq _ _ _ rfl (trF_none H))
  intro h
  rw [if_neg (show ¬ 0 ≤ t.place l.name by omega)] at hq
  ((with_reducible (refine mif_false ?_; refine mm_ld hM ?_)))
  refine mm_own (clone_ok h1 h2 h3 (by omega) (by omega) (fun p hp => by have := (hR.loose p hp).1; omega) hM) ?_
  rintro v w' ⟨A', a', B', b', X, rfl, hX, hM⟩
  have hXl : X.length = t.ps.length := by rw [← hX, List.length_map]
  ((with_reducible (refine mm_st hM ?_; clear hM; intro _ hM; refine mop_c trivial ?_; refine mm_ld hM ?_; refine mop_c trivial ?_)))
  refine mm_pure hM (index_ok (H := Hp.of _) t.ls (by omega) (hM.reads (A := A')) (Fz.of _)) (fun w hM => ?_)
  have hgl := t.gap_le
  have hfx : fix (fun l => decide (l = Lf.zero)) t.ls = if t.gap < t.ls.length then (t.gap : Int) else -1 := by
    unfold fix
    rw [hR.gap_eq]
  rw [hfx]
  have hM := hM.at_ (fb g1 27 (tfd A' t.ls.length a' B' t.ps.length b'))
  refine ⟨fun v w' => ¬ (t.gap = t.ls.length ∧ t.gap = 64) ∧ v = .int .i64 t.gap ∧ ∃ A2 a2 B2 b2 m Y, Y.map (·.1) = addPs t ∧ Y.length = m ∧ Mem H w1 [fb g1 27 (tfd A2 (gapL t).length a2 B2 m b2), fb g2 36 l.fds, fb g3 27 (tfd none 0 0 none 0 0), rowR 36 97 A2 (gapL t).length a2 ((gapL t).map Lf.fds), rowR 96 66 B2 m b2 (Y.map xrow), allR Y] w', ?_, ?_⟩
  · by_cases hgap : t.gap < t.ls.length
    · rw [if_pos hgap]
      ((with_reducible (refine mop_cF trivial ?_ ?_)); (focus (first | assumption | omega | with_reducible rfl | exact fun h => Bool.noConfusion h)); (with_reducible (refine mif_false ?_)))
      have e1 : gapL t = t.ls := if_neg (by omega)
      have e2 : addPs t = t.ps := if_neg (by omega)
      rw [e1, e2]
      exact ⟨by omega, rfl, A', a', B', b', t.ps.length, X, hX, hXl, hM.sub⟩
    · rw [if_neg hgap]
      have hge : t.gap = t.ls.length := by omega
      have e1 : gapL t = t.ls ++ [Lf.zero] := if_pos hge
      ((with_reducible (refine mop_cT trivial ?_ ?_)); (focus (first | assumption | omega | with_reducible rfl | exact fun h => Bool.noConfusion h)); (with_reducible (refine mif_true ?_; refine mop_c trivial ?_; refine mm_ld hM ?_; refine mop_c trivial ?_)))
      ((with_reducible (refine mop_cS trivial ?_ ?_)))
      · intro hf
        rw [if_pos (by omega)] at hq
        ((with_reducible (refine mif_true ?_; refine mop_c trivial ?_; refine mm_st hM ?_; clear hM; intro _ hM; refine rm_ld hM ?_)))
        exact hM.out (Le.refl _ _) (hq _ _ _ rfl (trF_none H))
      · intro hnf
        have hnf2 : ¬ (t.gap = t.ls.length ∧ t.gap = 64) := by omega
        ((with_reducible (refine mif_false ?_)))
        refine ⟨fun w' => ∃ B2 b2 m Y, Y.map (·.1) = addPs t ∧ Y.length = m ∧ Mem H w1 [fb g1 27 (tfd A' t.ls.length a' B2 m b2), fb g2 36 l.fds, fb g3 27 (tfd none 0 0 none 0 0), rowR 36 97 A' t.ls.length a' (t.ls.map Lf.fds), rowR 96 66 B2 m b2 (Y.map xrow), allR Y] w', ?_, ?_⟩
        · skip
          ((with_reducible (refine mop_cS trivial ?_ ?_)))
          · intro hpos
            ((with_reducible (refine mif_true ?_; refine mop_c trivial ?_; refine mm_ld hM ?_; refine mop_c trivial ?_; refine mm_bsl hM ?_ ?_ ?_)); (focus rfl); (focus (constructor <;> simp)); (with_reducible (clear hM; intro _ _ hM; refine mm_appo hM ?_ ?_)); (focus omega); (with_reducible (clear hM; intro _ _ _ hM; refine mop_c trivial ?_; refine mm_st hM ?_; clear hM; intro _ hM)))
            rename_i A3 c3 _ _
            have e2 : addPs t = t.ps ++ [Pn.zero] := if_pos ⟨hge, by omega⟩
            rw [← xrow0, show X.map xrow ++ [xrow x0] = (X ++ [x0]).map xrow by simp] at hM
            have h0 : Mem H w1 (xres x0 :: _) _ := hM.row0 3 1
            have hM : Mem H w1 [allR X, xres x0, rowR 96 66 A3 (t.ps.length + 1) c3 ((X ++ [x0]).map xrow), fb g1 27 (tfd A' t.ls.length a' A3 (t.ps.length + 1) c3), rowR 36 97 A' t.ls.length a' (t.ls.map Lf.fds), fb g3 27 (tfd none 0 0 none 0 0), fb g2 36 l.fds] _ := h0.same
            exact ⟨A3, c3, t.ps.length + 1, X ++ [x0], by rw [e2, List.map_append, hX]; rfl, by simp [hXl], hM.addk.same⟩
          · intro hz
            ((with_reducible (refine mif_false ?_)))
            have e2 : addPs t = t.ps := if_neg (by omega)
            rw [e2]
            exact ⟨B', b', t.ps.length, X, hX, hXl, hM.sub⟩
        · clear hM
          rintro u3 w3 ⟨B2, b2, m, Y, hY, hYl, hM⟩
          ((with_reducible (refine mop_c trivial ?_; refine mm_ld hM ?_; refine mop_c trivial ?_; refine mm_bsl hM ?_ ?_ ?_)); (focus rfl); (focus (constructor <;> simp)); (with_reducible (clear hM; intro _ _ hM; refine mm_appo hM ?_ ?_)); (focus omega); (with_reducible (clear hM; intro _ _ _ hM; refine mop_c trivial ?_; refine mm_st hM ?_; clear hM; intro _ hM)))
          rename_i A3 c3 _ _
          have e4 : t.ls.length + 1 = (gapL t).length := by rw [e1]; simp
          have e5 : t.ls.map Lf.fds ++ [[Fd.one (.int .i64 0), .arr 32 (u8s hzero.1), .arr 32 (u8s hzero.1), .arr 32 (u8s hzero.1)]] = (gapL t).map Lf.fds := by
            rw [e1, List.map_append]
            rfl
          rw [e5, e4] at hM
          exact ⟨hnf2, by rw [hge], A3, c3, B2, b2, m, Y, hY, hYl, hM.sub⟩
  clear hM
  rintro v u4 w4 ⟨hnf, rfl, A2, a2, B2, b2, m, Y, hY, hYl, hM⟩
  rw [if_neg hnf] at hq
  have hgn := gapL_len t l
  have hgs := gapL_set t l
  have hap := addPs_len hR l
  have hln : (addL t l).length ≤ 64 ∧ t.gap < (addL t l).length := by
    rw [addL_len]
    split <;> omega
  rw [← hY, List.length_map, hYl] at hap
  obtain ⟨g4, rfl⟩ := (hM.up A2).rowAt ⟨.refl _⟩ (by omega)
  ((with_reducible (refine mop_c trivial ?_; refine mm_ld hM ?_; refine mm_ld hM ?_; refine mm_ixr hM ?_ ?_)); (focus omega); (with_reducible (intro _ hA)); (cases hA); (with_reducible (refine mm_str hM ?_ ?_)); (focus omega); (with_reducible (clear hM; intro _ hM; refine mop_c trivial ?_; refine mm_ld hM ?_; refine mop_c trivial ?_)))
  rw [Int.toNat_natCast, ← List.map_set, hgs, hgn] at hM
  rw [hgn]
  refine mm_call hM (bdirect_ok (addL t l).length t.gap (by omega) hM.fz) ?_
  rintro H1 v w5 l1 hM ⟨D, c, rfl, hD⟩
  have hdl := dirL_len (addL t l).length t.gap
  have hdm := fun x hx => dir_mem (n := (addL t l).length) (l := t.gap) (x := x) (by omega) hx
  have hnd := dir_nodup (n := (addL t l).length) (l := t.gap) (by omega)
  generalize hDL : dirL (addL t l).length t.gap = DL at *
  ((with_reducible (refine mop_c trivial ?_)))
  refine ⟨fun v w' => ∃ (i : Nat) (Z : List Xp) (H2 : Hp), v = .int .i64 i ∧ i ≤ DL.length ∧ Z.map (·.1) = onDir (updA t.gap) (DL.take i) (Y.map (·.1)) ∧ Z.length = m ∧ Le w1 H1 H2 ∧ Mem H2 w1 [fb g1 27 (tfd (some ⟨g4, 0, none⟩) (addL t l).length a2 B2 m b2), fb g2 36 l.fds, fb g3 27 (tfd none 0 0 none 0 0), rowR 36 97 (some ⟨g4, 0, none⟩) (addL t l).length a2 ((addL t l).map Lf.fds), rowR 96 66 B2 m b2 (Z.map xrow), allR Z] w', fun v _ => match v with | .int _ k => DL.length - k.toNat | _ => 0, ⟨0, Y, H1, rfl, by omega, rfl, hYl, Le.refl _ _, hM.same⟩, ?_⟩
  clear hM
  rintro v u6 w6 ⟨i, Z, H2, rfl, hi, hZ, hZl, l2, hM⟩
  have hD := hD.mono l2.le
  ((with_reducible (refine mop_cS trivial ?_ ?_)))
  · intro hlt
    have hlt' : i < DL.length := by omega
    have hxm := hdm DL[i] (List.getElem_mem _)
    have hk : (DL[i] / 2).toNat < Z.length := by omega
    have hk2 : (DL[i] / 2).toNat < (addPs t).length := by rw [← hY, List.length_map]; omega
    have hZk : Z[(DL[i] / 2).toNat].1 = (addPs t)[(DL[i] / 2).toNat] := by
      have e1 : (Z.map (·.1))[(DL[i] / 2).toNat]? = (addPs t)[(DL[i] / 2).toNat]? := by
        rw [hZ, hY]
        refine onDir_get (hnd.sublist (List.take_sublist _ _)) (fun y hy => by have := hdm y (List.mem_of_mem_take hy); omega) fun hm => ?_
        rw [show 2 * (((DL[i] / 2).toNat : Nat) : Int) + 1 = DL[i] by omega] at hm
        obtain ⟨j, hj, e⟩ := List.getElem_of_mem hm
        rw [List.getElem_take] at e
        have := (List.getElem_inj hnd).1 e
        simp at hj
        omega
      rw [List.getElem?_map, List.getElem?_eq_getElem hk, List.getElem?_eq_getElem hk2] at e1
      exact Option.some.inj e1
    obtain ⟨hs1, hs2⟩ := hR.addPs_loose _ (List.getElem_mem hk2)
    rw [← hZk] at hs1 hs2
    ((with_reducible (refine mif_true ?_)))
    refine ⟨fun w' => ∃ (Z' : List Xp) (H3 : Hp), Z'.map (·.1) = onDir (updA t.gap) (DL.take (i + 1)) (Y.map (·.1)) ∧ Z'.length = m ∧ Le w1 H1 H3 ∧ Mem H3 w1 [fb g1 27 (tfd (some ⟨g4, 0, none⟩) (addL t l).length a2 B2 m b2), fb g2 36 l.fds, fb g3 27 (tfd none 0 0 none 0 0), rowR 36 97 (some ⟨g4, 0, none⟩) (addL t l).length a2 ((addL t l).map Lf.fds), rowR 96 66 B2 m b2 (Z'.map xrow), allR Z'] w', ?_, ?_⟩
    · ((with_reducible refine mm_ixs ‹_› ?_ ?_ ?_); (focus (simp only [List.length_map]; omega)); (focus (simp only [List.length_map]; first | done | omega)); (with_reducible (intro _ _ hA)); (cases hA); (with_reducible refine mm_lds0 hM ‹_› (map_atI ?_) ?_); (focus omega); (with_reducible (refine mop_c trivial ?_; refine mm_ld hM ?_; refine mop_c ?_ ?_)); (focus omega); (with_reducible (refine mm_ixr hM ?_ ?_)); (focus omega); (with_reducible (intro _ hA)); (cases hA); (with_reducible (refine mop_c trivial ?_; refine mop_c trivial ?_; refine mm_ldr hM (map_at ?_) ?_)); (focus omega))
      cases hset : Z[(DL[i] / 2).toNat].1.set
      · ((with_reducible (refine mif_false ?_)))
        refine ⟨Z, H2, ?_, hZl, l2, hM⟩
        rw [onDir_succ hlt', ← hZ]
        refine List.ext_getElem (by simp) fun j h1 h2 => ?_
        simp only [List.getElem_modify, List.getElem_map]
        split
        · rename_i e
          subst e
          unfold updA
          rw [if_neg (by rw [hset]; simp)]
        · rfl
      · have hM := (hM.at_ (allR Z)).outk hk
        ((with_reducible (refine mif_true ?_; refine mop_c trivial ?_; refine mop_c trivial ?_; refine mm_ldr hM (map_at ?_) ?_)); (focus omega))
        refine mm_own (Q := fun v w' => ∃ bb, v = .tuple #[.int .i64 (bs' Z[(DL[i] / 2).toNat].1.loose t.gap), .bool bb] ∧ hM.now w') ((bsearch_ok (H := Hp.of _) Z[(DL[i] / 2).toNat].1.loose t.gap hs2 (by omega) (hM.reads (A := Z[(DL[i] / 2).toNat].2.1)) (Fz.of _)).mono ?_) ?_
        · rintro e w' ⟨⟨bb, rfl⟩, hst⟩
          exact ⟨_, rfl, bb, rfl, hM.call0 hst⟩
        rintro v w' ⟨bb, rfl, hM⟩
        ((with_reducible ((iterate 4 refine mop_c trivial ?_); refine mm_ldr hM (map_at ?_) ?_)); (focus omega); (with_reducible (refine mm_bsl hM ?_ ?_ ?_)); (focus rfl); (focus (constructor <;> simp)); (with_reducible (clear hM; intro _ _ hM)))
        refine mm_own (insert_ok Z[(DL[i] / 2).toNat].1.loose (bs' Z[(DL[i] / 2).toNat].1.loose t.gap) t.gap List.findIdx_le_length (by omega) (hM.up Z[(DL[i] / 2).toNat].2.1)) ?_
        rintro v w' ⟨A5, c5, rfl, hM⟩
        ((with_reducible (refine mop_c trivial ?_; refine mop_c trivial ?_)))
        refine mm_stf hM (map_at hk) (fun w' hM => ?_)
        have hy : updA t.gap Z[(DL[i] / 2).toNat].1 = { Z[(DL[i] / 2).toNat].1 with loose := ins Z[(DL[i] / 2).toNat].1.loose t.gap } := if_pos hset
        have hil := ins_len Z[(DL[i] / 2).toNat].1.loose t.gap
        have hrow : xrow (updA t.gap Z[(DL[i] / 2).toNat].1, A5, c5) = [.one (.bool Z[(DL[i] / 2).toNat].1.set), .arr 32 (u8s Z[(DL[i] / 2).toNat].1.pub.1), .arr 32 (u8s Z[(DL[i] / 2).toNat].1.abv.1), .one (.slice A5 (Z[(DL[i] / 2).toNat].1.loose.length + 1) c5)] := by
          rw [hy]
          show [Fd.one (.bool Z[(DL[i] / 2).toNat].1.set), _, _, Fd.one (.slice A5 (ins Z[(DL[i] / 2).toNat].1.loose t.gap).length c5)] = _
          rw [hil]
        have hres : rowR 3 1 A5 (Z[(DL[i] / 2).toNat].1.loose.length + 1) c5 (ints8 (Z[(DL[i] / 2).toNat].1.loose.take (bs' Z[(DL[i] / 2).toNat].1.loose t.gap) ++ (t.gap : Int) :: Z[(DL[i] / 2).toNat].1.loose.drop (bs' Z[(DL[i] / 2).toNat].1.loose t.gap))) = xres (updA t.gap Z[(DL[i] / 2).toNat].1, A5, c5) := by
          rw [hy, ← hil]
          rfl
        rw [← hrow, ← List.map_set, hres] at hM
        have hM := ((hM.at_ (restR Z (DL[i] / 2).toNat)).at_ (xres (updA t.gap Z[(DL[i] / 2).toNat].1, A5, c5))).ink hk
        skip
        refine ⟨Z.set (DL[i] / 2).toNat (updA t.gap Z[(DL[i] / 2).toNat].1, A5, c5), H2, ?_, by simpa using hZl, l2, hM.same⟩
        rw [onDir_succ hlt', ← hZ]
        refine List.ext_getElem (by simp) fun j h1 h2 => ?_
        simp only [List.getElem_modify, List.getElem_map, List.getElem_set]
        split
        · rename_i e
          subst e
          rfl
        · rfl
    · clear hM
      rintro u7 w7 ⟨Z', H3, hZ', hZl', l3, hM⟩
      ((with_reducible (refine mop_c ?_ ?_)); (focus omega))
      exact ⟨⟨i + 1, Z', H3, rfl, by omega, hZ', hZl', l3, hM⟩, by simp only; omega⟩
  · intro hge
    ((with_reducible (refine mif_false ?_; refine mm_ld hM ?_; refine mm_st hM ?_; clear hM; intro _ hM; refine rm_ld hM ?_)))
    rw [List.take_of_length_le (by omega), hY] at hZ
    rw [← hZl] at hM ⊢
    have hM : Mem H2 w1 [rowR 36 97 (some ⟨g4, 0, none⟩) (addL t l).length a2 ((addL t l).map Lf.fds), rowR 96 66 B2 Z.length b2 (Z.map xrow), allR Z] _ := hM.sub
    obtain ⟨H4, l4, hM, hT⟩ := hM.frzT (fun x hx => by
      have hm : x.1 ∈ onDir (updA t.gap) DL (addPs t) := hZ ▸ List.mem_map_of_mem hx
      rw [onDir_eq hnd fun y hy => by have := hdm y hy; omega] at hm
      obtain ⟨k, hk, e⟩ := List.getElem_of_mem hm
      rw [List.getElem_mapIdx] at e
      have hk' : k < (addPs t).length := by simpa using hk
      have := (hR.addPs_loose _ (List.getElem_mem hk')).1
      have h64 : x.1.loose.length ≤ 65 := by
        rw [← e]
        split
        · unfold updA
          split
          · rw [ins_len]
            omega
          · omega
        · omega
      simp only [maxLen]
      omega)
    refine hM.out ((l1.trans l2).trans l4) (hq _ _ _ rfl ?_)
    rw [hZ] at hT
    exact hT
end
end Go.Proofs.Ytopcnkejobomaaa
namespace Go.Proofs.Ytopcnkejobomaaa
open Go.RowKit Go.Lib
theorem onDir_mem {f : Pn → Pn} {P : Pn → Prop} (hf : ∀ p, P p → P (f p)) : ∀ {D : List Int} {ps : List Pn}, (∀ p ∈ ps, P p) → ∀ p ∈ onDir f D ps, P p
  | [], _, h => h
  | x :: D, ps, h => by
    refine onDir_mem hf (D := D) (ps := ps.modify (x / 2).toNat f) fun p hp => ?_
    obtain ⟨i, hi, rfl⟩ := List.getElem_of_mem hp
    rw [List.getElem_modify]
    have hi' : i < ps.length := by simpa using hi
    split
    · exact hf _ (h _ (List.getElem_mem hi'))
    · exact h _ (List.getElem_mem hi')
theorem Tr.Rt.blank_loose {t : Tr} (h : t.Rt) {p : Int} : ∀ q ∈ blankP t.size p t.ps, q.loose.length ≤ 64 :=
  onDir_mem (P := fun q => q.loose.length ≤ 64) (fun _ _ => by simp [Pn.zero]) fun q hq => (h.loose q hq).1
theorem Tr.body {t : Tr} {p : Int} (h : ¬ t.nobody p) : 0 ≤ p ∧ p.toNat < t.ls.length ∧ p < t.ls.length := by
  unfold Tr.nobody Tr.size at h
  omega
section
variable {H : Hp} {w0 w : World} {L R : List Res} {A B C : Option Addr} {a b c n : Nat} {t : Tr} {qs ps : List (List Fd)}
theorem remove_q {Q : Hp → Value → Prop} (p : Int) (hq : ∀ H' v1 r, t.remP p = r → TrF H' v1 r.1 → Q H' (.tuple #[v1, .int .i64 r.2])) (h1 : Sl H 97 A (t.ls.map Lf.fds)) (h2 : Sl H 66 B qs) (h3 : All2 (PnF H) qs t.ps) (hl : t.ls.length ≤ maxLen) (hp : t.ps.length ≤ maxLen) (hf : Fz H w) :
    Calls Try.prog 30 #[tv A t.ls.length a B t.ps.length b, .int .i64 p] w (Outp H w Q) := by
  obtain ⟨w1, hw1⟩ : ∃ w1, w1 = w := ⟨_, rfl⟩
  rw [← hw1]
  rw [← hw1] at hf
  have hM := Mem.start hf
  refine C_tree_Remove ?_
  unfold F_tree_Remove
  unfold Tr.remP at hq
  ((with_reducible (refine mm_box hM ?_; clear hM; intro _ _ hM; refine mm_new hM ?_; clear hM; intro _ _ hM; refine mm_ld hM ?_)))
  rename_i g1 _ g2 _
  refine mm_pure hM (right_ok h1 h2 h3 hl hp hM.fz) (fun w hM => ?_)
  ((with_reducible (refine mop_c trivial ?_)))
  cases hr : t.right
  · rw [if_pos (by rw [hr]; simp)] at hq
    rw [Bool.not_false]
    ((with_reducible (refine mif_true ?_; refine mop_c trivial ?_; refine mm_st hM ?_; clear hM; intro _ hM; refine rm_ld hM ?_)))
    exact hM.out (Le.refl _ _) (hq _ _ _ rfl (trF_none H))
  rw [if_neg (by rw [hr]; simp)] at hq
  have hR := Tr.rt.1 hr
  have hlen := hR.len
  rw [Bool.not_true]
  ((with_reducible (refine mif_false ?_; refine mm_ld hM ?_)))
  refine mm_pure hM (none_ok p h1 hl hM.fz) (fun w hM => ?_)
  by_cases hn : t.nobody p
  · rw [if_pos hn] at hq
    rw [decide_eq_true hn]
    ((with_reducible (refine mif_true ?_; refine mop_c trivial ?_; refine mm_st hM ?_; clear hM; intro _ hM; refine rm_ld hM ?_)))
    exact hM.out (Le.refl _ _) (hq _ _ _ rfl (trF_none H))
  rw [if_neg hn] at hq
  rw [decide_eq_false hn]
  obtain ⟨hb0, hb1, hb2⟩ := Tr.body hn
  ((with_reducible (refine mif_false ?_; refine mm_ld hM ?_)))
  refine mm_own (clone_ok h1 h2 h3 (by omega) (by omega) (fun p hp => by have := (hR.loose p hp).1; omega) hM) ?_
  rintro v w' ⟨A', a', B', b', X, rfl, hX, hM⟩
  have hXl : X.length = t.ps.length := by rw [← hX, List.length_map]
  obtain ⟨g4, rfl⟩ := hM.rowAt ⟨.refl _⟩ (by omega)
  ((with_reducible (refine mm_st hM ?_; clear hM; intro _ hM; refine mop_c trivial ?_; refine mm_ld hM ?_; refine mop_c trivial ?_; refine mm_ixr hM ?_ ?_)); (focus omega); (with_reducible (intro _ hA)); (cases hA); (with_reducible (refine mm_str hM ?_ ?_)); (focus omega); (with_reducible (clear hM; intro _ hM; refine mm_ld hM ?_)))
  have hz : [Fd.one (.int .i64 0), .arr 32 (u8s hzero.1), .arr 32 (u8s hzero.1), .arr 32 (u8s hzero.1)] = Lf.zero.fds := rfl
  rw [hz, ← List.map_set] at hM
  have hsl : (t.ls.set p.toNat Lf.zero).length = t.ls.length := List.length_set
  obtain ⟨ls2, hls⟩ : ∃ ls2, t.ls.set p.toNat Lf.zero = ls2 := ⟨_, rfl⟩
  rw [hls] at hM hsl hq
  rw [← hsl, ← hXl] at hM
  have hM : Mem H w1 [rowR 36 97 (some ⟨g4, 0, none⟩) ls2.length a' (ls2.map Lf.fds), rowR 96 66 B' X.length b' (X.map xrow), allR X, fb g1 27 (tfd (some ⟨g4, 0, none⟩) ls2.length a' B' X.length b'), fb g2 27 (tfd none 0 0 none 0 0)] _ := hM.sub
  rw [← hsl, ← hXl]
  refine mm_own (blank_ok (ls := ls2) (X := X) (p := p) (by omega) (by omega) hM) ?_
  clear hM
  rintro v w5 ⟨H1, Y, rfl, hY, hYl, l1, hM⟩
  rw [hX] at hY
  ((with_reducible (refine mop_c trivial ?_; refine mm_ld hM ?_; refine mop_c trivial ?_)))
  refine ⟨fun v w' => ∃ i : Nat, v = .int .i64 i ∧ i ≤ ls2.length ∧ keepN ls2 ls2.length = keepN ls2 i ∧ hM.now w', fun v _ => match v with | .int _ k => k.toNat | _ => 0, ⟨ls2.length, rfl, by omega, rfl, hM⟩, ?_⟩
  rintro v u6 w6 ⟨i, rfl, hi, hk, hM⟩
  obtain ⟨-, ca1, -, -⟩ := (hM.up (some ⟨g4, 0, none⟩)).rowLen ⟨.refl _⟩
  obtain ⟨-, cb1, -, -⟩ := (hM.up B').rowLen ⟨.refl _⟩
  refine ⟨fun w' => 0 < i ∧ keepN ls2 i = keepN ls2 (i - 1) ∧ hM.now w', ?_, ?_⟩
  · skip
    have hfin : keepN ls2 i = i → ∀ w', Mem H1 w1 [rowR 36 97 (some ⟨g4, 0, none⟩) ls2.length a' (ls2.map Lf.fds), rowR 96 66 B' X.length b' (Y.map xrow), allR Y] w' → Outp H w1 Q (.returned (.tuple #[.agg (fl (tfd (some ⟨g4, 0, none⟩) (i : Int).toNat a' B' (if (i : Int) - 1 < 0 then 0 else (i : Int) - 1).toNat b')).toArray, .int .i64 0])) w' := fun hi2 w' hM => by
      rw [hi2] at hk
      have hM := hM.short (k := i) (by omega)
      have hM := (hM.up B').short (k := i - 1) (by omega)
      have hM := (hM.at_ (allR Y)).dropk (i - 1)
      have e1 : (ls2.take i).length = i := by rw [List.length_take]; omega
      have e2 : (Y.take (i - 1)).length = i - 1 := by rw [List.length_take]; omega
      rw [← List.map_take, ← List.map_take] at hM
      have hM : Mem H1 w1 [rowR 36 97 (some ⟨g4, 0, none⟩) i a' ((ls2.take i).map Lf.fds), rowR 96 66 B' (i - 1) b' ((Y.take (i - 1)).map xrow), allR (Y.take (i - 1))] w' := hM.same
      have hM : Mem H1 w1 [rowR 36 97 (some ⟨g4, 0, none⟩) (ls2.take i).length a' ((ls2.take i).map Lf.fds), rowR 96 66 B' (Y.take (i - 1)).length b' ((Y.take (i - 1)).map xrow), allR (Y.take (i - 1))] w' := by
        rw [e1, e2]
        exact hM
      obtain ⟨H4, l4, hM, hT⟩ := hM.frzT (fun x hx => by
        have hm : x.1 ∈ blankP t.size p t.ps := by
          have : x.1 ∈ Y.map (·.1) := List.mem_map_of_mem (List.mem_of_mem_take hx)
          rw [hY, hsl] at this
          exact this
        have := hR.blank_loose _ hm
        simp only [maxLen]
        omega)
      rw [e1, e2] at hT
      rw [Int.toNat_natCast, show (if (i : Int) - 1 < 0 then 0 else (i : Int) - 1).toNat = i - 1 by split <;> omega]
      refine hM.out (l1.trans l4) (hq _ _ _ rfl ?_)
      show TrF H4 _ (cut ls2 (blankP t.size p t.ps))
      unfold cut
      rw [hk]
      rw [List.map_take, hY, hsl] at hT
      exact hT
    ((with_reducible (refine mop_cS trivial ?_ ?_)))
    · intro hpos
      have hix : ((i : Int) - 1).toNat < ls2.length := by omega
      have hna := nameAt_at (ls := ls2) (p := (i : Int) - 1) (by omega) hix
      ((with_reducible (refine mguard_yes ?_; refine mop_c trivial ?_; refine mguard_yes ?_; refine mm_ld hM ?_; refine mguard_yes ?_; refine mop_c trivial ?_; refine mguard_yes ?_; refine mop_c ?_ ?_)); (focus omega); (with_reducible (refine mguard_yes ?_; refine mm_ixr hM ?_ ?_)); (focus omega); (with_reducible (intro _ hA)); (cases hA); (with_reducible (refine mguard_yes ?_; refine mop_c trivial ?_; refine mguard_yes ?_; refine mm_ldr hM (map_at ?_) ?_)); (focus omega); (with_reducible (refine mguard_yes ?_)))
      rw [← hna]
      have hkn : keepN ls2 i = if nameAt ls2 ((i : Int) - 1) = 0 then keepN ls2 (i - 1) else i := by
        cases i with
        | zero => omega
        | succ i =>
          rw [keepN]
          simp
      ((with_reducible (refine mop_cS trivial ?_ ?_)))
      · intro h0
        ((with_reducible (refine mop_c trivial ?_; refine mif_true ?_)))
        exact ⟨by omega, by rw [hkn, if_pos h0], hM⟩
      · intro h0
        rw [if_neg h0] at hkn
        ((with_reducible (refine mop_c trivial ?_; refine mif_false ?_; refine dp_c trivial ?_; refine dm_ld hM ?_; refine dp_c ?_ ?_)); (focus omega); (with_reducible (refine dp_c trivial ?_; refine dm_ld hM ?_; refine dp_c ?_ ?_)); (focus omega); (with_reducible (refine dp_c trivial ?_; refine dp_c ?_ ?_)); (focus omega); (with_reducible (refine dp_c trivial ?_; refine dS_st hM ?_; clear hM; intro _ hM; refine dp_c trivial ?_; refine dS_st hM ?_; clear hM; intro _ hM; refine mm_end hM ?_; clear hM; intro _ hM; refine mm_ld hM ?_; refine mm_st hM ?_; clear hM; intro _ hM; refine rm_ld hM ?_)))
        exact hfin hkn _ hM.sub
    · intro hz
      ((with_reducible ((iterate 8 refine mguard_n2 ?_); refine mop_c trivial ?_; refine mif_false ?_; refine dp_c trivial ?_; refine dm_ld hM ?_; refine dp_c ?_ ?_)); (focus omega); (with_reducible (refine dp_c trivial ?_; refine dm_ld hM ?_; refine dp_c ?_ ?_)); (focus omega); (with_reducible (refine dp_c trivial ?_; refine dp_c ?_ ?_)); (focus omega); (with_reducible (refine dp_c trivial ?_; refine dS_st hM ?_; clear hM; intro _ hM; refine dp_c trivial ?_; refine dS_st hM ?_; clear hM; intro _ hM; refine mm_end hM ?_; clear hM; intro _ hM; refine mm_ld hM ?_; refine mm_st hM ?_; clear hM; intro _ hM; refine rm_ld hM ?_)))
      obtain rfl : i = 0 := by omega
      exact hfin rfl _ hM.sub
  · rintro u7 w7 ⟨hpos, hk2, hM⟩
    ((with_reducible (refine mop_c ?_ ?_)); (focus omega))
    exact ⟨⟨i - 1, by congr 1; omega, by omega, by rw [hk, hk2], hM⟩, by simp only; omega⟩
theorem renew_q {Q : Hp → Value → Prop} (p : Int) (pub : H32) (hq : ∀ H' v1 r, t.renP p pub = r → TrF H' v1 r.1 → Q H' (.tuple #[v1, .int .i64 r.2])) (h1 : Sl H 97 A (t.ls.map Lf.fds)) (h2 : Sl H 66 B qs) (h3 : All2 (PnF H) qs t.ps) (hl : t.ls.length ≤ maxLen) (hp : t.ps.length ≤ maxLen) (hf : Fz H w) :
    Calls Try.prog 29 #[tv A t.ls.length a B t.ps.length b, .int .i64 p, ha pub] w (Outp H w Q) := by
  obtain ⟨w1, hw1⟩ : ∃ w1, w1 = w := ⟨_, rfl⟩
  rw [← hw1]
  rw [← hw1] at hf
  have hM := Mem.start hf
  refine C_tree_Renew ?_
  unfold F_tree_Renew
  unfold Tr.renP at hq
  ((with_reducible (refine mm_box hM ?_; clear hM; intro _ _ hM; refine mm_box hM ?_; clear hM; intro _ _ hM; refine mm_new hM ?_; clear hM; intro _ _ hM; refine mm_ld hM ?_)))
  rename_i g1 _ g5 _ g2 _
  refine mm_pure hM (right_ok h1 h2 h3 hl hp hM.fz) (fun w hM => ?_)
  ((with_reducible (refine mop_c trivial ?_)))
  cases hr : t.right
  · rw [if_pos (by rw [hr]; simp)] at hq
    rw [Bool.not_false]
    ((with_reducible (refine mif_true ?_; refine mop_c trivial ?_; refine mm_st hM ?_; clear hM; intro _ hM; refine rm_ld hM ?_)))
    exact hM.out (Le.refl _ _) (hq _ _ _ rfl (trF_none H))
  rw [if_neg (by rw [hr]; simp)] at hq
  have hR := Tr.rt.1 hr
  have hlen := hR.len
  rw [Bool.not_true]
  ((with_reducible (refine mif_false ?_; refine mm_ld hM ?_)))
  refine mm_pure hM (none_ok p h1 hl hM.fz) (fun w hM => ?_)
  by_cases hn : t.nobody p
  · rw [if_pos hn] at hq
    rw [decide_eq_true hn]
    ((with_reducible (refine mif_true ?_; refine mop_c trivial ?_; refine mm_st hM ?_; clear hM; intro _ hM; refine rm_ld hM ?_)))
    exact hM.out (Le.refl _ _) (hq _ _ _ rfl (trF_none H))
  rw [if_neg hn] at hq
  rw [decide_eq_false hn]
  obtain ⟨hb0, hb1, hb2⟩ := Tr.body hn
  ((with_reducible (refine mif_false ?_; refine mm_ld hM ?_)))
  refine mm_own (clone_ok h1 h2 h3 (by omega) (by omega) (fun p hp => by have := (hR.loose p hp).1; omega) hM) ?_
  rintro v w' ⟨A', a', B', b', X, rfl, hX, hM⟩
  have hXl : X.length = t.ps.length := by rw [← hX, List.length_map]
  obtain ⟨g4, rfl⟩ := hM.rowAt ⟨.refl _⟩ (by omega)
  obtain ⟨l0, hl0⟩ : ∃ l0, t.ls[p.toNat] = l0 := ⟨_, rfl⟩
  have hk0 : (t.ls.map Lf.fds)[p.toNat]? = some l0.fds := by rw [← hl0]; exact map_at hb1
  ((with_reducible (refine mm_st hM ?_; clear hM; intro _ hM; refine mop_c trivial ?_; refine mm_ld hM ?_; refine mm_ld hM ?_; refine mm_ixr hM ?_ ?_)); (focus omega); (with_reducible (intro _ hA)); (cases hA); (with_reducible (refine mop_c trivial ?_)))
  refine mm_stf hM hk0 (fun w' hM => ?_)
  have hz : [Fd.one (.int .i64 l0.name), .arr 32 (u8s pub.1), .arr 32 (u8s l0.ver.1), .arr 32 (u8s l0.abv.1)] = (l0.key pub l0.abv).fds := rfl
  rw [hz] at hM
  have hk1 : ((t.ls.map Lf.fds).set p.toNat (l0.key pub l0.abv).fds)[p.toNat]? = some (l0.key pub l0.abv).fds := by
    rw [List.getElem?_set_self (by simpa using hb1)]
  ((with_reducible (refine mop_c trivial ?_; refine mm_ld hM ?_; refine mop_c trivial ?_; refine mm_ixr hM ?_ ?_)); (focus omega); (with_reducible (intro _ hA)); (cases hA); (with_reducible (refine mop_c trivial ?_)))
  refine mm_stf hM hk1 (fun w' hM => ?_)
  have hz2 : [Fd.one (.int .i64 l0.name), .arr 32 (u8s pub.1), .arr 32 (u8s l0.ver.1), .arr 32 (u8s hzero.1)] = (l0.key pub hzero).fds := rfl
  have hz3 : [Fd.one (.int .i64 (l0.key pub l0.abv).name), .arr 32 (u8s (l0.key pub l0.abv).pub.1), .arr 32 (u8s (l0.key pub l0.abv).ver.1), .arr 32 (u8s hzero.1)] = (l0.key pub hzero).fds := rfl
  rw [hz3, List.set_set, ← List.map_set] at hM
  have hmod : t.ls.set p.toNat (l0.key pub hzero) = t.ls.modify p.toNat (·.key pub hzero) := by
    refine List.ext_getElem (by simp) fun i k1 k2 => ?_
    simp only [List.getElem_modify, List.getElem_set]
    split
    · rename_i e
      subst e
      rw [hl0]
    · rfl
  rw [hmod] at hM
  have hsl : (t.ls.modify p.toNat (·.key pub hzero)).length = t.ls.length := List.length_modify ..
  obtain ⟨ls2, hls⟩ : ∃ ls2, t.ls.modify p.toNat (·.key pub hzero) = ls2 := ⟨_, rfl⟩
  rw [hls] at hM hsl hq
  rw [← hsl, ← hXl] at hM
  ((with_reducible (refine mm_ld hM ?_)))
  have hM : Mem H w1 [rowR 36 97 (some ⟨g4, 0, none⟩) ls2.length a' (ls2.map Lf.fds), rowR 96 66 B' X.length b' (X.map xrow), allR X, fb g1 27 (tfd (some ⟨g4, 0, none⟩) ls2.length a' B' X.length b'), fb g2 27 (tfd none 0 0 none 0 0)] _ := hM.sub
  refine mm_own (blank_ok (ls := ls2) (X := X) (p := p) (by omega) (by omega) hM) ?_
  clear hM
  rintro v w5 ⟨H1, Y, rfl, hY, hYl, l1, hM⟩
  rw [hX] at hY
  ((with_reducible (refine mm_ld hM ?_; refine mm_st hM ?_; clear hM; intro _ hM; refine rm_ld hM ?_)))
  rw [← hYl] at hM
  have hM : Mem H1 w1 [rowR 36 97 (some ⟨g4, 0, none⟩) ls2.length a' (ls2.map Lf.fds), rowR 96 66 B' Y.length b' (Y.map xrow), allR Y] _ := hM.sub
  obtain ⟨H4, l4, hM, hT⟩ := hM.frzT (fun x hx => by
    have hm : x.1 ∈ blankP t.size p t.ps := by
      have : x.1 ∈ Y.map (·.1) := List.mem_map_of_mem hx
      rw [hY, hsl] at this
      exact this
    have := hR.blank_loose _ hm
    simp only [maxLen]
    omega)
  rw [hYl] at hT
  refine hM.out (l1.trans l4) (hq _ _ _ rfl ?_)
  rw [hY, hsl] at hT
  rw [hsl]
  exact hT
end
end Go.Proofs.Ytopcnkejobomaaa
namespace Go.Proofs.Ytopcnkejobomaaa
open Go.RowKit Go.Lib
end Go.Proofs.Ytopcnkejobomaaa
namespace Go.Proofs.Ytopcnkejobomaaa
open Go.RowKit Go.Lib
theorem Mem.join {H H' : Hp} {w0 w w' : World} {L L' : List Res} (h : Mem H w0 L w) (hc : Mem H' w L' w') (hn : ∀ b, b < w.heap.size → H b = none → H' b = none) : Mem H' w0 (L' ++ L) w' := by
  obtain ⟨B, hl, hs, hb⟩ := h.own
  obtain ⟨B1, hl1, hs1, hb1⟩ := hc.own
  refine ⟨⟨B1 ++ B, Hl.app.2 ⟨B1, B, rfl, hl1, hl⟩, ?_, fun b hm => ?_⟩, hc.fz⟩
  · exact St.call (A := []) (B' := B1) hs hs1 rfl rfl rfl (fun b hm => .inl (hb1 b hm).1) (fun b hm hn => .inr ⟨b, hm, hn, rfl⟩) (fun _ hm => by cases hm)
  · rcases List.mem_append.1 hm with hm | hm
    · exact hb1 b hm
    · exact ⟨(hb b hm).1, hn _ (hs.own b hm).lt (hb b hm).2⟩
theorem putL_nil (x : Int) : putL [] x = [x] := rfl
theorem putL_cons (y : Int) (r : List Int) (x : Int) : putL (y :: r) x = if y ≤ x then y :: putL r x else x :: y :: r := by
  unfold putL
  rw [List.takeWhile_cons, List.dropWhile_cons]
  by_cases h : y ≤ x
  · rw [decide_eq_true h, if_pos h]
    rfl
  · rw [decide_eq_false h, if_neg h]
    rfl
end Go.Proofs.Ytopcnkejobomaaa
namespace Go.Proofs.Ytopcnkejobomaaa
open Go.RowKit Go.Lib
end Go.Proofs.Ytopcnkejobomaaa
namespace Go.Proofs.Ytopcnkejobomaaa
open Go.RowKit Go.Lib
def addF (n x : Int) (i : Nat) (p : Pn) : Pn := if p.set = true ∧ hld n (2 * i + 1) x then { p with loose := putL p.loose x } else p
def gapM (t : Tr) (l : Lf) : List Lf := if t.gap = t.ls.length then t.ls ++ [l] else t.ls
theorem gapM_set (t : Tr) (l : Lf) : (gapM t l).set t.gap l = addL t l := rfl
theorem gapM_len (t : Tr) (l : Lf) : (gapM t l).length = (addL t l).length := by
  rw [← gapM_set t l, List.length_set]
end Go.Proofs.Ytopcnkejobomaaa
namespace Go.Proofs.Ytopcnkejobomaaa
open Go.RowKit Go.Lib
section
variable {H : Hp} {w0 w : World} {L R : List Res} {v : Value} {t : Tr}
theorem right_c (h : TrF H v t) (hf : Fz H w) : Calls Try.prog 27 #[v] w fun en w' => en = .returned (.bool t.right) ∧ St w [] w' := by
  obtain ⟨A, a, B, b, q, rfl, h1, h2, h3⟩ := h.ex
  exact right_ok h1 h2 h3 h.len.1 h.len.2 hf
theorem add_c (l : Lf) (h : TrF H v t) (hf : Fz H w) : Calls Try.prog 28 #[v, lv l] w (Outp H w fun H' r => ∃ v1, r = .tuple #[v1, .int .i64 (t.addP l).2.1, .int .i64 (t.addP l).2.2] ∧ TrF H' v1 (t.addP l).1) := by
  obtain ⟨A, a, B, b, q, rfl, h1, h2, h3⟩ := h.ex
  exact add_q l (fun H' v1 r e k => by rw [e]; exact ⟨v1, rfl, k⟩) h1 h2 h3 h.len.1 h.len.2 hf
theorem remove_c (p : Int) (h : TrF H v t) (hf : Fz H w) : Calls Try.prog 30 #[v, .int .i64 p] w (Outp H w fun H' r => ∃ v1, r = .tuple #[v1, .int .i64 (t.remP p).2] ∧ TrF H' v1 (t.remP p).1) := by
  obtain ⟨A, a, B, b, q, rfl, h1, h2, h3⟩ := h.ex
  exact remove_q p (fun H' v1 r e k => by rw [e]; exact ⟨v1, rfl, k⟩) h1 h2 h3 h.len.1 h.len.2 hf
theorem renew_c (p : Int) (pub : H32) (h : TrF H v t) (hf : Fz H w) : Calls Try.prog 29 #[v, .int .i64 p, ha pub] w (Outp H w fun H' r => ∃ v1, r = .tuple #[v1, .int .i64 (t.renP p pub).2] ∧ TrF H' v1 (t.renP p pub).1) := by
  obtain ⟨A, a, B, b, q, rfl, h1, h2, h3⟩ := h.ex
  exact renew_q p pub (fun H' v1 r e k => by rw [e]; exact ⟨v1, rfl, k⟩) h1 h2 h3 h.len.1 h.len.2 hf
end
end Go.Proofs.Ytopcnkejobomaaa
namespace Go.Proofs.Ytopcnkejobomaaa
open Go.RowKit Go.Lib
abbrev leafN (x : Int) : Lf := ⟨x, hzero, hzero, hzero⟩
def aw1 : Tr := ((Tr.none).addP (leafN 5)).1
def aw2 : Tr := (aw1.addP (leafN 2)).1
def aw3 : Tr := (aw2.addP (leafN 9)).1
def aw4 : Tr := (aw3.remP 1).1
def aw5 : Tr := (aw4.addP (leafN 7)).1
def aw6 : Tr := (aw5.remP 2).1
def aw : Nat → Tr
  | 0 => Tr.none
  | 1 => aw1
  | 2 => aw2
  | 3 => aw3
  | 4 => aw4
  | 5 => aw5
  | _ => aw6
def awN : Nat → Int
  | 0 => 5
  | 1 => 2
  | _ => 9
theorem aw_facts : (((aw 0).addP (leafN 5)).2 = (0, 0) ∧ ((aw 1).addP (leafN 2)).2 = (1, 0) ∧ ((aw 2).addP (leafN 9)).2 = (2, 0)) ∧ ((aw 3).remP 1).2 = 0 ∧ (((aw 4).addP (leafN 7)).2.1 = 1 ∧ ((aw 4).addP (leafN 7)).2.2 = 0) ∧ ((aw 5).remP 2).2 = 0 ∧ (aw 6).ls.length = 2 ∧ (aw 6).right = true := by decide +kernel
theorem aw_step {i : Nat} (h : i < 3) : (aw i).addP (leafN (awN i)) = (aw (i + 1), (i : Int), 0) := by
  obtain ⟨⟨h0, h1, h2⟩, -⟩ := aw_facts
  have hcase : i = 0 ∨ i = 1 ∨ i = 2 := by omega
  rcases hcase with rfl | rfl | rfl
  · exact Prod.ext rfl h0
  · exact Prod.ext rfl h1
  · exact Prod.ext rfl h2
section
variable {H : Hp} {w0 w : World} {L R : List Res} {v : Value} {t : Tr}
theorem tawake_ok (w : World) : Calls Try.prog 13 #[] w fun en w' => en = .returned (.bool true) ∧ St w [] w' := by
  have hM := Mem.start (Fz.of w)
  obtain ⟨H, hH⟩ : ∃ H, H = Hp.of w := ⟨_, rfl⟩
  rw [← hH] at hM
  refine C_bevylaw08_awake ?_
  unfold F_bevylaw08_awake
  ((with_reducible (refine mm_new hM ?_; clear hM; intro _ _ hM; refine mop_c trivial ?_)))
  rename_i g1 _
  refine ⟨fun v w' => ∃ (i : Nat) (H1 : Hp) (A : Option Addr) (a : Nat) (B : Option Addr) (b : Nat), v = .int .i64 i ∧ i ≤ 3 ∧ TrF H1 (tv A (aw i).ls.length a B (aw i).ps.length b) (aw i) ∧ Mem H1 w [fb g1 27 (tfd A (aw i).ls.length a B (aw i).ps.length b)] w', fun v _ => match v with | .int _ k => 3 - k.toNat | _ => 0, ⟨0, H, none, 0, none, 0, rfl, by omega, trF_none _, hM⟩, ?_⟩
  clear hM
  rintro v u w3 ⟨i, H1, A, a, B, b, rfl, hi, hT, hM⟩
  ((with_reducible (refine mop_cS trivial ?_ ?_)))
  · intro hlt
    have hlt' : i < 3 := by omega
    ((with_reducible (refine mif_true ?_)))
    have hix : Pur Try.prog (o_index 92 (.agg (fl [Fd.one (.int .i64 5), .one (.int .i64 2), .one (.int .i64 9)]).toArray) (.int .i64 i)) (.int .i64 (awN i)) := by
      have hcase : i = 0 ∨ i = 1 ∨ i = 2 := by omega
      rcases hcase with rfl | rfl | rfl <;> exact p_index_array _ 3 3 _ _ _ _ Try.underlying92 (by kernel_rfl) (by omega) (by omega) rfl
    refine mop_pur hix ?_
    ((with_reducible (refine mm_ld hM ?_; refine mop_c trivial ?_)))
    refine mm_call hM (add_c (leafN (awN i)) hT hM.fz) ?_
    rintro H2 v w4 l2 hM ⟨v1, rfl, hT2⟩
    obtain ⟨e1, e2, e3⟩ : ((aw i).addP (leafN (awN i))).1 = aw (i + 1) ∧ ((aw i).addP (leafN (awN i))).2.1 = i ∧ ((aw i).addP (leafN (awN i))).2.2 = 0 := by
      rw [aw_step hlt']
      exact ⟨rfl, rfl, rfl⟩
    rw [e1] at hT2
    rw [e2, e3]
    obtain ⟨A2, a2, B2, b2, q2, rfl, -⟩ := hT2.ex
    ((with_reducible ((iterate 3 refine mop_c trivial ?_); refine mm_st hM ?_; clear hM; intro _ hM)))
    refine ⟨fun v w' => v = .bool false ∧ hM.now w', ?_, ?_⟩
    · ((with_reducible (refine mop_cF trivial ?_ ?_)); (focus (first | assumption | omega | with_reducible rfl | exact fun h => Bool.noConfusion h)); (with_reducible (refine mguard_yes ?_; refine mop_c trivial ?_; refine mguard_yes ?_; refine mop_c trivial ?_; refine mguard_yes ?_; refine mop_cF trivial ?_ ?_)); (focus (first | assumption | omega | with_reducible rfl | exact fun h => Bool.noConfusion h)); (with_reducible (refine mop_c trivial ?_)))
      exact ⟨rfl, hM⟩
    rintro v u5 w5 ⟨rfl, hM⟩
    ((with_reducible (refine mif_false ?_; refine mop_c ?_ ?_)); (focus omega))
    exact ⟨⟨i + 1, H2, A2, a2, B2, b2, rfl, by omega, hT2, hM⟩, by simp only; omega⟩
  · intro hge
    obtain rfl : i = 3 := by omega
    obtain ⟨-, f4, ⟨f5, f5b⟩, f6, f7, f8⟩ := aw_facts
    ((with_reducible (refine mif_false ?_; refine mm_ld hM ?_)))
    refine mm_call hM (remove_c 1 hT hM.fz) ?_
    rintro H2 v w4 l2 hM ⟨v1, rfl, hT2⟩
    rw [f4]
    rw [show ((aw 3).remP 1).1 = aw 4 from rfl] at hT2
    obtain ⟨A2, a2, B2, b2, q2, rfl, -⟩ := hT2.ex
    ((with_reducible (refine mop_c trivial ?_; refine mop_c trivial ?_; refine mm_st hM ?_; clear hM; intro _ hM; refine mm_ld hM ?_; refine mop_c trivial ?_)))
    refine mm_call hM (add_c (leafN 7) hT2 hM.fz) ?_
    rintro H3 v w5 l3 hM ⟨v1, rfl, hT3⟩
    rw [f5, f5b]
    rw [show ((aw 4).addP (leafN 7)).1 = aw 5 from rfl] at hT3
    obtain ⟨A3, a3, B3, b3, q3, rfl, -⟩ := hT3.ex
    ((with_reducible ((iterate 3 refine mop_c trivial ?_); refine mm_new hM ?_; clear hM; intro _ _ hM; refine mm_st hM ?_; clear hM; intro _ hM; refine mm_ld hM ?_)))
    refine mm_call hM (remove_c 2 hT3 hM.fz) ?_
    rintro H4 v w6 l4 hM ⟨v1, rfl, hT4⟩
    rw [f6]
    rw [show ((aw 5).remP 2).1 = aw 6 from rfl] at hT4
    obtain ⟨A4, a4, B4, b4, q4, rfl, -⟩ := hT4.ex
    ((with_reducible (refine mop_c trivial ?_; refine mop_c trivial ?_; refine mm_new hM ?_; clear hM; intro _ _ hM; refine mm_st hM ?_; clear hM; intro _ hM; refine mop_cT trivial ?_ ?_)); (focus (first | assumption | omega | with_reducible rfl | exact fun h => Bool.noConfusion h)); (with_reducible (refine mguard_yes ?_; refine mop_c trivial ?_; refine mguard_yes ?_; refine mop_cT trivial ?_ ?_)); (focus (first | assumption | omega | with_reducible rfl | exact fun h => Bool.noConfusion h)); (with_reducible (refine mop_c trivial ?_; refine mguard_yes ?_; refine mop_c trivial ?_; refine mguard_yes ?_; refine mop_cT trivial ?_ ?_)); (focus (first | assumption | omega | with_reducible rfl | exact fun h => Bool.noConfusion h)); (with_reducible (refine mop_c trivial ?_; refine mguard_yes ?_; refine mop_c trivial ?_; refine mguard_yes ?_; refine mop_cT trivial ?_ ?_)); (focus (first | assumption | omega | with_reducible rfl | exact fun h => Bool.noConfusion h)); (with_reducible (refine mop_c trivial ?_; refine mguard_yes ?_; refine mop_c trivial ?_; refine mguard_yes ?_; refine mm_ld hM ?_; refine mguard_yes ?_; refine mop_c trivial ?_; refine mguard_yes ?_; refine mop_cT trivial ?_ ?_)); (focus (first | assumption | omega | with_reducible rfl | exact fun h => Bool.noConfusion h)); (with_reducible (refine mop_c trivial ?_; refine mguard_yes ?_; refine mm_ld hM ?_; refine mguard_yes ?_)))
    refine mm_pure hM (right_c hT4 hM.fz) (fun w hM => ?_)
    rw [f8]
    ((with_reducible (refine mop_c trivial ?_)))
    exact ⟨rfl, hM.st⟩
instance : PurC Try.prog 13 [] True (.bool true) := ⟨fun _ w => tawake_ok w⟩
end
end Go.Proofs.Ytopcnkejobomaaa
namespace Go.Proofs.Ytopcnkejobomaaa
open Go.RowKit
theorem bits_or_comm (a b : Int) : bits .or .u32 a b = bits .or .u32 b a := by
  show IntKind.u32.wrap ((BitVec.ofInt 32 a ||| BitVec.ofInt 32 b).toNat : Int) = IntKind.u32.wrap ((BitVec.ofInt 32 b ||| BitVec.ofInt 32 a).toNat : Int)
  rw [BitVec.or_comm]
theorem wrap_u32_bd (a : Int) : 0 ≤ IntKind.u32.wrap a ∧ IntKind.u32.wrap a < 4294967296 := by
  have : IntKind.u32.wrap a = a % 4294967296 := by simp [IntKind.wrap, IntKind.bits, IntKind.signed]
  rw [this]; omega
def Wd (x : Int) : Prop := 0 ≤ x ∧ x < 4294967296
theorem wd_or (a b : Int) : Wd (bits .or .u32 a b) := wrap_u32_bd _
theorem wd_mod (a : Int) : Wd (a % 4294967296) := ⟨by omega, by omega⟩
def rotr (x : Int) (k : Nat) : Int := bits .or .u32 (x / 2 ^ k) (x * 2 ^ (32 - k) % 4294967296)
def word4 (a b c d : Int) : Int := bits .or .u32 (bits .or .u32 (bits .or .u32 (a * 16777216 % 4294967296) (b * 65536 % 4294967296)) (c * 256 % 4294967296)) d
def sig0 (x : Int) : Int := bits .xor .u32 (bits .xor .u32 (rotr x 7) (rotr x 18)) (x / 8)
def sig1 (x : Int) : Int := bits .xor .u32 (bits .xor .u32 (rotr x 17) (rotr x 19)) (x / 1024)
def nextw (a b x y : Int) : Int := (((a + b) % 4294967296 + sig0 x) % 4294967296 + sig1 y) % 4294967296
def wl (bs : List Int) : Nat → List Int
  | 0 => []
  | i + 1 => wl bs i ++ [if i < 16 then word4 (bs.getD (4 * i) 0) (bs.getD (4 * i + 1) 0) (bs.getD (4 * i + 2) 0) (bs.getD (4 * i + 3) 0)
      else nextw ((wl bs i).getD (i - 16) 0) ((wl bs i).getD (i - 7) 0) ((wl bs i).getD (i - 15) 0) ((wl bs i).getD (i - 2) 0)]
structure S8 where
  a : Int
  b : Int
  c : Int
  d : Int
  e : Int
  f : Int
  g : Int
  h : Int
  deriving DecidableEq
def S8.t1 (s : S8) (k w : Int) : Int :=
  ((((s.h + bits .xor .u32 (bits .xor .u32 (rotr s.e 6) (rotr s.e 11)) (rotr s.e 25)) % 4294967296 + bits .xor .u32 (bits .and .u32 s.e s.f) (bits .and .u32 (bits .xor .u32 4294967295 s.e) s.g)) % 4294967296 + k) % 4294967296 + w) % 4294967296
def S8.t2 (s : S8) : Int :=
  (bits .xor .u32 (bits .xor .u32 (rotr s.a 2) (rotr s.a 13)) (rotr s.a 22) + bits .xor .u32 (bits .xor .u32 (bits .and .u32 s.a s.b) (bits .and .u32 s.a s.c)) (bits .and .u32 s.b s.c)) % 4294967296
def S8.rnd (s : S8) (k w : Int) : S8 := ⟨(s.t1 k w + s.t2) % 4294967296, s.a, s.b, s.c, (s.d + s.t1 k w) % 4294967296, s.e, s.f, s.g⟩
def kl : List Int := [1116352408, 1899447441, 3049323471, 3921009573, 961987163, 1508970993, 2453635748, 2870763221, 3624381080, 310598401, 607225278, 1426881987, 1925078388, 2162078206, 2614888103, 3248222580, 3835390401, 4022224774, 264347078, 604807628, 770255983, 1249150122, 1555081692, 1996064986, 2554220882, 2821834349, 2952996808, 3210313671, 3336571891, 3584528711, 113926993, 338241895, 666307205, 773529912, 1294757372, 1396182291, 1695183700, 1986661051, 2177026350, 2456956037, 2730485921, 2820302411, 3259730800, 3345764771, 3516065817, 3600352804, 4094571909, 275423344, 430227734, 506948616, 659060556, 883997877, 958139571, 1322822218, 1537002063, 1747873779, 1955562222, 2024104815, 2227730452, 2361852424, 2428436474, 2756734187, 3204031479, 3329325298]
def rl (ws : List Int) : Nat → S8 → S8
  | 0, s => s
  | i + 1, s => (rl ws i s).rnd (kl.getD i 0) (ws.getD i 0)
def S8.add (s t : S8) : S8 := ⟨(s.a + t.a) % 4294967296, (s.b + t.b) % 4294967296, (s.c + t.c) % 4294967296, (s.d + t.d) % 4294967296, (s.e + t.e) % 4294967296, (s.f + t.f) % 4294967296, (s.g + t.g) % 4294967296, (s.h + t.h) % 4294967296⟩
def compress (s : S8) (bs : List Int) : S8 := s.add (rl (wl bs 64) 64 s)
def h0 : S8 := ⟨1779033703, 3144134277, 1013904242, 2773480762, 1359893119, 2600822924, 528734635, 1541459225⟩
def feed (x : S8 × List Int) (b : Int) : S8 × List Int := if x.2.length = 63 then (compress x.1 (x.2 ++ [b]), []) else (x.1, x.2 ++ [b])
end Go.Proofs.Ytopcnkejobomaaa
namespace Go.Proofs.Ytopcnkejobomaaa
@[simp] theorem kd_lit (n : Nat) : (OfNat.ofNat n : Kd) = Kd.ty n := rfl
theorem rot_k (x : Int) (k : Int) (c : Nat) (w : World) (h : Wd x) (hc : 0 < c ∧ c < 32) (hk : bits .and .u64 (k % 18446744073709551616) 31 = ((32 - c : Nat) : Int)) :
    Calls Try.prog 151 #[.int .u32 x, .int .i64 k] w fun e w' => e = .returned (.int .u32 (rotr x c)) ∧ w = w' := by
  obtain ⟨h0, h1⟩ := h
  refine C_math_bits_RotateLeft32 ?_
  unfold F_math_bits_RotateLeft32
  refine mop_c trivial ?_
  refine mop_c trivial ?_
  rw [hk]
  (repeat (first | (refine mop_c ?_ ?_; first | exact trivial | omega) | (refine dp_c ?_ ?_; first | exact trivial | omega)))
  refine ⟨?_, rfl⟩
  have e1 : ((32 - c : Nat) : Int).toNat = 32 - c := by omega
  have e2 : ((32 - ((32 - c : Nat) : Int)) % 18446744073709551616).toNat = c := by omega
  rw [e1, e2, bits_or_comm]
  rfl
end Go.Proofs.Ytopcnkejobomaaa
namespace Go.Proofs.Ytopcnkejobomaaa
open Go.RowKit
theorem wl_len (bs : List Int) : ∀ i, (wl bs i).length = i
  | 0 => rfl
  | i + 1 => by rw [wl, List.length_append, wl_len bs i]; rfl
theorem wl_old (bs : List Int) (i j : Nat) (h : j < i) : (wl bs (i + 1)).getD j 0 = (wl bs i).getD j 0 := by
  rw [wl, List.getD_eq_getElem?_getD, List.getElem?_append_left (by rw [wl_len]; exact h)]
  rfl
theorem wl_new (bs : List Int) (i : Nat) : (wl bs (i + 1)).getD i 0 = if i < 16 then word4 (bs.getD (4 * i) 0) (bs.getD (4 * i + 1) 0) (bs.getD (4 * i + 2) 0) (bs.getD (4 * i + 3) 0)
      else nextw ((wl bs i).getD (i - 16) 0) ((wl bs i).getD (i - 7) 0) ((wl bs i).getD (i - 15) 0) ((wl bs i).getD (i - 2) 0) := by
  conv => lhs; rw [wl]
  rw [List.getD_eq_getElem?_getD, List.getElem?_append_right (by rw [wl_len]; exact Nat.le_refl _), wl_len, Nat.sub_self]
  rfl
theorem wl_wd (bs : List Int) : ∀ i j, Wd ((wl bs i).getD j 0)
  | 0, j => by simp [wl, Wd]
  | i + 1, j => by
    rcases Nat.lt_trichotomy j i with h | h | h
    · rw [wl_old bs i j h]; exact wl_wd bs i j
    · subst h
      rw [wl_new]
      split
      · exact wd_or _ _
      · exact wd_mod _
    · rw [List.getD_eq_getElem?_getD, List.getElem?_eq_none (by rw [wl_len]; omega)]
      simp [Wd]
def stCells (hs bl : List Int) (n : Int) : List Value := u32s hs ++ (u8s bl ++ (Value.int .i64 n :: u32s kl))
theorem kl_len : kl.length = 64 := by decide
section
variable {hs bl : List Int} {n : Int}
theorem st_len (hh : hs.length = 8) (hb : bl.length = 64) : (stCells hs bl n).length = 137 := by
  simp [stCells, u32s, u8s, hh, hb, kl_len]
theorem st_h (hh : hs.length = 8) (i : Nat) (hi : i < 8) : (stCells hs bl n)[i]? = some (.int .u32 (hs.getD i 0)) := by
  rw [stCells, List.getElem?_append_left (by simp [u32s]; omega), u32s_at _ _ (by omega)]
theorem st_b (hh : hs.length = 8) (hb : bl.length = 64) (i : Nat) (hi : i < 64) : (stCells hs bl n)[8 + i]? = some (.int .u8 (bl.getD i 0)) := by
  rw [stCells, List.getElem?_append_right (by simp [u32s]; omega), List.getElem?_append_left (by simp [u32s, u8s]; omega)]
  rw [show 8 + i - (u32s hs).length = i by simp [u32s]; omega, u8s_at _ _ (by omega)]
theorem st_n (hh : hs.length = 8) (hb : bl.length = 64) : (stCells hs bl n)[72]? = some (.int .i64 n) := by
  rw [stCells, List.getElem?_append_right (by simp [u32s]; omega), List.getElem?_append_right (by simp [u32s, u8s]; omega)]
  rw [show 72 - (u32s hs).length - (u8s bl).length = 0 by simp [u32s, u8s]; omega]
  rfl
theorem st_k (hh : hs.length = 8) (hb : bl.length = 64) (i : Nat) (hi : i < 64) : (stCells hs bl n)[73 + i]? = some (.int .u32 (kl.getD i 0)) := by
  rw [stCells, List.getElem?_append_right (by simp [u32s]; omega), List.getElem?_append_right (by simp [u32s, u8s]; omega)]
  rw [show 73 + i - (u32s hs).length - (u8s bl).length = i + 1 by simp [u32s, u8s]; omega, List.getElem?_cons_succ, u32s_at _ _ (by rw [kl_len]; exact hi)]
theorem st_set_h (hh : hs.length = 8) (i : Nat) (hi : i < 8) (v : Int) : (stCells hs bl n).set i (.int .u32 v) = stCells (hs.set i v) bl n := by
  rw [stCells, stCells, List.set_append, if_pos (by simp [u32s]; omega)]
  simp [u32s, List.map_set]
theorem st_set_n (hh : hs.length = 8) (hb : bl.length = 64) (v : Int) : (stCells hs bl n).set 72 (.int .i64 v) = stCells hs bl v := by
  rw [stCells, stCells, List.set_append, if_neg (by simp [u32s]; omega), List.set_append, if_neg (by simp [u32s, u8s]; omega)]
  rw [show 72 - (u32s hs).length - (u8s bl).length = 0 by simp [u32s, u8s]; omega]
  rfl
end
theorem getD_bd (l : List Int) (i : Nat) (h : ∀ x ∈ l, 0 ≤ x ∧ x < 256) : 0 ≤ l.getD i 0 ∧ l.getD i 0 < 256 := by
  rw [List.getD_eq_getElem?_getD]
  cases hx : l[i]? with
  | none => simp
  | some x => exact h x (List.mem_of_getElem? hx)
theorem getD_wd (l : List Int) (i : Nat) (h : ∀ x ∈ l, Wd x) : Wd (l.getD i 0) := by
  rw [List.getD_eq_getElem?_getD]
  cases hx : l[i]? with
  | none => simp [Wd]
  | some x => exact h x (List.mem_of_getElem? hx)
def wk (bl : List Int) (k : Nat) : List Int := wl bl k ++ List.replicate (64 - k) 0
theorem wk_len (bl : List Int) (k : Nat) (h : k ≤ 64) : (wk bl k).length = 64 := by simp [wk, wl_len]; omega
theorem wk_at (bl : List Int) (k j : Nat) (h : j < k) : (u32s (wk bl k))[j]? = some (.int .u32 ((wl bl k).getD j 0)) := by
  rw [u32s_at _ _ (by simp [wk, wl_len]; omega), wk]
  congr 2
  rw [List.getD_eq_getElem?_getD, List.getElem?_append_left (by rw [wl_len]; exact h)]
  rfl
theorem wk_set (bl : List Int) (k : Nat) (h : k < 64) (v : Int) (hv : (wl bl (k + 1)).getD k 0 = v) : (u32s (wk bl k)).set k (.int .u32 v) = u32s (wk bl (k + 1)) := by
  have e : wl bl (k + 1) = wl bl k ++ [v] := by
    rw [wl]
    rw [wl_new] at hv
    rw [hv]
  unfold u32s wk
  rw [← List.map_set, List.set_append, if_neg (by rw [wl_len]; omega), wl_len, Nat.sub_self, e, List.append_assoc]
  congr 2
  rw [show 64 - k = (64 - (k + 1)) + 1 by omega, List.replicate_succ]
  rfl
def s8 (hs : List Int) : S8 := ⟨hs.getD 0 0, hs.getD 1 0, hs.getD 2 0, hs.getD 3 0, hs.getD 4 0, hs.getD 5 0, hs.getD 6 0, hs.getD 7 0⟩
def S8.list (s : S8) : List Int := [s.a, s.b, s.c, s.d, s.e, s.f, s.g, s.h]
structure S8.Ok (s : S8) : Prop where
  a : Wd s.a
  b : Wd s.b
  c : Wd s.c
  d : Wd s.d
  e : Wd s.e
  f : Wd s.f
  g : Wd s.g
  h : Wd s.h
theorem rl_ok (ws : List Int) {s : S8} (h : s.Ok) : ∀ i, (rl ws i s).Ok
  | 0 => h
  | i + 1 => by
    have h := rl_ok ws h i
    exact ⟨wd_mod _, h.a, h.b, h.c, wd_mod _, h.e, h.f, h.g⟩
def addK (hs ts : List Int) : Nat → List Int
  | 0 => hs
  | i + 1 => (addK hs ts i).set i ((hs.getD i 0 + ts.getD i 0) % 4294967296)
theorem addK_len (hs ts : List Int) : ∀ i, (addK hs ts i).length = hs.length
  | 0 => rfl
  | i + 1 => by rw [addK, List.length_set, addK_len hs ts i]
theorem addK_at (hs ts : List Int) : ∀ i j, i ≤ j → (addK hs ts i).getD j 0 = hs.getD j 0
  | 0, j, _ => rfl
  | i + 1, j, h => by
    rw [addK, List.getD_eq_getElem?_getD, List.getElem?_set_ne (by omega), ← List.getD_eq_getElem?_getD]
    exact addK_at hs ts i j (by omega)
theorem addK_end (hs : List Int) (s : S8) (hh : hs.length = 8) : addK hs s.list 8 = ((s8 hs).add s).list := by
  match hs, hh with
  | [a, b, c, d, e, f, g, h], _ => rfl
theorem build8 (a b c d e f g h : Int) : Pur Try.prog (o_build 140 [(0, .int .u32 a), (1, .int .u32 b), (2, .int .u32 c), (3, .int .u32 d), (4, .int .u32 e), (5, .int .u32 f), (6, .int .u32 g), (7, .int .u32 h)])
  (.agg (u32s [a, b, c, d, e, f, g, h]).toArray) := fun w => by kernel_rfl
set_option maxRecDepth 100000 in
set_option maxHeartbeats 2000000 in
theorem turn_ok (b : Nat) (hs bl : List Int) (n : Int) (w : World) (hb : Blf w b 145 (stCells hs bl n)) (hh : hs.length = 8) (hbl : bl.length = 64) (hby : ∀ x ∈ bl, 0 ≤ x ∧ x < 256) (hhw : ∀ x ∈ hs, Wd x) :
    Calls Try.prog 127 #[.pointer (some ⟨b, 0, none⟩)] w fun e w' => e = .returned (.tuple #[]) ∧ St w [⟨b, 145, stCells (compress (s8 hs) bl).list bl n, false⟩] w' := by
  refine C_sha_state_turn ?_
  unfold F_sha_state_turn
  refine mop_new (St.oneF hb) (fun g w1 h1 => ?_)
  refine ⟨fun x w2 => ∃ k : Nat, k ≤ 16 ∧ x = .int .i64 k ∧ St w [⟨g, 141, u32s (wk bl k), true⟩, ⟨b, 145, stCells hs bl n, false⟩] w2, fun x _ => 16 - (intOf x).toNat, ⟨0, by omega, rfl, h1⟩, ?_⟩
  rintro x21 u w2 ⟨k, hk, rfl, h2⟩
  refine mop_c trivial ?_
  refine mif_dec (fun hlt => ?_) (fun hge => ?_)
  · have q0 := getD_bd bl (4 * k) hby
    have q1 := getD_bd bl (4 * k + 1) hby
    have q2 := getD_bd bl (4 * k + 2) hby
    have q3 := getD_bd bl (4 * k + 3) hby
    (repeat (first | (refine mop_c ?_ ?_; first | exact trivial | omega) | (refine dp_c ?_ ?_; first | exact trivial | omega)))
    refine dq_ld ((h2.cell 1 rfl (8 + 4 * k)).trans (st_b hh hbl (4 * k) (by omega))) (by omega) ?_
    (repeat (first | (refine mop_c ?_ ?_; first | exact trivial | omega) | (refine dp_c ?_ ?_; first | exact trivial | omega)))
    refine dq_ld ((h2.cell 1 rfl (8 + (4 * k + 1))).trans (st_b hh hbl (4 * k + 1) (by omega))) (by omega) ?_
    (repeat (first | (refine mop_c ?_ ?_; first | exact trivial | omega) | (refine dp_c ?_ ?_; first | exact trivial | omega)))
    refine dq_ld ((h2.cell 1 rfl (8 + (4 * k + 2))).trans (st_b hh hbl (4 * k + 2) (by omega))) (by omega) ?_
    (repeat (first | (refine mop_c ?_ ?_; first | exact trivial | omega) | (refine dp_c ?_ ?_; first | exact trivial | omega)))
    refine dq_ld ((h2.cell 1 rfl (8 + (4 * k + 3))).trans (st_b hh hbl (4 * k + 3) (by omega))) (by omega) ?_
    (repeat (first | (refine mop_c ?_ ?_; first | exact trivial | omega) | (refine dp_c ?_ ?_; first | exact trivial | omega)))
    refine df_st (j := k) h2 (by omega) (by simp [u32s, wk_len bl k (by omega)]; omega) rfl (fun w3 h3 => ?_)
    refine dend_intro fun w4 hd => ?_
    have h4 := h3.drawn hd
    (repeat (first | (refine mop_c ?_ ?_; first | exact trivial | omega) | (refine dp_c ?_ ?_; first | exact trivial | omega)))
    refine ⟨⟨k + 1, by omega, rfl, ?_⟩, by simp [intOf]; omega⟩
    rw [wk_set bl k (by omega)] at h4
    · exact h4
    · rw [wl_new, if_pos (by omega)]
      rfl
  · obtain rfl : k = 16 := by omega
    refine ⟨fun x w2 => ∃ k : Nat, 16 ≤ k ∧ k ≤ 64 ∧ x = .int .i64 k ∧ St w [⟨g, 141, u32s (wk bl k), true⟩, ⟨b, 145, stCells hs bl n, false⟩] w2, fun x _ => 64 - (intOf x).toNat, ⟨16, by omega, by omega, rfl, h2⟩, ?_⟩
    clear h1 h2
    rintro x5 u2 w3 ⟨k, hk0, hk, rfl, h3⟩
    refine mop_c trivial ?_
    refine mif_dec (fun hlt => ?_) (fun hge => ?_)
    · have d15 := wl_wd bl k (k - 15)
      have d2 := wl_wd bl k (k - 2)
      (repeat (first | (refine mop_c ?_ ?_; first | exact trivial | omega) | (refine dp_c ?_ ?_; first | exact trivial | omega)))
      refine dq_ld ((h3.cell 0 rfl (k - 15)).trans (wk_at bl k (k - 15) (by omega))) (by omega) ?_
      (repeat (first | (refine mop_c ?_ ?_; first | exact trivial | omega) | (refine dp_c ?_ ?_; first | exact trivial | omega)))
      refine dq_ld ((h3.cell 0 rfl (k - 2)).trans (wk_at bl k (k - 2) (by omega))) (by omega) ?_
      refine dend_intro fun w4 hd => ?_
      have h4 := h3.drawn hd
      (repeat (first | (refine mop_c ?_ ?_; first | exact trivial | omega) | (refine dp_c ?_ ?_; first | exact trivial | omega)))
      refine dq_ld ((h4.cell 0 rfl (k - 16)).trans (wk_at bl k (k - 16) (by omega))) (by omega) ?_
      (repeat (first | (refine mop_c ?_ ?_; first | exact trivial | omega) | (refine dp_c ?_ ?_; first | exact trivial | omega)))
      refine dq_ld ((h4.cell 0 rfl (k - 7)).trans (wk_at bl k (k - 7) (by omega))) (by omega) ?_
      (repeat (first | (refine mop_c ?_ ?_; first | exact trivial | omega) | (refine dp_c ?_ ?_; first | exact trivial | omega)))
      refine df_eq (fun w => rot_k _ (-7) 7 w d15 (by decide) (by decide)) fun w5 hd5 => ?_
      refine df_eq (fun w => rot_k _ (-18) 18 w d15 (by decide) (by decide)) fun w6 hd6 => ?_
      (repeat (first | (refine mop_c ?_ ?_; first | exact trivial | omega) | (refine dp_c ?_ ?_; first | exact trivial | omega)))
      refine df_eq (fun w => rot_k _ (-17) 17 w d2 (by decide) (by decide)) fun w7 hd7 => ?_
      refine df_eq (fun w => rot_k _ (-19) 19 w d2 (by decide) (by decide)) fun w8 hd8 => ?_
      (repeat (first | (refine mop_c ?_ ?_; first | exact trivial | omega) | (refine dp_c ?_ ?_; first | exact trivial | omega)))
      have h8 := h4.drawn (((hd5.trans hd6).trans hd7).trans hd8)
      refine df_st (j := k) h8 (by omega) (by simp [u32s, wk_len bl k hk]; omega) rfl (fun w9 h9 => ?_)
      refine dend_intro fun w10 hd10 => ?_
      have h10 := h9.drawn hd10
      (repeat (first | (refine mop_c ?_ ?_; first | exact trivial | omega) | (refine dp_c ?_ ?_; first | exact trivial | omega)))
      refine ⟨⟨k + 1, by omega, by omega, rfl, ?_⟩, by simp [intOf]; omega⟩
      rw [wk_set bl k (by omega)] at h10
      · exact h10
      · rw [wl_new, if_neg (by omega)]
        rfl
    · obtain rfl : k = 64 := by omega
      have hw : wk bl 64 = wl bl 64 := by simp [wk]
      have hWl : (wl bl 64).length = 64 := wl_len bl 64
      have hcomp : compress (s8 hs) bl = (s8 hs).add (rl (wl bl 64) 64 (s8 hs)) := rfl
      rw [hw] at h3
      rw [hcomp]
      clear hw hcomp
      generalize wl bl 64 = W at h3 hWl ⊢
      (repeat (first | (refine mop_c ?_ ?_; first | exact trivial | omega) | (refine dp_c ?_ ?_; first | exact trivial | omega)))
      refine dq_ld ((h3.cell 1 rfl 0).trans (st_h hh 0 (by omega))) rfl ?_
      (repeat (first | (refine mop_c ?_ ?_; first | exact trivial | omega) | (refine dp_c ?_ ?_; first | exact trivial | omega)))
      refine dq_ld ((h3.cell 1 rfl 1).trans (st_h hh 1 (by omega))) rfl ?_
      (repeat (first | (refine mop_c ?_ ?_; first | exact trivial | omega) | (refine dp_c ?_ ?_; first | exact trivial | omega)))
      refine dq_ld ((h3.cell 1 rfl 2).trans (st_h hh 2 (by omega))) rfl ?_
      (repeat (first | (refine mop_c ?_ ?_; first | exact trivial | omega) | (refine dp_c ?_ ?_; first | exact trivial | omega)))
      refine dq_ld ((h3.cell 1 rfl 3).trans (st_h hh 3 (by omega))) rfl ?_
      (repeat (first | (refine mop_c ?_ ?_; first | exact trivial | omega) | (refine dp_c ?_ ?_; first | exact trivial | omega)))
      refine dq_ld ((h3.cell 1 rfl 4).trans (st_h hh 4 (by omega))) rfl ?_
      (repeat (first | (refine mop_c ?_ ?_; first | exact trivial | omega) | (refine dp_c ?_ ?_; first | exact trivial | omega)))
      refine dq_ld ((h3.cell 1 rfl 5).trans (st_h hh 5 (by omega))) rfl ?_
      (repeat (first | (refine mop_c ?_ ?_; first | exact trivial | omega) | (refine dp_c ?_ ?_; first | exact trivial | omega)))
      refine dq_ld ((h3.cell 1 rfl 6).trans (st_h hh 6 (by omega))) rfl ?_
      (repeat (first | (refine mop_c ?_ ?_; first | exact trivial | omega) | (refine dp_c ?_ ?_; first | exact trivial | omega)))
      refine dq_ld ((h3.cell 1 rfl 7).trans (st_h hh 7 (by omega))) rfl ?_
      refine dend_intro fun w4 hd => ?_
      have h4 := h3.drawn hd
      clear h3
      have hok : (s8 hs).Ok := ⟨getD_wd _ _ hhw, getD_wd _ _ hhw, getD_wd _ _ hhw, getD_wd _ _ hhw, getD_wd _ _ hhw, getD_wd _ _ hhw, getD_wd _ _ hhw, getD_wd _ _ hhw⟩
      refine ⟨fun xa xb xc xd xe xf xg xh x w2 => ∃ i : Nat, i ≤ 64 ∧ x = .int .i64 i ∧ xa = .int .u32 (rl W i (s8 hs)).a ∧ xb = .int .u32 (rl W i (s8 hs)).b ∧ xc = .int .u32 (rl W i (s8 hs)).c ∧ xd = .int .u32 (rl W i (s8 hs)).d ∧
          xe = .int .u32 (rl W i (s8 hs)).e ∧ xf = .int .u32 (rl W i (s8 hs)).f ∧ xg = .int .u32 (rl W i (s8 hs)).g ∧ xh = .int .u32 (rl W i (s8 hs)).h ∧
          St w [⟨g, 141, u32s W, true⟩, ⟨b, 145, stCells hs bl n, false⟩] w2, fun _ _ _ _ _ _ _ _ x _ => 64 - (intOf x).toNat, ⟨0, by omega, rfl, rfl, rfl, rfl, rfl, rfl, rfl, rfl, rfl, h4⟩, ?_⟩
      clear h4 hd
      rintro xa xb xc xd xe xf xg xh x u3 w5 ⟨i, hi, rfl, rfl, rfl, rfl, rfl, rfl, rfl, rfl, rfl, h5⟩
      have hr := rl_ok W hok i
      have hrs : rl W (i + 1) (s8 hs) = (rl W i (s8 hs)).rnd (kl.getD i 0) (W.getD i 0) := rfl
      obtain ⟨s', hs'⟩ : ∃ s', s' = rl W (i + 1) (s8 hs) := ⟨_, rfl⟩
      obtain ⟨s, hs64⟩ : ∃ s, rl W i (s8 hs) = s := ⟨_, rfl⟩
      rw [← hs'] at hrs
      rw [hs64] at hr hrs
      rw [hs64]
      refine mop_c trivial ?_
      refine mif_dec (fun hlt => ?_) (fun hge => ?_)
      · refine df_eq (fun w => rot_k _ (-6) 6 w hr.e (by decide) (by decide)) fun w6 hd6 => ?_
        refine df_eq (fun w => rot_k _ (-11) 11 w hr.e (by decide) (by decide)) fun w7 hd7 => ?_
        (repeat (first | (refine mop_c ?_ ?_; first | exact trivial | omega) | (refine dp_c ?_ ?_; first | exact trivial | omega)))
        refine df_eq (fun w => rot_k _ (-25) 25 w hr.e (by decide) (by decide)) fun w8 hd8 => ?_
        (repeat (first | (refine mop_c ?_ ?_; first | exact trivial | omega) | (refine dp_c ?_ ?_; first | exact trivial | omega)))
        refine dq_ld ((h5.cell 1 rfl (73 + i)).trans (st_k hh hbl i (by omega))) (by omega) ?_
        (repeat (first | (refine mop_c ?_ ?_; first | exact trivial | omega) | (refine dp_c ?_ ?_; first | exact trivial | omega)))
        refine dq_ld ((h5.cell 0 rfl i).trans (u32s_at W i (by omega))) (by omega) ?_
        (repeat (first | (refine mop_c ?_ ?_; first | exact trivial | omega) | (refine dp_c ?_ ?_; first | exact trivial | omega)))
        refine dend_intro fun w9 hd9 => ?_
        have h9 := h5.drawn (((hd6.trans hd7).trans hd8).trans hd9)
        refine mop_eq (rot_k _ (-2) 2 _ hr.a (by decide) (by decide)) ?_
        refine mop_eq (rot_k _ (-13) 13 _ hr.a (by decide) (by decide)) ?_
        (repeat (first | (refine mop_c ?_ ?_; first | exact trivial | omega) | (refine dp_c ?_ ?_; first | exact trivial | omega)))
        refine mop_eq (rot_k _ (-22) 22 _ hr.a (by decide) (by decide)) ?_
        (repeat (first | (refine mop_c ?_ ?_; first | exact trivial | omega) | (refine dp_c ?_ ?_; first | exact trivial | omega)))
        refine ⟨⟨i + 1, by omega, rfl, ?_, ?_, ?_, ?_, ?_, ?_, ?_, ?_, h9⟩, by simp [intOf]; omega⟩
        all_goals (rw [← hs', hrs]; rfl)
      · obtain rfl : i = 64 := by omega
        refine mop_pur (build8 _ _ _ _ _ _ _ _) ?_
        have hrs : rl W 64 (s8 hs) = s := hs64
        refine ⟨fun x w2 => ∃ i : Nat, i ≤ 8 ∧ x = .int .i64 i ∧ St w [⟨b, 145, stCells (addK hs s.list i) bl n, false⟩, ⟨g, 141, u32s W, true⟩] w2, fun x _ => 8 - (intOf x).toNat, ⟨0, by omega, rfl, h5.swap⟩, ?_⟩
        clear h5
        rintro x u4 w6 ⟨i, hi, rfl, h6⟩
        refine mop_c trivial ?_
        refine mif_dec (fun hlt => ?_) (fun hge => ?_)
        · refine mop_pur (p_index_array _ 139 8 _ _ _ (.int .u32 (s.list.getD i 0)) (by kernel_rfl) (by kernel_rfl) (by omega) (by omega) ?_) ?_
          · have := u32s_at s.list i (by simp [S8.list]; omega)
            have e : ((i : Nat) : Int).toNat = i := by omega
            rw [e, List.getElem?_toArray]
            exact this
          have hal := addK_len hs s.list i
          (repeat (first | (refine mop_c ?_ ?_; first | exact trivial | omega) | (refine dp_c ?_ ?_; first | exact trivial | omega)))
          refine dq_ld ((h6.cell 0 rfl i).trans (st_h (by omega) i (by omega))) (by omega) ?_
          (repeat (first | (refine mop_c ?_ ?_; first | exact trivial | omega) | (refine dp_c ?_ ?_; first | exact trivial | omega)))
          refine df_st (j := i) h6 (by omega) (by rw [st_len (by omega) hbl]; omega) rfl (fun w7 h7 => ?_)
          refine dend_intro fun w8 hd8 => ?_
          have h8 := h7.drawn hd8
          (repeat (first | (refine mop_c ?_ ?_; first | exact trivial | omega) | (refine dp_c ?_ ?_; first | exact trivial | omega)))
          refine ⟨⟨i + 1, by omega, rfl, ?_⟩, by simp [intOf]; omega⟩
          rw [st_set_h (by omega) i (by omega), addK_at hs s.list i i (Nat.le_refl i)] at h8
          exact h8
        · obtain rfl : i = 8 := by omega
          refine ⟨rfl, ?_⟩
          rw [hrs, ← addK_end hs s hh]
          exact h6.swap.drop
end Go.Proofs.Ytopcnkejobomaaa
namespace Go.Proofs.Ytopcnkejobomaaa
open Go.RowKit
def feedAll (x : S8 × List Int) (bs : List Int) : S8 × List Int := bs.foldl feed x
theorem feedAll_append (x : S8 × List Int) (a b : List Int) : feedAll x (a ++ b) = feedAll (feedAll x a) b := by simp [feedAll]
theorem feedAll_short (s : S8) : ∀ (bs p : List Int), p.length + bs.length < 64 → feedAll (s, p) bs = (s, p ++ bs)
  | [], p, _ => by simp [feedAll]
  | b :: bs, p, h => by
    have h1 : feed (s, p) b = (s, p ++ [b]) := by
      unfold feed
      rw [if_neg (by simp at h ⊢; omega)]
    show feedAll (feed (s, p) b) bs = _
    rw [h1, feedAll_short s bs (p ++ [b]) (by simp at h ⊢; omega)]
    simp
theorem feedAll_full (s : S8) (bs p : List Int) (hb : 0 < bs.length) (h : p.length + bs.length = 64) : feedAll (s, p) bs = (compress s (p ++ bs), []) := by
  obtain ⟨cs, c, rfl⟩ : ∃ cs c, bs = cs ++ [c] := ⟨bs.dropLast, bs.getLast (by intro e; simp [e] at hb), (List.dropLast_concat_getLast _).symm⟩
  rw [feedAll_append, feedAll_short s cs p (by simp at h; omega)]
  show feed (s, p ++ cs) c = _
  unfold feed
  rw [if_pos (by simp at h ⊢; omega)]
  simp
theorem compress_ok {s : S8} (bs : List Int) : (compress s bs).Ok := ⟨wd_mod _, wd_mod _, wd_mod _, wd_mod _, wd_mod _, wd_mod _, wd_mod _, wd_mod _⟩
structure Dig (x : S8 × List Int) (n : Nat) (bl : List Int) : Prop where
  ok : x.1.Ok
  len : bl.length = 64
  by_ : ∀ c ∈ bl, 0 ≤ c ∧ c < 256
  pend : x.2.length = n % 64
  has : bl.take x.2.length = x.2
theorem s8_list (s : S8) : s8 s.list = s := rfl
theorem list_wd {s : S8} (h : s.Ok) : ∀ x ∈ s.list, Wd x := by
  intro x hx
  simp only [S8.list, List.mem_cons, List.not_mem_nil, or_false] at hx
  rcases hx with rfl | rfl | rfl | rfl | rfl | rfl | rfl | rfl
  · exact h.a
  · exact h.b
  · exact h.c
  · exact h.d
  · exact h.e
  · exact h.f
  · exact h.g
  · exact h.h
def blCopy (bl bs : List Int) (i : Nat) : List Int := bl.take i ++ bs ++ bl.drop (i + bs.length)
theorem st_lay (hs bl bs : List Int) (n : Int) (i : Nat) (hh : hs.length = 8) (hb : bl.length = 64) (hi : i + bs.length ≤ 64) : lay (stCells hs bl n) (u8s bs) (8 + i) = stCells hs (blCopy bl bs i) n := by
  have e8 : (u32s hs).length = 8 := by simp [u32s, hh]
  have ebs : (u8s bs).length = bs.length := by simp [u8s]
  unfold lay stCells
  rw [List.take_append, List.take_of_length_le (by omega), List.drop_append, List.drop_eq_nil_of_le (by omega), e8, ebs]
  rw [show 8 + i - 8 = i by omega, show 8 + i + bs.length - 8 = i + bs.length by omega]
  rw [List.take_append_of_le_length (by simp [u8s]; omega), List.drop_append_of_le_length (by simp [u8s]; omega)]
  simp [u8s, blCopy]
theorem put_step {x : S8 × List Int} {n : Nat} {bl bs : List Int} (h : Dig x n bl) (hbs : ∀ c ∈ bs, 0 ≤ c ∧ c < 256) (hl : n % 64 + bs.length ≤ 64) (h0 : 0 < bs.length) :
    let bl' := blCopy bl bs (n % 64)
    (∀ c ∈ bl', 0 ≤ c ∧ c < 256) ∧ bl'.length = 64 ∧ (n % 64 + bs.length < 64 → Dig (feedAll x bs) (n + bs.length) bl' ∧ (feedAll x bs).1 = x.1) ∧ (n % 64 + bs.length = 64 → (feedAll x bs).1 = compress x.1 bl' ∧ Dig (feedAll x bs) (n + bs.length) bl') := by
  obtain ⟨s, p⟩ := x
  obtain ⟨hok, hlen, hby, hp, hhas⟩ := h
  simp only [] at hp hhas hok
  have hpn : p.length ≤ 64 := by omega
  have hb1 : ∀ c ∈ blCopy bl bs (n % 64), 0 ≤ c ∧ c < 256 := fun c hc => by
    simp only [blCopy, List.mem_append] at hc
    rcases hc with (hc | hc) | hc
    · exact hby c (List.mem_of_mem_take hc)
    · exact hbs c hc
    · exact hby c (List.mem_of_mem_drop hc)
  have hb2 : (blCopy bl bs (n % 64)).length = 64 := by simp [blCopy, hlen]; omega
  have hpre : (blCopy bl bs (n % 64)).take (p.length + bs.length) = p ++ bs := by
    unfold blCopy
    rw [hp] at hhas
    rw [hhas, hp, List.take_append_of_le_length (by simp [hp]), List.take_of_length_le (by simp [hp])]
  refine ⟨hb1, hb2, fun hlt => ?_, fun heq => ?_⟩
  · have e := feedAll_short s bs p (by omega)
    rw [e]
    exact ⟨⟨hok, hb2, hb1, by simp [hp]; omega, by simpa using hpre⟩, rfl⟩
  · have e := feedAll_full s bs p h0 (by omega)
    rw [e]
    have hall : blCopy bl bs (n % 64) = p ++ bs := by
      rw [← hpre, List.take_of_length_le (by omega)]
    refine ⟨by rw [hall], compress_ok _, hb2, hb1, ?_, rfl⟩
    simp
    omega
def strLen : Value → Nat
  | .string s => s.size
  | _ => 0
theorem ints_extract (s : ByteArray) (i j : Nat) : ints (s.extract i j) = ((ints s).take j).drop i := by
  simp [ints, List.map_drop, List.map_take]
  rw [List.drop_take]
theorem extract_extract (s : ByteArray) (k m : Nat) (h : k + m ≤ s.size) : (s.extract k s.size).extract m (s.size - k) = s.extract (k + m) s.size := by
  rw [← str_ints ((s.extract k s.size).extract m (s.size - k)), ← str_ints (s.extract (k + m) s.size), ints_extract, ints_extract, ints_extract]
  congr 1
  have hl := ints_length s
  have e : (ints s).take s.size = ints s := List.take_of_length_le (by omega)
  rw [e, List.take_of_length_le (by rw [List.length_drop]; omega), List.drop_drop]
set_option maxRecDepth 100000 in
theorem put_ok (b : Nat) (x : S8 × List Int) (n : Nat) (bl : List Int) (t : ByteArray) (w : World) (hb : Blf w b 145 (stCells x.1.list bl n)) (hd : Dig x n bl) (hn : n + t.size < 9223372036854775808) :
    Calls Try.prog 94 #[.pointer (some ⟨b, 0, none⟩), .string t] w fun e w' => e = .returned (.tuple #[]) ∧ ∃ bl', Dig (feedAll x (ints t)) (n + t.size) bl' ∧ St w [⟨b, 145, stCells (feedAll x (ints t)).1.list bl' ((n + t.size : Nat) : Int), false⟩] w' := by
  refine C_sha_state_put ?_
  unfold F_sha_state_put
  refine ⟨fun v w2 => ∃ (k : Nat) (bl' : List Int), k ≤ t.size ∧ v = .string (t.extract k t.size) ∧ Dig (feedAll x ((ints t).take k)) (n + k) bl' ∧ St w [⟨b, 145, stCells (feedAll x ((ints t).take k)).1.list bl' ((n + k : Nat) : Int), false⟩] w2, fun v _ => strLen v, ⟨0, bl, by omega, by simp, by simpa [feedAll] using hd, by simp [feedAll]; exact St.oneF hb⟩, ?_⟩
  rintro v u w1 ⟨k, bl', hk, rfl, hd1, h1⟩
  have hsz : (t.extract k t.size).size = t.size - k := by simp
  refine mop_c trivial ?_
  rw [hsz]
  refine mop_c trivial ?_
  refine mif_dec (fun hlt => ?_) (fun hge => ?_)
  · have hll : 0 < t.size - k := by omega
    (repeat (first | (refine mop_c ?_ ?_; first | exact trivial | omega) | (refine dp_c ?_ ?_; first | exact trivial | omega)))
    have hlist : (feedAll x ((ints t).take k)).1.list.length = 8 := rfl
    refine dq_ld ((h1.cell 0 rfl 72).trans (st_n hlist hd1.len)) rfl ?_
    (repeat (first | (refine mop_c ?_ ?_; first | exact trivial | omega) | (refine dp_c ?_ ?_; first | exact trivial | omega)))
    refine df_mop fun w2 hd2 => ?_
    have hi : ((((n + k : Nat) : Int)) % 64).toNat = (n + k) % 64 := by omega
    rw [hi]
    obtain ⟨w3, hr, h3⟩ := run_copy_string (P := Try.prog) (o := 0 + 8 + (n + k) % 64) (m := 64 - (n + k) % 64) (c := 64 - (n + k) % 64) (s := t.extract k t.size) (dT := 106) (sT := 9) (ty := 3) (e := 5) (ks := [false, false]) (h1.drawn hd2) (by kernel_rfl) (by kernel_rfl) (by rw [st_len hlist hd1.len]; omega)
    refine mop_run hr ⟨(fun e => by cases e), ?_⟩
    have hm : min (t.extract k t.size).size (64 - (n + k) % 64) = min (t.size - k) (64 - (n + k) % 64) := by rw [hsz]
    rw [hm] at h3 ⊢
    obtain ⟨m, hmm⟩ : ∃ m, m = min (t.size - k) (64 - (n + k) % 64) := ⟨_, rfl⟩
    rw [← hmm] at h3 ⊢
    have hbl : ((ints (t.extract k t.size)).take m).length = m := by rw [List.length_take, ints_length, hsz]; omega
    have hbr : ∀ c ∈ (ints (t.extract k t.size)).take m, 0 ≤ c ∧ c < 256 := fun c hc => ints_range _ c (List.mem_of_mem_take hc)
    rw [show 0 + 8 + (n + k) % 64 = 8 + (n + k) % 64 by omega, st_lay _ _ _ _ _ hlist hd1.len (by rw [hbl]; omega)] at h3
    have hstep := put_step hd1 hbr (by rw [hbl]; omega) (by rw [hbl]; omega)
    have hfeed : feedAll (feedAll x ((ints t).take k)) ((ints (t.extract k t.size)).take m) = feedAll x ((ints t).take (k + m)) := by
      have e : (ints t).take t.size = ints t := List.take_of_length_le (by rw [ints_length]; omega)
      rw [← feedAll_append, ints_extract, e, ← List.take_add]
    rw [hfeed, hbl] at hstep
    have hext := extract_extract t k m (by omega)
    generalize blCopy bl' ((ints (t.extract k t.size)).take m) ((n + k) % 64) = bl2 at h3 hstep
    obtain ⟨hby2, hlen2, hs1, hs2⟩ := hstep
    refine dend_intro fun w4 hd4 => ?_
    have h4 := h3.drawn hd4
    clear h1 h3 hr hfeed
    refine mop_c (by rw [hsz]; omega) ?_
    rw [hsz, Int.toNat_natCast, hext]
    (repeat (first | (refine mop_c ?_ ?_; first | exact trivial | omega) | (refine dp_c ?_ ?_; first | exact trivial | omega)))
    refine mop_ld ((h4.cell 0 rfl 72).trans (st_n hlist hlen2)) rfl ?_
    (repeat (first | (refine mop_c ?_ ?_; first | exact trivial | omega) | (refine dp_c ?_ ?_; first | exact trivial | omega)))
    refine mop_st (j := 72) h4 rfl (by rw [st_len hlist hlen2]; omega) rfl (fun w5 h5 => ?_)
    rw [st_set_n hlist hlen2] at h5
    (repeat (first | (refine mop_c ?_ ?_; first | exact trivial | omega) | (refine dp_c ?_ ?_; first | exact trivial | omega)))
    refine mop_ld ((h5.cell 0 rfl 72).trans (st_n hlist hlen2)) rfl ?_
    (repeat (first | (refine mop_c ?_ ?_; first | exact trivial | omega) | (refine dp_c ?_ ?_; first | exact trivial | omega)))
    have hsz2 : (t.extract (k + m) t.size).size = t.size - (k + m) := by simp
    have hnk : ((n + k : Nat) : Int) + (m : Int) = ((n + (k + m) : Nat) : Int) := by omega
    rw [hnk] at h5 ⊢
    refine mif_dec (fun hz => ?_) (fun hnz => ?_)
    · obtain ⟨hs3, hs4⟩ := hs2 (by omega)
      refine mop_to (turn_ok b _ bl2 _ w5 h5.head hlist hlen2 hby2 (list_wd hd1.ok)) ?_
      rintro e w6 ⟨rfl, h6⟩
      have h7 := h5.call1 h6
      rw [s8_list, ← hs3] at h7
      exact ⟨⟨k + m, bl2, by omega, rfl, by rw [← Nat.add_assoc]; exact hs4, h7⟩, by simp only [strLen, hsz, hsz2]; omega⟩
    · obtain ⟨hs3, hs4⟩ := hs1 (by omega)
      rw [← hs4] at h5
      exact ⟨⟨k + m, bl2, by omega, rfl, by rw [← Nat.add_assoc]; exact hs3, h5⟩, by simp only [strLen, hsz, hsz2]; omega⟩
  · obtain rfl : k = t.size := by omega
    have e : (ints t).take t.size = ints t := List.take_of_length_le (by rw [ints_length]; omega)
    rw [e] at hd1 h1
    exact ⟨rfl, bl', hd1, h1⟩
end Go.Proofs.Ytopcnkejobomaaa
namespace Go.Proofs.Ytopcnkejobomaaa
open Go.RowKit
def lenB (n : Nat) (i : Nat) : Int := ((n : Int) % 18446744073709551616 * 8 % 18446744073709551616) / 2 ^ (56 - 8 * (i : Int)).toNat % 256
def padding (n : Nat) : List Int := (128 :: List.replicate (63 - (n + 8) % 64) 0) ++ (List.range 8).map (lenB n)
def outAt (l : List Int) (i : Nat) : Int := l.getD (i / 4) 0 / 2 ^ (24 - 8 * (i % 4)) % 256
def outB (s : S8) : List Int := (List.range 32).map (outAt s.list)
def shaSum (bs : List Int) : List Int := outB (feedAll (h0, []) (bs ++ padding bs.length)).1
theorem shaSum_length (bs : List Int) : (shaSum bs).length = 32 := by simp [shaSum, outB]
theorem outB_range (s : S8) : ∀ x ∈ outB s, 0 ≤ x ∧ x < 256 := by
  intro x hx
  obtain ⟨i, _, rfl⟩ := List.mem_map.1 hx
  unfold outAt
  omega
theorem shaSum_range (bs : List Int) : ∀ x ∈ shaSum bs, 0 ≤ x ∧ x < 256 := outB_range _
def fill (f : Nat → Int) (n i : Nat) : List Int := (List.range i).map f ++ List.replicate (n - i) 0
theorem fill_length (f : Nat → Int) (n i : Nat) (h : i ≤ n) : (fill f n i).length = n := by simp [fill]; omega
theorem fill_set (f : Nat → Int) (n i : Nat) (h : i < n) : (fill f n i).set i (f i) = fill f n (i + 1) := by
  unfold fill
  rw [List.set_append, if_neg (by simp), List.length_map, List.length_range, Nat.sub_self, List.range_succ, List.map_append, List.append_assoc]
  congr 1
  rw [show n - i = (n - (i + 1)) + 1 by omega, List.replicate_succ]
  rfl
theorem set_u8s (l : List Int) (i : Nat) (v : Int) : (u8s l).set i (.int .u8 v) = u8s (l.set i v) := by simp [u8s, List.map_set]
theorem u8s_length (l : List Int) : (u8s l).length = l.length := by simp [u8s]
def hv (l : List Int) : Value := .agg (u8s l).toArray
theorem cells_of_row {w : World} {b : Nat} {t : TypeId} {cs : List Value} (h : Blf w b t cs) : ∀ k v, cs[k]? = some v → w.cell? ⟨b, 0 + k, none⟩ = some v := fun k v hk => by
  rw [Nat.zero_add, h.cell]; exact hk
theorem lay_all (cs vs : List Value) (h : vs.length = cs.length) : lay cs vs 0 = vs := by
  unfold lay
  rw [List.take_zero, List.nil_append, List.drop_eq_nil_of_le (by omega), List.append_nil]
set_option maxRecDepth 100000 in
theorem rounds_ok (w : World) : Calls Try.prog 93 #[] w fun e w' => e = .returned (.agg (u32s kl).toArray) ∧ St w [] w' := by
  refine C_sha_rounds ?_
  unfold F_sha_rounds
  refine mop_new (St.nil w) (fun g w1 h1 => ?_)
  refine mop_pur (v := .agg (u32s kl).toArray) (fun w => by kernel_rfl) ?_
  refine mop_storeN (q := true) (k := 64) (by kernel_rfl) h1 rfl (by intro u hu; obtain ⟨x, _, rfl⟩ := List.mem_map.1 (show u ∈ kl.map (Value.int .u32) from hu); rfl) (by simp) (fun w2 h2 => ?_)
  have e : lay (List.replicate 64 (Value.int .u32 0)) (Value.agg (u32s kl).toArray).cells.toList 0 = u32s kl := lay_all _ _ rfl
  rw [e] at h2
  refine rcell_ldN (cells_of_row h2.head) rfl ?_
  exact ⟨rfl, h2.drop⟩
def cat (ss : List ByteArray) : List Int := (ss.map ints).flatten
theorem cat_take (ss : List ByteArray) (k : Nat) (h : k < ss.length) : cat (ss.take (k + 1)) = cat (ss.take k) ++ ints ss[k] := by
  unfold cat
  rw [List.take_succ_eq_append_getElem h, List.map_append, List.flatten_append]
  simp only [List.map_cons, List.map_nil, List.flatten_cons, List.flatten_nil, List.append_nil]
theorem cat_append (a b : List ByteArray) : cat (a ++ b) = cat a ++ cat b := by simp only [cat, List.map_append, List.flatten_append]
theorem cat_le (ss : List ByteArray) (k : Nat) : (cat (ss.take k)).length ≤ (cat ss).length := by
  conv => rhs; rw [← List.take_append_drop k ss, cat_append, List.length_append]
  omega
theorem lenB_range (n i : Nat) : 0 ≤ lenB n i ∧ lenB n i < 256 := by unfold lenB; omega
theorem padding_range (n : Nat) : ∀ x ∈ padding n, 0 ≤ x ∧ x < 256 := by
  intro x hx
  simp only [padding, List.mem_append, List.mem_cons, List.mem_replicate, List.mem_map] at hx
  rcases hx with (rfl | ⟨_, rfl⟩) | ⟨i, _, rfl⟩
  · omega
  · omega
  · exact lenB_range n i
theorem dig0 : Dig (h0, []) 0 (List.replicate 64 0) := by
  refine ⟨⟨?_, ?_, ?_, ?_, ?_, ?_, ?_, ?_⟩, by simp, ?_, rfl, by simp⟩
  all_goals first
    | (constructor <;> decide)
    | (intro c hc; rw [List.eq_of_mem_replicate hc]; omega)
def tailK (n z i : Nat) : List Int := (128 :: List.replicate z 0) ++ fill (lenB n) (71 - z) i
theorem tailK_length (n z i : Nat) (hz : z ≤ 63) (hi : i ≤ 8) : (tailK n z i).length = 72 := by
  simp [tailK, fill_length (lenB n) (71 - z) i (by omega)]; omega
theorem tailK_set (n z i : Nat) (hz : z ≤ 63) (hi : i < 8) : (tailK n z i).set (z + 1 + i) (lenB n i) = tailK n z (i + 1) := by
  unfold tailK
  rw [List.set_append, if_neg (by simp), List.length_cons, List.length_replicate, show z + 1 + i - (z + 1) = i by omega, fill_set _ _ _ (by omega)]
theorem tailK_zero (n z : Nat) (hz : z ≤ 63) : (List.replicate 72 (0 : Int)).set 0 128 = tailK n z 0 := by
  unfold tailK fill
  rw [show 72 = (z + (71 - z)) + 1 by omega, List.replicate_succ, List.set_cons_zero, ← List.replicate_append_replicate]
  simp
theorem tailK_end (n : Nat) : (tailK n (63 - (n + 8) % 64) 8).take (63 - (n + 8) % 64 + 9) = padding n := by
  unfold tailK fill padding
  rw [← List.append_assoc, List.take_append_of_le_length (by simp), List.take_of_length_le (by simp)]
set_option maxRecDepth 100000 in
set_option maxHeartbeats 1000000 in
theorem sum_ok (A : Option Addr) (ss : List ByteArray) (c : Nat) (w : World) (hr : Rd w A (ss.map .string)) (hss : ss.length < 9223372036854775807) (hsz : (cat ss).length < 4611686018427387904) :
    Calls Try.prog 53 #[.slice A ss.length c] w fun e w' => e = .returned (hv (shaSum (cat ss))) ∧ St w [] w' := by
  refine C_sha_Sum ?_
  unfold F_sha_Sum
  refine mop_new (St.nil w) (fun go w1 h1 => ?_)
  refine mop_pur (build8 _ _ _ _ _ _ _ _) ?_
  refine mop_to (rounds_ok w1) ?_
  rintro e w2 ⟨rfl, h2⟩
  have h2 := h1.call0 h2
  refine mop_pur (v := .agg (stCells h0.list (List.replicate 64 0) 0).toArray) (fun w => by kernel_rfl) ?_
  refine mop_box h2 (fun b w3 h3 => ?_)
  have h3 : St w [⟨b, 145, stCells h0.list (List.replicate 64 0) 0, true⟩, ⟨go, 34, u8s (List.replicate 32 0), true⟩] w3 := h3
  clear h1 h2
  refine mop_c trivial ?_
  refine ⟨fun v w2 => ∃ (k : Nat) (bl : List Int), k ≤ ss.length ∧ v = .int .i64 k ∧ Dig (feedAll (h0, []) (cat (ss.take k))) (cat (ss.take k)).length bl ∧
      St w [⟨b, 145, stCells (feedAll (h0, []) (cat (ss.take k))).1.list bl ((cat (ss.take k)).length : Int), true⟩, ⟨go, 34, u8s (List.replicate 32 0), true⟩] w2, fun v _ => ss.length - (intOf v).toNat, ⟨0, _, by omega, rfl, dig0, h3⟩, ?_⟩
  clear h3
  rintro v u w4 ⟨k, bl, hk, rfl, hd, h4⟩
  refine mop_c trivial ?_
  refine mif_dec (fun hlt => ?_) (fun hge => ?_)
  · have hk' : k < ss.length := by omega
    have x0 : (ss.map Value.string)[k]? = some (.string ss[k]) := by simp [hk']
    obtain ⟨ab, ao, rfl, hab, hc⟩ := hr.at_ x0
    (repeat (first | (refine mop_c ?_ ?_; first | exact trivial | omega) | (refine dp_c ?_ ?_; first | exact trivial | omega)))
    refine mop_ld (j := ao + k) ((h4.old (p := ⟨ab, ao + k, none⟩) hab (by intro q hq hn; simp at hq; rcases hq with rfl | rfl <;> cases hn)).trans (hc k _ x0)) (by omega) ?_
    have hcl := cat_le ss (k + 1)
    rw [cat_take ss k hk', List.length_append, ints_length] at hcl
    refine mop_to (put_ok b _ _ bl ss[k] w4 h4.head hd (by omega)) ?_
    rintro e w5 ⟨rfl, bl', hd5, h5⟩
    have h6 := h4.call1 h5
    (repeat (first | (refine mop_c ?_ ?_; first | exact trivial | omega) | (refine dp_c ?_ ?_; first | exact trivial | omega)))
    rw [← feedAll_append, ← ints_length, ← List.length_append, ← cat_take ss k hk'] at hd5 h6
    exact ⟨⟨k + 1, bl', hk', rfl, hd5, h6⟩, by simp [intOf]; omega⟩
  · obtain rfl : k = ss.length := by omega
    rw [List.take_length] at hd h4
    obtain ⟨n, hn⟩ : ∃ n, n = (cat ss).length := ⟨_, rfl⟩
    have hsum : shaSum (cat ss) = outB (feedAll (feedAll (h0, []) (cat ss)) (padding n)).1 := by rw [shaSum, feedAll_append, hn]
    rw [hsum]
    rw [← hn] at hd h4 hsz
    generalize feedAll (h0, []) (cat ss) = x at hd h4
    have hl8 : x.1.list.length = 8 := rfl
    refine mop_new h4 (fun gt w5 h5 => ?_)
    (repeat (first | (refine mop_c ?_ ?_; first | exact trivial | omega) | (refine dp_c ?_ ?_; first | exact trivial | omega)))
    refine mop_st (j := 0) h5 rfl (by simp) rfl (fun w6 h6 => ?_)
    (repeat (first | (refine mop_c ?_ ?_; first | exact trivial | omega) | (refine dp_c ?_ ?_; first | exact trivial | omega)))
    refine mop_ld ((h6.cell 1 rfl 72).trans (st_n hl8 hd.len)) rfl ?_
    (repeat (first | (refine mop_c ?_ ?_; first | exact trivial | omega) | (refine dp_c ?_ ?_; first | exact trivial | omega)))
    have hz : (64 : Int) - ((n : Int) + 8) % 64 = ((63 - (n + 8) % 64 + 1 : Nat) : Int) := by omega
    rw [hz]
    have h6 : St w [⟨gt, 147, u8s (tailK n (63 - (n + 8) % 64) 0), true⟩, ⟨b, 145, stCells x.1.list bl (n : Int), true⟩, ⟨go, 34, u8s (List.replicate 32 0), true⟩] w6 := by
      rw [← tailK_zero n (63 - (n + 8) % 64) (by omega), ← set_u8s]
      exact h6
    have hend := tailK_end n
    obtain ⟨z, hzz⟩ : ∃ z, z = 63 - (n + 8) % 64 := ⟨_, rfl⟩
    rw [← hzz] at h6 hend ⊢
    have hz63 : z ≤ 63 := by omega
    clear hz hzz
    refine ⟨fun v w2 => ∃ i : Nat, i ≤ 8 ∧ v = .int .i64 i ∧ St w [⟨gt, 147, u8s (tailK n z i), true⟩, ⟨b, 145, stCells x.1.list bl (n : Int), true⟩, ⟨go, 34, u8s (List.replicate 32 0), true⟩] w2, fun v _ => 8 - (intOf v).toNat, ⟨0, by omega, rfl, h6⟩, ?_⟩
    clear h4 h5 h6
    rintro v u2 w7 ⟨i, hi, rfl, h7⟩
    refine mop_c trivial ?_
    refine mif_dec (fun hlt => ?_) (fun hge => ?_)
    · (repeat (first | (refine mop_c ?_ ?_; first | exact trivial | omega) | (refine dp_c ?_ ?_; first | exact trivial | omega)))
      refine mop_ld ((h7.cell 1 rfl 72).trans (st_n hl8 hd.len)) rfl ?_
      (repeat (first | (refine mop_c ?_ ?_; first | exact trivial | omega) | (refine dp_c ?_ ?_; first | exact trivial | omega)))
      refine mop_st (j := z + 1 + i) h7 (by omega) (by rw [u8s_length, tailK_length n z i hz63 (by omega)]; omega) rfl (fun w8 h8 => ?_)
      have h8 : St w [⟨gt, 147, u8s (tailK n z (i + 1)), true⟩, ⟨b, 145, stCells x.1.list bl (n : Int), true⟩, ⟨go, 34, u8s (List.replicate 32 0), true⟩] w8 := by
        rw [← tailK_set n z i hz63 (by omega), ← set_u8s]
        exact h8
      (repeat (first | (refine mop_c ?_ ?_; first | exact trivial | omega) | (refine dp_c ?_ ?_; first | exact trivial | omega)))
      exact ⟨⟨i + 1, by omega, rfl, h8⟩, by simp [intOf]; omega⟩
    · obtain rfl : i = 8 := by omega
      (repeat (first | (refine mop_c ?_ ?_; first | exact trivial | omega) | (refine dp_c ?_ ?_; first | exact trivial | omega)))
      have hto : (((z + 1 : Nat) : Int) + 8).toNat = z + 9 := by omega
      rw [hto]
      have htl := tailK_length n z 8 hz63 (by omega)
      refine mop_purW (pw_conv_bytes 106 9 5 gt 0 (z + 9) 72 (padding n) (by kernel_rfl) (by kernel_rfl) (by kernel_rfl) (by rw [← hend, List.length_take, htl]; omega) (fun i hi => ?_)) ?_
      · rw [h7.head.cell, ← hend, Nat.zero_add, u8s_at _ _ (by omega)]
        congr 2
        simp [List.getD, hi]
      have hpl : (padding n).length = z + 9 := by rw [← hend, List.length_take, htl]; omega
      have hps : (strOfNums (padding n)).size = z + 9 := by rw [← ints_length, ints_str _ (padding_range n), hpl]
      have h7 := h7.swap
      refine mop_to (put_ok b x n bl (strOfNums (padding n)) w7 h7.head hd (by omega)) ?_
      rintro e w8 ⟨rfl, bl', hd8, h8⟩
      rw [ints_str _ (padding_range n)] at hd8 h8
      have h9 := h7.call1 h8
      generalize feedAll x (padding n) = y at hd8 h9 ⊢
      clear h7 h8
      have hy8 : y.1.list.length = 8 := rfl
      refine mop_new h9 (fun gu w9 h10 => ?_)
      refine ⟨fun v w2 => ∃ i : Nat, i ≤ 32 ∧ v = .int .i64 i ∧ ∃ L, St w (⟨gu, 34, u8s (fill (outAt y.1.list) 32 i), true⟩ :: ⟨b, 145, stCells y.1.list bl' ((n + (strOfNums (padding n)).size : Nat) : Int), true⟩ :: ⟨gt, 147, L, true⟩ :: ⟨go, 34, u8s (List.replicate 32 0), true⟩ :: []) w2, fun v _ => 32 - (intOf v).toNat, ⟨0, by omega, rfl, _, h10⟩, ?_⟩
      clear h9 h10
      rintro v u3 w10 ⟨i, hi, rfl, L, h11⟩
      refine mop_c trivial ?_
      refine mif_dec (fun hlt => ?_) (fun hge => ?_)
      · (repeat (first | (refine mop_c ?_ ?_; first | exact trivial | omega) | (refine dp_c ?_ ?_; first | exact trivial | omega)))
        have hq : (0 + 0 + ((i : Int) / 4).toNat) = 0 + i / 4 := by omega
        refine mop_ld ((h11.cell 1 rfl (i / 4)).trans (st_h hy8 (i / 4) (by omega))) (by omega) ?_
        (repeat (first | (refine mop_c ?_ ?_; first | exact trivial | omega) | (refine dp_c ?_ ?_; first | exact trivial | omega)))
        refine mop_st (j := i) h11 (by omega) (by rw [u8s_length, fill_length _ _ _ hi]; omega) rfl (fun w11 h12 => ?_)
        have h12 : St w (⟨gu, 34, u8s (fill (outAt y.1.list) 32 (i + 1)), true⟩ :: ⟨b, 145, stCells y.1.list bl' ((n + (strOfNums (padding n)).size : Nat) : Int), true⟩ :: ⟨gt, 147, L, true⟩ :: ⟨go, 34, u8s (List.replicate 32 0), true⟩ :: []) w11 := by
          rw [← fill_set _ _ _ (by omega), ← set_u8s]
          have e : outAt y.1.list i = y.1.list.getD (i / 4) 0 / 2 ^ ((24 : Int) - 8 * ((i : Int) % 4)).toNat % 256 := by
            unfold outAt
            congr 3
            omega
          rw [e]
          exact h12
        (repeat (first | (refine mop_c ?_ ?_; first | exact trivial | omega) | (refine dp_c ?_ ?_; first | exact trivial | omega)))
        exact ⟨⟨i + 1, by omega, rfl, L, h12⟩, by simp [intOf]; omega⟩
      · obtain rfl : i = 32 := by omega
        have hf : fill (outAt y.1.list) 32 32 = outB y.1 := by simp [fill, outB]
        rw [hf] at h11
        have hol : (u8s (outB y.1)).length = 32 := by simp [outB, u8s]
        refine mop_ldN (cells_of_row h11.head) hol rfl ?_
        have h13 := h11.drop.drop.drop
        refine mop_storeN (q := true) (k := 32) (by kernel_rfl) h13 (by simpa [Value.cells] using hol) (by intro u hu; exact u8s_one _ u hu) (by simp [u8s]) (fun w12 h14 => ?_)
        have e : lay (u8s (List.replicate 32 0)) (Value.agg (u8s (outB y.1)).toArray).cells.toList 0 = u8s (outB y.1) := lay_all _ _ (by show (u8s (outB y.1)).length = _; rw [hol]; simp [u8s])
        rw [e] at h14
        refine rcell_ldN (cells_of_row h14.head) hol ?_
        exact ⟨rfl, h14.drop⟩
end Go.Proofs.Ytopcnkejobomaaa
namespace Go.Proofs.Ytopcnkejobomaaa
open Go.RowKit
def blocks (M : List Int) : Nat → S8
  | 0 => h0
  | j + 1 => compress (blocks M j) ((M.drop (64 * j)).take 64)
end Go.Proofs.Ytopcnkejobomaaa
namespace Go.Proofs.Ytopcnkejobomaaa
open Go.RowKit
theorem St.ext {w w' : World} {L : List Bk} (h : St w L w') (hn : ∀ b ∈ L, b.nw = true) : Ext w w' :=
  h.only.mono (fun i _ hi => by
    obtain ⟨b, hb, h2, _⟩ := hi
    rw [hn b hb] at h2
    cases h2)
end Go.Proofs.Ytopcnkejobomaaa
namespace Go.Proofs.Ytopcnkejobomaaa
open Go.RowKit
def numB (n : Int) : List Int :=
  if n < 64 then [n]
  else if n < 16384 then [64 + n / 256, n % 256]
  else if n < 1073741824 then [128 + n / 16777216, n / 65536 % 256, n / 256 % 256, n % 256]
  else [192 + n / 72057594037927936, n / 281474976710656 % 256, n / 1099511627776 % 256, n / 4294967296 % 256, n / 16777216 % 256, n / 65536 % 256, n / 256 % 256, n % 256]
theorem numB_range (n : Int) (h : 0 ≤ n ∧ n ≤ 4611686018427387903) : ∀ x ∈ numB n, 0 ≤ x ∧ x < 256 := by
  unfold numB
  split
  · intro x hx; simp at hx; omega
  · split
    · intro x hx; simp at hx; rcases hx with rfl | rfl <;> omega
    · split
      · intro x hx; simp at hx; rcases hx with rfl | rfl | rfl | rfl <;> omega
      · intro x hx; simp at hx; rcases hx with rfl | rfl | rfl | rfl | rfl | rfl | rfl | rfl <;> omega
theorem numB_length (n : Int) : (numB n).length ≤ 8 ∧ 1 ≤ (numB n).length := by
  unfold numB
  repeat' split
  all_goals simp
def wrR (g : Nat) (out : List Int) (bad : Bool) : Res := exR (fun (p : Option Addr × Nat) => [fb g 173 [.one (.slice p.1 out.length p.2), .one (.bool bad)], rowR 5 1 p.1 out.length p.2 (byts out)])
section
variable {H : Hp} {w0 w : World} {L R : List Res} {g : Nat} {out : List Int} {bad : Bool}
theorem Mem.wr (h : Mem H w0 (wrR g out bad :: L) w) : ∃ A c, Mem H w0 (fb g 173 [.one (.slice A out.length c), .one (.bool bad)] :: rowR 5 1 A out.length c (byts out) :: L) w := by
  obtain ⟨p, h⟩ := h.unex
  exact ⟨p.1, p.2, h⟩
theorem Mem.unwr {A : Option Addr} {n c : Nat} (h : Mem H w0 (fb g 173 [.one (.slice A n c), .one (.bool bad)] :: rowR 5 1 A n c (byts out) :: L) w) (hn : n = out.length) : Mem H w0 (wrR g out bad :: L) w := by
  subst hn
  exact Mem.toex (R := fun (p : Option Addr × Nat) => [fb g 173 [.one (.slice p.1 out.length p.2), .one (.bool bad)], rowR 5 1 p.1 out.length p.2 (byts out)]) (A, c) h
theorem wnew_ok (hM : Mem H w0 L w) : Calls Try.prog 95 #[] w fun en w' => ∃ v, en = .returned v ∧ ∃ g, v = .pointer (some ⟨g, 0, none⟩) ∧ Mem H w0 (wrR g [] false :: L) w' := by
  refine C_wire_New ?_
  unfold F_wire_New
  ((with_reducible (refine mop_c trivial ?_; refine mm_box hM ?_; clear hM; intro _ _ hM)))
  rename_i g _
  have hM : Mem H w0 (fb g 173 [.one (.slice none 0 0), .one (.bool false)] :: rowR 5 1 none 0 0 (byts []) :: L) _ := (hM.row0 5 1).perm (.swap ..)
  exact ⟨_, rfl, g, rfl, Mem.unwr hM rfl⟩
theorem whash_ok (h : H32) (hb : out.length < 1000000000) (hM : Mem H w0 (wrR g out bad :: L) w) : Calls Try.prog 99 #[.pointer (some ⟨g, 0, none⟩), ha h] w fun en w' => ∃ v, en = .returned v ∧ v = .tuple #[] ∧ Mem H w0 (wrR g (out ++ h.1) bad :: L) w' := by
  refine C_wire_Writer_Hash ?_
  unfold F_wire_Writer_Hash
  obtain ⟨A, c, hM⟩ := hM.wr
  ((with_reducible (refine mm_box hM ?_; clear hM; intro _ _ hM; refine mop_c trivial ?_; refine mif_true ?_; refine dp_c trivial ?_; refine dp_c trivial ?_; refine dm_ld hM ?_; refine dp_c trivial ?_; refine df_no hM ?_; clear hM; intro _ hM)))
  refine mm_appb hM (by omega) (fun A' c' w4 hM => ?_)
  ((with_reducible (refine dp_c trivial ?_; refine dp_c trivial ?_; refine dS_st hM ?_; clear hM; intro _ hM; refine mm_end hM ?_; clear hM; intro _ hM)))
  exact ⟨_, rfl, rfl, Mem.unwr ((hM.upB g).sub : Mem H w0 (fb g 173 [.one (.slice A' (out.length + 32) c'), .one (.bool bad)] :: rowR 5 1 A' (out.length + 32) c' (byts (out ++ h.1)) :: L) _) (by simp [h.2.1])⟩
theorem bounds_ok (w : World) : Calls Try.prog 152 #[] w fun en w' => en = .returned (.agg #[.int .i64 64, .int .i64 16384, .int .i64 1073741824, .int .i64 4611686018427387903]) ∧ St w [] w' := by
  have hM := Mem.start (Fz.of w)
  refine C_wire_bounds ?_
  unfold F_wire_bounds
  ((with_reducible (refine mm_new hM ?_; clear hM; intro _ _ hM; refine mop_c trivial ?_; refine mm_st hM ?_; clear hM; intro _ hM; refine rm_ld hM ?_)))
  exact ⟨rfl, hM.st⟩
instance : PurC Try.prog 152 [] True (.agg #[.int .i64 64, .int .i64 16384, .int .i64 1073741824, .int .i64 4611686018427387903]) := ⟨fun _ w => bounds_ok w⟩
def kindN (n : Int) : Int := if n < 64 then 0 else if n < 16384 then 1 else if n < 1073741824 then 2 else 3
theorem numB_cases (n : Int) : (n < 64 ∧ kindN n = 0 ∧ numB n = [n]) ∨ (64 ≤ n ∧ n < 16384 ∧ kindN n = 1 ∧ numB n = [64 + n / 256, n % 256]) ∨
    (16384 ≤ n ∧ n < 1073741824 ∧ kindN n = 2 ∧ numB n = [128 + n / 16777216, n / 65536 % 256, n / 256 % 256, n % 256]) ∨
    (1073741824 ≤ n ∧ kindN n = 3 ∧ numB n = [192 + n / 72057594037927936, n / 281474976710656 % 256, n / 1099511627776 % 256, n / 4294967296 % 256, n / 16777216 % 256, n / 65536 % 256, n / 256 % 256, n % 256]) := by
  unfold kindN numB
  by_cases h1 : n < 64
  · exact .inl ⟨h1, if_pos h1, if_pos h1⟩
  · by_cases h2 : n < 16384
    · exact .inr (.inl ⟨by omega, h2, by rw [if_neg h1, if_pos h2], by rw [if_neg h1, if_pos h2]⟩)
    · by_cases h3 : n < 1073741824
      · exact .inr (.inr (.inl ⟨by omega, h3, by rw [if_neg h1, if_neg h2, if_pos h3], by rw [if_neg h1, if_neg h2, if_pos h3]⟩))
      · exact .inr (.inr (.inr ⟨by omega, by rw [if_neg h1, if_neg h2, if_neg h3], by rw [if_neg h1, if_neg h2, if_neg h3]⟩))
theorem numB_len (n : Int) : ((numB n).length : Int) = 1 * 2 ^ (kindN n).toNat := by
  rcases numB_cases n with ⟨_, h2, h3⟩ | ⟨_, _, h2, h3⟩ | ⟨_, _, h2, h3⟩ | ⟨_, h2, h3⟩ <;> (rw [h2, h3]; rfl)
theorem or64 (a k : Int) (ha : 0 ≤ a ∧ a < 64) (hk : 0 ≤ k ∧ k ≤ 3) : bits .or .u8 a (k * 64) = a + k * 64 := by
  have key : ∀ x : Fin 64, ∀ y : Fin 4, bits .or .u8 (x.val : Int) ((y.val : Int) * 64) = (x.val : Int) + (y.val : Int) * 64 := by decide +kernel
  have := key ⟨a.toNat, by omega⟩ ⟨k.toNat, by omega⟩
  simp only [Int.toNat_of_nonneg ha.1, Int.toNat_of_nonneg hk.1] at this
  exact this
theorem numB_head (n : Int) (h : 0 ≤ n ∧ n ≤ 4611686018427387903) : 0 ≤ (numB n).getD 0 0 - kindN n * 64 ∧ (numB n).getD 0 0 - kindN n * 64 < 64 ∧ 0 ≤ kindN n ∧ kindN n ≤ 3 := by
  rcases numB_cases n with ⟨_, h2, h3⟩ | ⟨_, _, h2, h3⟩ | ⟨_, _, h2, h3⟩ | ⟨_, h2, h3⟩ <;> (rw [h2, h3]; simp; omega)
theorem byteAt (n : Int) (h : 0 ≤ n ∧ n ≤ 4611686018427387903) (i : Nat) (hi : i < (numB n).length) :
    n / 2 ^ (8 * (((numB n).length : Int) - 1 - i)).toNat % 256 = if i = 0 then (numB n).getD 0 0 - kindN n * 64 else (numB n).getD i 0 := by
  rcases numB_cases n with ⟨h1, h2, h3⟩ | ⟨h1, h0, h2, h3⟩ | ⟨h1, h0, h2, h3⟩ | ⟨h1, h2, h3⟩ <;> rw [h3] at hi ⊢ <;> rw [h2]
  · obtain rfl : i = 0 := by simp at hi; omega
    simp
    omega
  · obtain rfl | rfl : i = 0 ∨ i = 1 := by simp at hi; omega
    all_goals simp
    all_goals omega
  · obtain rfl | rfl | rfl | rfl : i = 0 ∨ i = 1 ∨ i = 2 ∨ i = 3 := by simp at hi; omega
    all_goals simp
    all_goals omega
  · obtain rfl | rfl | rfl | rfl | rfl | rfl | rfl | rfl : i = 0 ∨ i = 1 ∨ i = 2 ∨ i = 3 ∨ i = 4 ∨ i = 5 ∨ i = 6 ∨ i = 7 := by simp at hi; omega
    all_goals simp
    all_goals omega
theorem byts_snoc {out : List Int} (l : List Int) (i : Nat) (h : i < l.length) : byts (out ++ l.take i) ++ [[.one (.int .u8 (l.getD i 0))]] = byts (out ++ l.take (i + 1)) := by
  have e : out ++ l.take (i + 1) = (out ++ l.take i) ++ [l.getD i 0] := by
    rw [List.take_succ_eq_append_getElem h, ← List.append_assoc, List.getD_eq_getElem?_getD, List.getElem?_eq_getElem h]
    rfl
  rw [e, byts_app (out ++ l.take i)]
  rfl
theorem wnum_ok (n : Int) (h : 0 ≤ n ∧ n ≤ 4611686018427387903) (hb : out.length < 1000000000) (hM : Mem H w0 (wrR g out bad :: L) w) : Calls Try.prog 129 #[.pointer (some ⟨g, 0, none⟩), .int .i64 n] w fun en w' => ∃ v, en = .returned v ∧ v = .tuple #[] ∧ Mem H w0 (wrR g (out ++ numB n) bad :: L) w' := by
  refine C_wire_Writer_Num ?_
  unfold F_wire_Writer_Num
  ((with_reducible (refine mop_c trivial ?_; refine mif_false ?_)))
  refine ⟨fun x w' => x = .bool false ∧ hM.now w', ?_, ?_⟩
  · ((with_reducible (refine mop_cF trivial ?_ ?_)); (focus (first | assumption | omega | with_reducible rfl | exact fun h => Bool.noConfusion h)); (with_reducible (refine mguard_yes ?_; refine mop_c trivial ?_; refine mguard_yes ?_; refine mop_cF trivial ?_ ?_)); (focus (first | assumption | omega | with_reducible rfl | exact fun h => Bool.noConfusion h)); (with_reducible (refine mop_c trivial ?_)))
    exact ⟨rfl, hM⟩
  rintro x u w1 ⟨rfl, hM⟩
  ((with_reducible (refine mif_false ?_)))
  refine ⟨fun x w' => ∃ k : Nat, x = .int .i64 k ∧ k ≤ 3 ∧ (1 ≤ k → 64 ≤ n) ∧ (2 ≤ k → 16384 ≤ n) ∧ (3 ≤ k → 1073741824 ≤ n) ∧ hM.now w', fun x _ => match x with | .int _ i => 3 - i.toNat | _ => 0, ⟨0, rfl, by omega, by omega, by omega, by omega, hM⟩, ?_⟩
  rintro x u w2 ⟨k, rfl, hk, h1, h2, h3, hM⟩
  have hlen := numB_length n
  refine ⟨fun w' => k < 3 ∧ (k = 0 → 64 ≤ n) ∧ (k = 1 → 16384 ≤ n) ∧ (k = 2 → 1073741824 ≤ n) ∧ hM.now w', ?_, ?_⟩
  · obtain rfl | rfl | rfl | rfl : k = 0 ∨ k = 1 ∨ k = 2 ∨ k = 3 := by omega
    · have e0 : (((0 : Nat) : Int)) = 0 := rfl
      simp only [e0]
      ((with_reducible (refine mop_cT trivial ?_ ?_)); (focus (first | assumption | omega | with_reducible rfl | exact fun h => Bool.noConfusion h)); (with_reducible (refine mguard_yes ?_; refine mop_c trivial ?_; refine mguard_yes ?_; refine mm_purC hM ?_ (fun _ hM2 => ?_))); (focus (first | exact trivial | assumption | omega)); (with_reducible (replace hM := hM2; clear hM2; refine mguard_yes ?_; refine mop_c trivial ?_; refine mguard_yes ?_)))
      refine mop_pur (v := .int .i64 64) (fun w => by kernel_rfl) ?_
      ((with_reducible (refine mguard_yes ?_)))
      ((with_reducible (refine mop_cS trivial ?_ ?_)))
      · intro hn
        ((with_reducible (refine mop_c trivial ?_; refine mif_true ?_)))
        exact ⟨by omega, by omega, by omega, by omega, hM⟩
      · intro hn
        ((with_reducible (refine mop_c trivial ?_; refine mif_false ?_)))
        have hkn : (0 : Int) = kindN n := by
          unfold kindN
          simp at h1 h2 h3
          repeat' split
          all_goals omega
        refine mop_pur (p_shl _ _ _ _ _ _ (by omega) (by simp [IntKind.bits])) ?_
        have hL : IntKind.i64.wrap (1 * 2 ^ (0 : Int).toNat) = ((numB n).length : Int) := by
          rw [numB_len, ← hkn]
          rfl
        rw [hL]
        refine ⟨fun x w' => ∃ i : Nat, x = .int .i64 i ∧ i ≤ (numB n).length ∧ Mem H w0 (wrR g (out ++ (numB n).take i) bad :: L) w', fun x _ => match x with | .int _ i => (numB n).length - i.toNat | _ => 0, ⟨0, rfl, by omega, by simpa using hM⟩, ?_⟩
        clear hM
        rintro x u w4 ⟨i, rfl, hi, hM⟩
        skip
        ((with_reducible (refine mop_cS trivial ?_ ?_)))
        · intro hlt
          have hlt' : i < (numB n).length := by omega
          have hby := byteAt n h i hlt'
          have hhd := numB_head n h
          ((with_reducible (refine mif_true ?_; refine mop_c ?_ ?_)); (focus omega); (with_reducible (refine mop_c ?_ ?_)); (focus omega); (with_reducible (refine mop_c ?_ ?_)); (focus omega); (with_reducible (refine mop_c ?_ ?_)); (focus omega); (with_reducible (refine mop_c trivial ?_)))
          rw [hby]
          refine ⟨fun x w' => x = .int .u8 ((numB n).getD i 0) ∧ hM.now w', ?_, ?_⟩
          · skip
            ((with_reducible (refine mop_cS trivial ?_ ?_)))
            · intro h0
              obtain rfl : i = 0 := by omega
              ((with_reducible (refine mif_true ?_)))
              refine mop_pur (p_shl _ _ _ _ _ _ (by omega) (by simp [IntKind.bits])) ?_
              have h6 : IntKind.i64.wrap ((0 : Int) * 2 ^ (6 : Int).toNat) = kindN n * 64 := by
                rw [← hkn]
                rfl
              rw [h6]
              ((with_reducible (refine mop_c trivial ?_; refine mop_c trivial ?_)))
              refine ⟨?_, hM⟩
              rw [if_pos rfl, Int.emod_eq_of_lt (by omega) (by omega), or64 _ _ (by omega) (by omega)]
              congr 1
              omega
            · intro h0
              ((with_reducible (refine mif_false ?_)))
              exact ⟨by rw [if_neg (by omega)], hM⟩
          · rintro x u w5 ⟨rfl, hM⟩
            obtain ⟨A, c, hM⟩ := hM.wr
            have hol : (out ++ (numB n).take i).length ≤ out.length + 8 := by rw [List.length_append, List.length_take]; omega
            ((with_reducible (refine mop_c trivial ?_; refine mop_c trivial ?_; refine mm_ld hM ?_; refine mm_bsl hM ?_ ?_ ?_)); (focus rfl); (focus (constructor <;> simp)); (with_reducible (clear hM; intro _ _ hM; refine mm_appo hM ?_ ?_)); (focus omega); (with_reducible (clear hM; intro _ _ _ hM; refine mop_c trivial ?_; refine mop_c trivial ?_; refine mm_st hM ?_; clear hM; intro _ hM; refine mop_c ?_ ?_)); (focus omega))
            rw [byts_snoc _ _ hlt'] at hM
            have hl2 : (out ++ (numB n).take i).length + 1 = (out ++ (numB n).take (i + 1)).length := by
              rw [List.length_append, List.length_append, List.length_take, List.length_take]; omega
            have hM2 := Mem.unwr (hM.upB g) hl2
            refine ⟨⟨i + 1, by rw [Int.natCast_add]; rfl, by omega, hM2⟩, ?_⟩
            show (numB n).length - ((i : Int) + 1).toNat < (numB n).length - (i : Int).toNat
            omega
        · intro hge
          ((with_reducible (refine mif_false ?_)))
          rw [List.take_of_length_le (by omega)] at hM
          exact ⟨_, rfl, rfl, hM⟩
    · have e0 : (((1 : Nat) : Int)) = 1 := rfl
      simp only [e0]
      ((with_reducible (refine mop_cT trivial ?_ ?_)); (focus (first | assumption | omega | with_reducible rfl | exact fun h => Bool.noConfusion h)); (with_reducible (refine mguard_yes ?_; refine mop_c trivial ?_; refine mguard_yes ?_; refine mm_purC hM ?_ (fun _ hM2 => ?_))); (focus (first | exact trivial | assumption | omega)); (with_reducible (replace hM := hM2; clear hM2; refine mguard_yes ?_; refine mop_c trivial ?_; refine mguard_yes ?_)))
      refine mop_pur (v := .int .i64 16384) (fun w => by kernel_rfl) ?_
      ((with_reducible (refine mguard_yes ?_)))
      ((with_reducible (refine mop_cS trivial ?_ ?_)))
      · intro hn
        ((with_reducible (refine mop_c trivial ?_; refine mif_true ?_)))
        exact ⟨by omega, by omega, by omega, by omega, hM⟩
      · intro hn
        ((with_reducible (refine mop_c trivial ?_; refine mif_false ?_)))
        have hkn : (1 : Int) = kindN n := by
          unfold kindN
          simp at h1 h2 h3
          repeat' split
          all_goals omega
        refine mop_pur (p_shl _ _ _ _ _ _ (by omega) (by simp [IntKind.bits])) ?_
        have hL : IntKind.i64.wrap (1 * 2 ^ (1 : Int).toNat) = ((numB n).length : Int) := by
          rw [numB_len, ← hkn]
          rfl
        rw [hL]
        refine ⟨fun x w' => ∃ i : Nat, x = .int .i64 i ∧ i ≤ (numB n).length ∧ Mem H w0 (wrR g (out ++ (numB n).take i) bad :: L) w', fun x _ => match x with | .int _ i => (numB n).length - i.toNat | _ => 0, ⟨0, rfl, by omega, by simpa using hM⟩, ?_⟩
        clear hM
        rintro x u w4 ⟨i, rfl, hi, hM⟩
        skip
        ((with_reducible (refine mop_cS trivial ?_ ?_)))
        · intro hlt
          have hlt' : i < (numB n).length := by omega
          have hby := byteAt n h i hlt'
          have hhd := numB_head n h
          ((with_reducible (refine mif_true ?_; refine mop_c ?_ ?_)); (focus omega); (with_reducible (refine mop_c ?_ ?_)); (focus omega); (with_reducible (refine mop_c ?_ ?_)); (focus omega); (with_reducible (refine mop_c ?_ ?_)); (focus omega); (with_reducible (refine mop_c trivial ?_)))
          rw [hby]
          refine ⟨fun x w' => x = .int .u8 ((numB n).getD i 0) ∧ hM.now w', ?_, ?_⟩
          · skip
            ((with_reducible (refine mop_cS trivial ?_ ?_)))
            · intro h0
              obtain rfl : i = 0 := by omega
              ((with_reducible (refine mif_true ?_)))
              refine mop_pur (p_shl _ _ _ _ _ _ (by omega) (by simp [IntKind.bits])) ?_
              have h6 : IntKind.i64.wrap ((1 : Int) * 2 ^ (6 : Int).toNat) = kindN n * 64 := by
                rw [← hkn]
                rfl
              rw [h6]
              ((with_reducible (refine mop_c trivial ?_; refine mop_c trivial ?_)))
              refine ⟨?_, hM⟩
              rw [if_pos rfl, Int.emod_eq_of_lt (by omega) (by omega), or64 _ _ (by omega) (by omega)]
              congr 1
              omega
            · intro h0
              ((with_reducible (refine mif_false ?_)))
              exact ⟨by rw [if_neg (by omega)], hM⟩
          · rintro x u w5 ⟨rfl, hM⟩
            obtain ⟨A, c, hM⟩ := hM.wr
            have hol : (out ++ (numB n).take i).length ≤ out.length + 8 := by rw [List.length_append, List.length_take]; omega
            ((with_reducible (refine mop_c trivial ?_; refine mop_c trivial ?_; refine mm_ld hM ?_; refine mm_bsl hM ?_ ?_ ?_)); (focus rfl); (focus (constructor <;> simp)); (with_reducible (clear hM; intro _ _ hM; refine mm_appo hM ?_ ?_)); (focus omega); (with_reducible (clear hM; intro _ _ _ hM; refine mop_c trivial ?_; refine mop_c trivial ?_; refine mm_st hM ?_; clear hM; intro _ hM; refine mop_c ?_ ?_)); (focus omega))
            rw [byts_snoc _ _ hlt'] at hM
            have hl2 : (out ++ (numB n).take i).length + 1 = (out ++ (numB n).take (i + 1)).length := by
              rw [List.length_append, List.length_append, List.length_take, List.length_take]; omega
            have hM2 := Mem.unwr (hM.upB g) hl2
            refine ⟨⟨i + 1, by rw [Int.natCast_add]; rfl, by omega, hM2⟩, ?_⟩
            show (numB n).length - ((i : Int) + 1).toNat < (numB n).length - (i : Int).toNat
            omega
        · intro hge
          ((with_reducible (refine mif_false ?_)))
          rw [List.take_of_length_le (by omega)] at hM
          exact ⟨_, rfl, rfl, hM⟩
    · have e0 : (((2 : Nat) : Int)) = 2 := rfl
      simp only [e0]
      ((with_reducible (refine mop_cT trivial ?_ ?_)); (focus (first | assumption | omega | with_reducible rfl | exact fun h => Bool.noConfusion h)); (with_reducible (refine mguard_yes ?_; refine mop_c trivial ?_; refine mguard_yes ?_; refine mm_purC hM ?_ (fun _ hM2 => ?_))); (focus (first | exact trivial | assumption | omega)); (with_reducible (replace hM := hM2; clear hM2; refine mguard_yes ?_; refine mop_c trivial ?_; refine mguard_yes ?_)))
      refine mop_pur (v := .int .i64 1073741824) (fun w => by kernel_rfl) ?_
      ((with_reducible (refine mguard_yes ?_)))
      ((with_reducible (refine mop_cS trivial ?_ ?_)))
      · intro hn
        ((with_reducible (refine mop_c trivial ?_; refine mif_true ?_)))
        exact ⟨by omega, by omega, by omega, by omega, hM⟩
      · intro hn
        ((with_reducible (refine mop_c trivial ?_; refine mif_false ?_)))
        have hkn : (2 : Int) = kindN n := by
          unfold kindN
          simp at h1 h2 h3
          repeat' split
          all_goals omega
        refine mop_pur (p_shl _ _ _ _ _ _ (by omega) (by simp [IntKind.bits])) ?_
        have hL : IntKind.i64.wrap (1 * 2 ^ (2 : Int).toNat) = ((numB n).length : Int) := by
          rw [numB_len, ← hkn]
          rfl
        rw [hL]
        refine ⟨fun x w' => ∃ i : Nat, x = .int .i64 i ∧ i ≤ (numB n).length ∧ Mem H w0 (wrR g (out ++ (numB n).take i) bad :: L) w', fun x _ => match x with | .int _ i => (numB n).length - i.toNat | _ => 0, ⟨0, rfl, by omega, by simpa using hM⟩, ?_⟩
        clear hM
        rintro x u w4 ⟨i, rfl, hi, hM⟩
        skip
        ((with_reducible (refine mop_cS trivial ?_ ?_)))
        · intro hlt
          have hlt' : i < (numB n).length := by omega
          have hby := byteAt n h i hlt'
          have hhd := numB_head n h
          ((with_reducible (refine mif_true ?_; refine mop_c ?_ ?_)); (focus omega); (with_reducible (refine mop_c ?_ ?_)); (focus omega); (with_reducible (refine mop_c ?_ ?_)); (focus omega); (with_reducible (refine mop_c ?_ ?_)); (focus omega); (with_reducible (refine mop_c trivial ?_)))
          rw [hby]
          refine ⟨fun x w' => x = .int .u8 ((numB n).getD i 0) ∧ hM.now w', ?_, ?_⟩
          · skip
            ((with_reducible (refine mop_cS trivial ?_ ?_)))
            · intro h0
              obtain rfl : i = 0 := by omega
              ((with_reducible (refine mif_true ?_)))
              refine mop_pur (p_shl _ _ _ _ _ _ (by omega) (by simp [IntKind.bits])) ?_
              have h6 : IntKind.i64.wrap ((2 : Int) * 2 ^ (6 : Int).toNat) = kindN n * 64 := by
                rw [← hkn]
                rfl
              rw [h6]
              ((with_reducible (refine mop_c trivial ?_; refine mop_c trivial ?_)))
              refine ⟨?_, hM⟩
              rw [if_pos rfl, Int.emod_eq_of_lt (by omega) (by omega), or64 _ _ (by omega) (by omega)]
              congr 1
              omega
            · intro h0
              ((with_reducible (refine mif_false ?_)))
              exact ⟨by rw [if_neg (by omega)], hM⟩
          · rintro x u w5 ⟨rfl, hM⟩
            obtain ⟨A, c, hM⟩ := hM.wr
            have hol : (out ++ (numB n).take i).length ≤ out.length + 8 := by rw [List.length_append, List.length_take]; omega
            ((with_reducible (refine mop_c trivial ?_; refine mop_c trivial ?_; refine mm_ld hM ?_; refine mm_bsl hM ?_ ?_ ?_)); (focus rfl); (focus (constructor <;> simp)); (with_reducible (clear hM; intro _ _ hM; refine mm_appo hM ?_ ?_)); (focus omega); (with_reducible (clear hM; intro _ _ _ hM; refine mop_c trivial ?_; refine mop_c trivial ?_; refine mm_st hM ?_; clear hM; intro _ hM; refine mop_c ?_ ?_)); (focus omega))
            rw [byts_snoc _ _ hlt'] at hM
            have hl2 : (out ++ (numB n).take i).length + 1 = (out ++ (numB n).take (i + 1)).length := by
              rw [List.length_append, List.length_append, List.length_take, List.length_take]; omega
            have hM2 := Mem.unwr (hM.upB g) hl2
            refine ⟨⟨i + 1, by rw [Int.natCast_add]; rfl, by omega, hM2⟩, ?_⟩
            show (numB n).length - ((i : Int) + 1).toNat < (numB n).length - (i : Int).toNat
            omega
        · intro hge
          ((with_reducible (refine mif_false ?_)))
          rw [List.take_of_length_le (by omega)] at hM
          exact ⟨_, rfl, rfl, hM⟩
    · have e0 : (((3 : Nat) : Int)) = 3 := rfl
      simp only [e0]
      ((with_reducible (refine mop_cF trivial ?_ ?_)); (focus (first | assumption | omega | with_reducible rfl | exact fun h => Bool.noConfusion h)); (with_reducible ((iterate 5 refine mguard_n2 ?_); refine mop_c trivial ?_; refine mif_false ?_)))
      · have hkn : (3 : Int) = kindN n := by
          unfold kindN
          simp at h1 h2 h3
          repeat' split
          all_goals omega
        refine mop_pur (p_shl _ _ _ _ _ _ (by omega) (by simp [IntKind.bits])) ?_
        have hL : IntKind.i64.wrap (1 * 2 ^ (3 : Int).toNat) = ((numB n).length : Int) := by
          rw [numB_len, ← hkn]
          rfl
        rw [hL]
        refine ⟨fun x w' => ∃ i : Nat, x = .int .i64 i ∧ i ≤ (numB n).length ∧ Mem H w0 (wrR g (out ++ (numB n).take i) bad :: L) w', fun x _ => match x with | .int _ i => (numB n).length - i.toNat | _ => 0, ⟨0, rfl, by omega, by simpa using hM⟩, ?_⟩
        clear hM
        rintro x u w4 ⟨i, rfl, hi, hM⟩
        skip
        ((with_reducible (refine mop_cS trivial ?_ ?_)))
        · intro hlt
          have hlt' : i < (numB n).length := by omega
          have hby := byteAt n h i hlt'
          have hhd := numB_head n h
          ((with_reducible (refine mif_true ?_; refine mop_c ?_ ?_)); (focus omega); (with_reducible (refine mop_c ?_ ?_)); (focus omega); (with_reducible (refine mop_c ?_ ?_)); (focus omega); (with_reducible (refine mop_c ?_ ?_)); (focus omega); (with_reducible (refine mop_c trivial ?_)))
          rw [hby]
          refine ⟨fun x w' => x = .int .u8 ((numB n).getD i 0) ∧ hM.now w', ?_, ?_⟩
          · skip
            ((with_reducible (refine mop_cS trivial ?_ ?_)))
            · intro h0
              obtain rfl : i = 0 := by omega
              ((with_reducible (refine mif_true ?_)))
              refine mop_pur (p_shl _ _ _ _ _ _ (by omega) (by simp [IntKind.bits])) ?_
              have h6 : IntKind.i64.wrap ((3 : Int) * 2 ^ (6 : Int).toNat) = kindN n * 64 := by
                rw [← hkn]
                rfl
              rw [h6]
              ((with_reducible (refine mop_c trivial ?_; refine mop_c trivial ?_)))
              refine ⟨?_, hM⟩
              rw [if_pos rfl, Int.emod_eq_of_lt (by omega) (by omega), or64 _ _ (by omega) (by omega)]
              congr 1
              omega
            · intro h0
              ((with_reducible (refine mif_false ?_)))
              exact ⟨by rw [if_neg (by omega)], hM⟩
          · rintro x u w5 ⟨rfl, hM⟩
            obtain ⟨A, c, hM⟩ := hM.wr
            have hol : (out ++ (numB n).take i).length ≤ out.length + 8 := by rw [List.length_append, List.length_take]; omega
            ((with_reducible (refine mop_c trivial ?_; refine mop_c trivial ?_; refine mm_ld hM ?_; refine mm_bsl hM ?_ ?_ ?_)); (focus rfl); (focus (constructor <;> simp)); (with_reducible (clear hM; intro _ _ hM; refine mm_appo hM ?_ ?_)); (focus omega); (with_reducible (clear hM; intro _ _ _ hM; refine mop_c trivial ?_; refine mop_c trivial ?_; refine mm_st hM ?_; clear hM; intro _ hM; refine mop_c ?_ ?_)); (focus omega))
            rw [byts_snoc _ _ hlt'] at hM
            have hl2 : (out ++ (numB n).take i).length + 1 = (out ++ (numB n).take (i + 1)).length := by
              rw [List.length_append, List.length_append, List.length_take, List.length_take]; omega
            have hM2 := Mem.unwr (hM.upB g) hl2
            refine ⟨⟨i + 1, by rw [Int.natCast_add]; rfl, by omega, hM2⟩, ?_⟩
            show (numB n).length - ((i : Int) + 1).toNat < (numB n).length - (i : Int).toNat
            omega
        · intro hge
          ((with_reducible (refine mif_false ?_)))
          rw [List.take_of_length_le (by omega)] at hM
          exact ⟨_, rfl, rfl, hM⟩
  · rintro u w3 ⟨hk3, g1, g2, g3, hM⟩
    ((with_reducible (refine mop_c ?_ ?_)); (focus omega))
    exact ⟨⟨k + 1, by simp, by omega, fun _ => by omega, fun _ => by omega, fun _ => by omega, hM⟩, by simp; omega⟩
theorem wend_ok (hM : Mem H w0 (wrR g out false :: L) w) : Calls Try.prog 97 #[.pointer (some ⟨g, 0, none⟩)] w fun en w' => en = .returned (.tuple #[.string (strOfNums out), .int .i64 0]) ∧ St w [] w' := by
  refine C_wire_Writer_End ?_
  unfold F_wire_Writer_End
  obtain ⟨A, c, hM⟩ := hM.wr
  refine ⟨fun x w' => x = .bool false ∧ w = w', ?_, ?_⟩
  · ((with_reducible (refine mop_c trivial ?_; refine mguard_yes ?_; refine mop_c trivial ?_; refine mguard_yes ?_; refine mop_c trivial ?_; refine mguard_yes ?_; refine mop_c trivial ?_; refine mguard_yes ?_; refine mm_ld hM ?_; refine mop_c trivial ?_)))
    exact ⟨rfl, rfl⟩
  rintro x u w2 ⟨rfl, rfl⟩
  ((with_reducible (refine mif_false ?_; refine mop_c trivial ?_; refine mop_c trivial ?_; refine mm_ld hM ?_)))
  refine mm_cvr hM (Nat.le_refl _) ?_
  rw [List.take_length]
  exact ⟨rfl, St.nil w⟩
end
end Go.Proofs.Ytopcnkejobomaaa
namespace Go.Proofs.Ytopcnkejobomaaa
open Go.RowKit
end Go.Proofs.Ytopcnkejobomaaa
namespace Go.Proofs.Ytopcnkejobomaaa
open Go.RowKit
set_option maxRecDepth 100000 in
theorem lr_fin : ∀ n : Fin 65, ∀ x : Fin 127, thr (n.val : Int) (x.val : Int) → x.val % 2 = 1 →
    (thr (n.val : Int) (lf n.val x.val) ∧ thr (n.val : Int) (rt n.val x.val)) ∧ (level (lf n.val x.val) < level x.val ∧ level (rt n.val x.val) < level x.val) ∧ (fro n.val (lf n.val x.val) = fro n.val x.val ∧ til n.val (lf n.val x.val) = fro n.val (rt n.val x.val) ∧ til n.val (rt n.val x.val) = til n.val x.val) ∧
    (bs n.val (lf n.val x.val) = rt n.val x.val ∧ bs n.val (rt n.val x.val) = lf n.val x.val) := by decide +kernel
set_option maxRecDepth 100000 in
theorem up_lr_fin : ∀ n : Fin 65, ∀ x : Fin 127, thr (n.val : Int) (x.val : Int) → 0 ≤ ab n.val x.val → ab n.val x.val % 2 = 1 ∧ ((x.val : Int) = lf n.val (ab n.val x.val) ∨ (x.val : Int) = rt n.val (ab n.val x.val)) := by decide +kernel
set_option maxRecDepth 100000 in
theorem even_fin : ∀ n : Fin 65, ∀ x : Fin 127, thr (n.val : Int) (x.val : Int) → x.val % 2 = 0 → level x.val = 0 ∧ fro n.val x.val = x.val / 2 ∧ til n.val x.val = x.val / 2 + 1 := by decide +kernel
theorem lr_eq {n x : Int} (h : thr n x) (ho : x % 2 = 1) : (thr n (lf n x) ∧ thr n (rt n x)) ∧ (level (lf n x) < level x ∧ level (rt n x) < level x) ∧ (fro n (lf n x) = fro n x ∧ til n (lf n x) = fro n (rt n x) ∧ til n (rt n x) = til n x) ∧ (bs n (lf n x) = rt n x ∧ bs n (rt n x) = lf n x) := by
  obtain ⟨h1, h2, h3⟩ := id h
  have := lr_fin ⟨n.toNat, by omega⟩ ⟨x.toNat, by omega⟩
  simp only [Int.toNat_of_nonneg h2, Int.toNat_of_nonneg (show 0 ≤ n by omega)] at this
  exact this h (by omega)
theorem up_lr {n x : Int} (h : thr n x) (ha : 0 ≤ ab n x) : ab n x % 2 = 1 ∧ (x = lf n (ab n x) ∨ x = rt n (ab n x)) := by
  obtain ⟨h1, h2, h3⟩ := id h
  have := up_lr_fin ⟨n.toNat, by omega⟩ ⟨x.toNat, by omega⟩
  simp only [Int.toNat_of_nonneg h2, Int.toNat_of_nonneg (show 0 ≤ n by omega)] at this
  exact this h ha
theorem even_eq {n x : Int} (h : thr n x) (he : x % 2 = 0) : level x = 0 ∧ fro n x = x / 2 ∧ til n x = x / 2 + 1 := by
  obtain ⟨h1, h2, h3⟩ := id h
  have := even_fin ⟨n.toNat, by omega⟩ ⟨x.toNat, by omega⟩
  simp only [Int.toNat_of_nonneg h2, Int.toNat_of_nonneg (show 0 ≤ n by omega)] at this
  exact this h (by omega)
end Go.Proofs.Ytopcnkejobomaaa
namespace Go.Proofs.Ytopcnkejobomaaa
open Go.RowKit Go.Lib
def shaH (l : List Int) : H32 := ⟨shaSum l, shaSum_length l, shaSum_range l⟩
theorem ints_h (h : H32) : ints (strOfNums h.1) = h.1 := ints_str _ h.2.2
theorem cat2 (a b : ByteArray) : cat [a, b] = ints a ++ ints b := by simp [cat]
abbrev sleaf : List Int := [108, 101, 97, 102]
abbrev snode : List Int := [110, 111, 100, 101]
def leafB (l : Lf) : List Int := if 0 < l.name then [1] ++ numB l.name ++ l.pub.1 ++ l.ver.1 ++ l.abv.1 else [0]
def parentB (p : Pn) : List Int := if p.set = true then [1] ++ p.pub.1 ++ p.abv.1 ++ numB p.loose.length ++ p.loose.flatMap numB else [0]
def leafAt (t : Tr) (i : Int) : Lf := t.ls.getD i.toNat Lf.zero
def parAt (t : Tr) (i : Int) : Pn := t.ps.getD i.toNat Pn.zero
def hAt : Nat → Tr → Int → H32
  | 0, t, x => shaH (sleaf ++ leafB (leafAt t (x / 2)))
  | f + 1, t, x => if x % 2 = 0 then shaH (sleaf ++ leafB (leafAt t (x / 2))) else shaH (snode ++ (parentB (parAt t (x / 2)) ++ (hAt f t (lf t.size x)).1 ++ (hAt f t (rt t.size x)).1))
theorem hAt_leaf {f : Nat} {t : Tr} {x : Int} (h : x % 2 = 0) : hAt f t x = shaH (sleaf ++ leafB (leafAt t (x / 2))) := by
  cases f with
  | zero => rfl
  | succ f => rw [hAt, if_pos h]
structure Tr.Gd (t : Tr) : Prop where
  len : 1 ≤ t.ls.length ∧ t.ls.length ≤ 64 ∧ t.ps.length + 1 = t.ls.length
  nm : ∀ l ∈ t.ls, 0 ≤ l.name ∧ l.name ≤ 64
  lo : ∀ p ∈ t.ps, p.loose.length ≤ 64 ∧ ∀ q ∈ p.loose, 0 ≤ q ∧ q ≤ 64
theorem Tr.Rt.gd {t : Tr} (h : t.Rt) (hn : t.ls ≠ []) : t.Gd := by
  have hl := h.len
  have h0 : 0 < t.ls.length := List.length_pos_iff.2 hn
  refine ⟨by omega, fun l hm => ?_, fun p hp => ⟨(h.loose p hp).1, fun q hq => ?_⟩⟩
  · rcases leavesB_spec h.leaves l hm with rfl | h
    · simp [Lf.zero]
    · omega
  · obtain ⟨i, hi, rfl⟩ := List.getElem_of_mem hp
    have := hld_rng ((looseB_spec (parB_spec h.par i hi).2).1 q hq).1
    unfold Tr.size at this
    omega
theorem byt_len {f : Int → List Int} {l : List Int} {k : Nat} (h : ∀ x ∈ l, (f x).length ≤ k) : (l.flatMap f).length ≤ l.length * k := by
  induction l with
  | nil => simp
  | cons x r ih =>
    have h1 := h x (List.mem_cons_self ..)
    have h2 := ih fun y hy => h y (List.mem_cons_of_mem _ hy)
    simp only [List.flatMap_cons, List.length_append, List.length_cons, Nat.succ_mul]
    omega
theorem leafB_len (l : Lf) : (leafB l).length ≤ 105 := by
  have := numB_length l.name
  unfold leafB
  split
  · simp [l.pub.2.1, l.ver.2.1, l.abv.2.1]
    omega
  · simp
theorem parentB_len {p : Pn} (h : p.loose.length ≤ 64) : (parentB p).length ≤ 600 := by
  have := numB_length p.loose.length
  have h2 := byt_len (f := numB) (l := p.loose) (k := 8) fun x _ => (numB_length x).1
  unfold parentB
  split
  · simp only [List.length_append, p.pub.2.1, p.abv.2.1, List.length_singleton]
    omega
  · simp
end Go.Proofs.Ytopcnkejobomaaa
