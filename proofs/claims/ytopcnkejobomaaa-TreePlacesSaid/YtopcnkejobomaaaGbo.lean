/- Bough, plainly: nodes of a left-balanced tree; the program's ways to them, the document's, and that these are the same. -/
import Derived.Test.YtopcnkejobomaaaMby
import Derived.Test.YtopcnkejobomaaaF
import Derived.Test.YtopcnkejobomaaaMse
import Derived.Test.YtopcnkejobomaaaMpn
import Derived.RangeFuncBox
import Derived.RangeFuncLeaves
import Derived.Shelf.Abstract
import Derived.WalkKit
import Derived.OwnWalkIn
import Derived.TacticsInMore
import Derived.LoopNIn
import Derived.LoopIn
import Derived.Maps.AppendAt
namespace Go.Proofs.Ytopcnkejobomaaa
open Go.RowKit

def lev : Nat → Int → Int
  | 0, _ => 0
  | f + 1, x => if x % 2 = 1 then lev f (x / 2) + 1 else 0
def level (x : Int) : Int := lev 8 x
def thr (n x : Int) : Prop := (1 ≤ n ∧ n ≤ 64) ∧ 0 ≤ x ∧ x ≤ 2 * n - 2
instance (n x : Int) : Decidable (thr n x) := by unfold thr; infer_instance
def pw (k : Int) : Int := 2 ^ k.toNat
def rtN (n : Int) : Int := if n ≤ 1 then 1 else if n ≤ 2 then 2 else if n ≤ 4 then 4 else if n ≤ 8 then 8 else if n ≤ 16 then 16 else if n ≤ 32 then 32 else 64
def root (n : Int) : Int := if thr n 0 then rtN n - 1 else -1
def pLeft (n x : Int) : Int := if thr n x ∧ level x ≠ 0 then x - pw (level x - 1) else -1
def rg : Nat → Int → Int → Int
  | 0, _, x => x
  | f + 1, n, x => if thr n x then x else rg f n (x - pw (level x - 1))
/-- The way ends in time, by nodes that are. -/
def okr : Nat → Int → Int → Bool
  | 0, _, _ => false
  | f + 1, n, x => decide (0 ≤ x ∧ x < 128) && (decide (thr n x) || (decide (1 ≤ level x) && okr f n (x - pw (level x - 1))))
def pRight (n x : Int) : Int := if thr n x ∧ level x ≠ 0 then rg 8 n (x + pw (level x - 1)) else -1
def up1 (x : Int) : Int := x - x / pw (level x + 1) % 2 * pw (level x + 1) + pw (level x)
def ug : Nat → Int → Int → Int
  | 0, _, x => x
  | f + 1, n, x => if thr n (up1 x) then up1 x else ug f n (up1 x)
def oku : Nat → Int → Int → Bool
  | 0, _, _ => false
  | f + 1, n, x => decide (0 ≤ x ∧ x < 128) && (decide (thr n (up1 x)) || oku f n (up1 x))
def pAbove (n x : Int) : Int := if thr n x ∧ x ≠ root n then ug 8 n x else -1
def pBeside (n x : Int) : Int := if pAbove n x < 0 then -1 else if x < pAbove n x then pRight n (pAbove n x) else pLeft n (pAbove n x)
def pFrom (n x : Int) : Int := if thr n x then (x + 1 - pw (level x)) / 2 else 0
def pTo (n x : Int) : Int := if thr n x then min ((x + 1 + pw (level x)) / 2) n else 0

/-! The document's. -/
def halfI (n : Int) : Int := if n ≤ 2 then 1 else if n ≤ 4 then 2 else if n ≤ 8 then 4 else if n ≤ 16 then 8 else if n ≤ 32 then 16 else 32
def rootI (a n : Int) : Int := if n = 1 then 2 * a else 2 * (a + halfI n) - 1
def fnd : Nat → Int → Int → Int → Int → Int → Int × Int × Int × Int
  | 0, a, n, _, p, b => (a, n, p, b)
  | f + 1, a, n, x, p, b => if rootI a n = x then (a, n, p, b) else if x < rootI a n then fnd f a (halfI n) x (rootI a n) (rootI (a + halfI n) (n - halfI n)) else fnd f (a + halfI n) (n - halfI n) x (rootI a n) (rootI a (halfI n))
def fd (n x : Int) : Int × Int × Int × Int := fnd 7 0 n x (-1) (-1)
def rRoot (n : Int) : Int := if thr n 0 then rootI 0 n else -1
def lf (n x : Int) : Int := if thr n x then (if (fd n x).2.1 = 1 then -1 else rootI (fd n x).1 (halfI (fd n x).2.1)) else -1
def rt (n x : Int) : Int := if thr n x then (if (fd n x).2.1 = 1 then -1 else rootI ((fd n x).1 + halfI (fd n x).2.1) ((fd n x).2.1 - halfI (fd n x).2.1)) else -1
def ab (n x : Int) : Int := if thr n x then (fd n x).2.2.1 else -1
def bs (n x : Int) : Int := if thr n x then (fd n x).2.2.2 else -1
def fro (n x : Int) : Int := if thr n x then (fd n x).1 else 0
def til (n x : Int) : Int := if thr n x then (fd n x).1 + (fd n x).2.1 else 0
def hld (n x p : Int) : Prop := fro n x ≤ p ∧ p < til n x
instance (n x p : Int) : Decidable (hld n x p) := by unfold hld; infer_instance
def dirF : Nat → Int → Int → List Int
  | 0, _, _ => []
  | f + 1, n, x => if ab n x < 0 then [] else ab n x :: dirF f n (ab n x)
/-- The nodes above a leaf. -/
def dirL (n l : Int) : List Int := if 0 ≤ l ∧ l < n then dirF 8 n (2 * l) else []

set_option maxRecDepth 100000 in
theorem bough_fin : ∀ n : Fin 65, ∀ x : Fin 127, thr (n.val : Int) (x.val : Int) →
    pLeft n.val x.val = lf n.val x.val ∧ pRight n.val x.val = rt n.val x.val ∧ pAbove n.val x.val = ab n.val x.val ∧ pBeside n.val x.val = bs n.val x.val ∧ pFrom n.val x.val = fro n.val x.val ∧ pTo n.val x.val = til n.val x.val ∧
    (level x.val ≠ 0 → okr 8 n.val (x.val + pw (level x.val - 1)) = true) ∧ ((x.val : Int) ≠ root n.val → oku 8 n.val x.val = true) ∧ root n.val = rRoot n.val := by decide +kernel
end Go.Proofs.Ytopcnkejobomaaa
/- The nodes above a leaf are those that hold it. -/
namespace Go.Proofs.Ytopcnkejobomaaa
open Go.RowKit

def cand (k l : Nat) : Int := (l / 2 ^ k * 2 ^ (k + 1) + 2 ^ k - 1 : Nat)
def cands (n l : Nat) : List Int := ([1, 2, 3, 4, 5, 6].map fun k => cand k l).filter fun x => decide (x ≤ 2 * (n : Int) - 2)
set_option maxRecDepth 100000 in
theorem dir_fin : ∀ n : Fin 65, ∀ l : Fin 64, l.val < n.val → dirL n.val l.val = cands n.val l.val := by decide +kernel
set_option maxRecDepth 100000 in
theorem hold_fin : ∀ i : Fin 63, ∀ l : Fin 64, (1 ≤ level (2 * (i.val : Int) + 1) ∧ level (2 * (i.val : Int) + 1) ≤ 6) ∧ (((2 * (i.val : Int) + 1 + 1 - pw (level (2 * i.val + 1))) / 2 ≤ l.val ∧ (l.val : Int) < (2 * i.val + 1 + 1 + pw (level (2 * i.val + 1))) / 2) ↔ cand (level (2 * i.val + 1)).toNat l.val = 2 * i.val + 1) := by decide +kernel
set_option maxRecDepth 100000 in
theorem cand_fin : ∀ k : Fin 7, ∀ l : Fin 64, 1 ≤ k.val → cand k.val l.val % 2 = 1 ∧ 0 ≤ cand k.val l.val ∧ cand k.val l.val < 127 ∧ level (cand k.val l.val) = k.val := by decide +kernel
def okd : Nat → Int → Int → Bool
  | 0, n, x => decide (ab n x < 0)
  | f + 1, n, x => decide (ab n x < 0) || okd f n (ab n x)
set_option maxRecDepth 100000 in
theorem okd_fin : ∀ n : Fin 65, ∀ x : Fin 127, thr (n.val : Int) (x.val : Int) → okd 8 n.val x.val = true := by decide +kernel
set_option maxRecDepth 100000 in
theorem lvl_fin : ∀ n : Fin 65, ∀ x : Fin 127, thr (n.val : Int) (x.val : Int) → ab n.val x.val < 0 ∨ level x.val < level (ab n.val x.val) ∧ level (ab n.val x.val) ≤ 7 := by decide +kernel
end Go.Proofs.Ytopcnkejobomaaa
/- Bough walked: the program's ways and the document's. -/
namespace Go.Proofs.Ytopcnkejobomaaa
open Go.RowKit Go.Lib

set_option maxRecDepth 100000 in
theorem up_fin : ∀ y : Fin 128, bits .and .i64 y.val 1 = y.val % 2 ∧ bits .or .i64 (bits .andNot .i64 y.val (pw (level y.val + 1))) (pw (level y.val)) = up1 y.val ∧ level (up1 y.val) = level y.val + 1 ∧ pw (level y.val) ≤ y.val + 1 ∧ level y.val ≤ 7 := by decide +kernel
set_option maxRecDepth 100000 in
theorem fd_fin : ∀ n : Fin 65, ∀ x : Fin 127, thr (n.val : Int) (x.val : Int) → 0 ≤ (fd n.val x.val).1 ∧ 1 ≤ (fd n.val x.val).2.1 ∧ (fd n.val x.val).1 + (fd n.val x.val).2.1 ≤ 64 := by decide +kernel
theorem up_eq {x : Int} (h : 0 ≤ x ∧ x < 128) : bits .and .i64 x 1 = x % 2 ∧ bits .or .i64 (bits .andNot .i64 x (pw (level x + 1))) (pw (level x)) = up1 x ∧ level (up1 x) = level x + 1 ∧ pw (level x) ≤ x + 1 ∧ level x ≤ 7 := by
  have := up_fin ⟨x.toNat, by omega⟩
  simpa only [Int.toNat_of_nonneg h.1] using this
theorem fd_eq {n x : Int} (h : thr n x) : 0 ≤ (fd n x).1 ∧ 1 ≤ (fd n x).2.1 ∧ (fd n x).1 + (fd n x).2.1 ≤ 64 := by
  obtain ⟨h1, h2, h3⟩ := id h
  have := fd_fin ⟨n.toNat, by omega⟩ ⟨x.toNat, by omega⟩
  simp only [Int.toNat_of_nonneg h2, Int.toNat_of_nonneg (show 0 ≤ n by omega)] at this
  exact this h
theorem bough_eq {n x : Int} (h : thr n x) : pLeft n x = lf n x ∧ pRight n x = rt n x ∧ pAbove n x = ab n x ∧ pBeside n x = bs n x ∧ pFrom n x = fro n x ∧ pTo n x = til n x ∧
    (level x ≠ 0 → okr 8 n (x + pw (level x - 1)) = true) ∧ (x ≠ root n → oku 8 n x = true) ∧ root n = rRoot n := by
  obtain ⟨h1, h2, h3⟩ := id h
  have := bough_fin ⟨n.toNat, by omega⟩ ⟨x.toNat, by omega⟩
  simp only [Int.toNat_of_nonneg h2, Int.toNat_of_nonneg (show 0 ≤ n by omega)] at this
  exact this h
theorem lev_rng : ∀ (f : Nat) (x : Int), 0 ≤ lev f x ∧ lev f x ≤ f
  | 0, x => by simp [lev]
  | f + 1, x => by
    have := lev_rng f (x / 2)
    unfold lev
    split <;> omega
theorem level_rng (x : Int) : 0 ≤ level x ∧ level x ≤ 8 := lev_rng 8 x
theorem pw_rng {k : Int} (h : k ≤ 9) : 1 ≤ pw k ∧ pw k ≤ 512 := by
  have h2 : (2 : Nat) ^ k.toNat ≤ 2 ^ 9 := Nat.pow_le_pow_right (by decide) (by omega)
  have h3 : 0 < (2 : Nat) ^ k.toNat := Nat.pow_pos (by decide)
  have h4 : pw k = ((2 ^ k.toNat : Nat) : Int) := by unfold pw; push_cast; rfl
  rw [h4]
  omega
instance {P : Program} {t : TypeId} {q : Bool} {k' : IntKind} (b : Int) : StepC P (o_bin .shl t q (.int .i64 1) (.int k' b)) (0 ≤ b ∧ b < 62) (.int .i64 (pw b)) := ⟨fun h => by
  have := p_shl (P := P) t q .i64 k' 1 b h.1 (by show b < 64; omega)
  have h2 : (2 : Nat) ^ b.toNat ≤ 2 ^ 62 := Nat.pow_le_pow_right (by decide) (by omega)
  have h4 : (2 : Int) ^ b.toNat = ((2 ^ b.toNat : Nat) : Int) := by push_cast; rfl
  have h5 : -9223372036854775808 ≤ (2 : Int) ^ b.toNat ∧ (2 : Int) ^ b.toNat < 9223372036854775808 := by
    generalize (2 : Nat) ^ b.toNat = m at h2 h4
    rw [h4]
    omega
  rw [Int.one_mul, wrap_in h5] at this
  exact this⟩
theorem p_andNot {P : Program} (t : TypeId) (c : Bool) (k : IntKind) (a b : Int) : Pur P (o_bin .andNot t c (.int k a) (.int k b)) (.int k (bits .andNot k a b)) := fun w => by
  simp [o_bin, sv, eqGuard, binOp, go_sem]
instance {P : Program} {t : TypeId} {q : Bool} {k : IntKind} (a b : Int) : StepC P (o_bin .andNot t q (.int k a) (.int k b)) True (.int k (bits .andNot k a b)) := ⟨fun _ => p_andNot t q k a b⟩
section
variable {H : Hp} {w0 w : World} {L : List Res}
theorem there_ok (n x : Int) (w : World) : Calls Try.prog 89 #[.int .i64 n, .int .i64 x] w fun en w' => en = .returned (.bool (decide (thr n x))) ∧ St w [] w' := by
  have hM := Mem.start (Fz.of w)
  refine C_bough_there ?_
  unfold F_bough_there
  ((with_reducible (refine mop_cS trivial ?_ ?_)))
  · intro h1
    ((with_reducible (refine mguard_yes ?_; refine mop_c trivial ?_; refine mguard_yes ?_)))
    ((with_reducible (refine mop_cS trivial ?_ ?_)))
    · intro h2
      ((with_reducible (refine mop_c trivial ?_; refine mguard_yes ?_; refine mop_c trivial ?_; refine mguard_yes ?_)))
      ((with_reducible (refine mop_cS trivial ?_ ?_)))
      · intro h3
        ((with_reducible (refine mop_c trivial ?_; refine mguard_yes ?_; refine mop_c trivial ?_; refine mguard_yes ?_; refine mop_c trivial ?_; refine mguard_yes ?_; refine mop_c ?_ ?_)); (focus omega); (with_reducible (refine mguard_yes ?_; refine mop_c ?_ ?_)); (focus omega); (with_reducible (refine mguard_yes ?_)))
        ((with_reducible (refine mop_cS trivial ?_ ?_)))
        · intro h4
          ((with_reducible (refine mop_c trivial ?_)))
          exact ⟨by rw [decide_eq_true (show thr n x from ⟨⟨h1, h2⟩, h3, h4⟩)], hM.st⟩
        · intro h4
          ((with_reducible (refine mop_c trivial ?_)))
          exact ⟨by rw [decide_eq_false (show ¬ thr n x from fun h => h4 h.2.2)], hM.st⟩
      · intro h3
        ((with_reducible (refine mop_c trivial ?_; (iterate 5 refine mguard_n2 ?_); refine mop_c trivial ?_)))
        exact ⟨by rw [decide_eq_false (show ¬ thr n x from fun h => h3 h.2.1)], hM.st⟩
    · intro h2
      ((with_reducible (refine mop_c trivial ?_; refine mguard_n2 ?_; refine mguard_n2 ?_; refine mop_c trivial ?_; (iterate 5 refine mguard_n2 ?_); refine mop_c trivial ?_)))
      exact ⟨by rw [decide_eq_false (show ¬ thr n x from fun h => h2 h.1.2)], hM.st⟩
  · intro h1
    ((with_reducible (refine mguard_n2 ?_; refine mguard_n2 ?_; refine mop_c trivial ?_; refine mguard_n2 ?_; refine mguard_n2 ?_; refine mop_c trivial ?_; (iterate 5 refine mguard_n2 ?_); refine mop_c trivial ?_)))
    exact ⟨by rw [decide_eq_false (show ¬ thr n x from fun h => h1 h.1.1)], hM.st⟩
instance (n x : Int) : PurC Try.prog 89 [.int .i64 n, .int .i64 x] True (.bool (decide (thr n x))) := ⟨fun _ w => there_ok n x w⟩
theorem rthere_ok (n x : Int) (w : World) : Calls Try.prog 50 #[.int .i64 n, .int .i64 x] w fun en w' => en = .returned (.bool (decide (thr n x))) ∧ St w [] w' := by
  have hM := Mem.start (Fz.of w)
  refine C_bevyref07_There ?_
  unfold F_bevyref07_There
  ((with_reducible (refine mop_cS trivial ?_ ?_)))
  · intro h1
    ((with_reducible (refine mguard_yes ?_; refine mop_c trivial ?_; refine mguard_yes ?_)))
    ((with_reducible (refine mop_cS trivial ?_ ?_)))
    · intro h2
      ((with_reducible (refine mop_c trivial ?_; refine mguard_yes ?_; refine mop_c trivial ?_; refine mguard_yes ?_)))
      ((with_reducible (refine mop_cS trivial ?_ ?_)))
      · intro h3
        ((with_reducible (refine mop_c trivial ?_; refine mguard_yes ?_; refine mop_c trivial ?_; refine mguard_yes ?_; refine mop_c trivial ?_; refine mguard_yes ?_; refine mop_c ?_ ?_)); (focus omega); (with_reducible (refine mguard_yes ?_; refine mop_c ?_ ?_)); (focus omega); (with_reducible (refine mguard_yes ?_)))
        ((with_reducible (refine mop_cS trivial ?_ ?_)))
        · intro h4
          ((with_reducible (refine mop_c trivial ?_)))
          exact ⟨by rw [decide_eq_true (show thr n x from ⟨⟨h1, h2⟩, h3, h4⟩)], hM.st⟩
        · intro h4
          ((with_reducible (refine mop_c trivial ?_)))
          exact ⟨by rw [decide_eq_false (show ¬ thr n x from fun h => h4 h.2.2)], hM.st⟩
      · intro h3
        ((with_reducible (refine mop_c trivial ?_; (iterate 5 refine mguard_n2 ?_); refine mop_c trivial ?_)))
        exact ⟨by rw [decide_eq_false (show ¬ thr n x from fun h => h3 h.2.1)], hM.st⟩
    · intro h2
      ((with_reducible (refine mop_c trivial ?_; refine mguard_n2 ?_; refine mguard_n2 ?_; refine mop_c trivial ?_; (iterate 5 refine mguard_n2 ?_); refine mop_c trivial ?_)))
      exact ⟨by rw [decide_eq_false (show ¬ thr n x from fun h => h2 h.1.2)], hM.st⟩
  · intro h1
    ((with_reducible (refine mguard_n2 ?_; refine mguard_n2 ?_; refine mop_c trivial ?_; refine mguard_n2 ?_; refine mguard_n2 ?_; refine mop_c trivial ?_; (iterate 5 refine mguard_n2 ?_); refine mop_c trivial ?_)))
    exact ⟨by rw [decide_eq_false (show ¬ thr n x from fun h => h1 h.1.1)], hM.st⟩
instance (n x : Int) : PurC Try.prog 50 [.int .i64 n, .int .i64 x] True (.bool (decide (thr n x))) := ⟨fun _ w => rthere_ok n x w⟩
theorem level_ok (x : Int) (hx : 0 ≤ x ∧ x < 128) (w : World) : Calls Try.prog 90 #[.int .i64 x] w fun en w' => en = .returned (.int .i64 (level x)) ∧ St w [] w' := by
  have hM := Mem.start (Fz.of w)
  refine C_bough_level ?_
  unfold F_bough_level
  refine ⟨fun v u w' => ∃ (y k : Int) (f : Nat), v = .int .i64 y ∧ u = .int .i64 k ∧ f ≤ 7 ∧ k = 7 - f ∧ 0 ≤ y ∧ y < 2 ^ f ∧ level x = k + lev (f + 1) y ∧ hM.now w', fun _ u _ => match u with | .int _ k => 7 - k.toNat | _ => 0, ⟨x, 0, 7, rfl, rfl, by omega, by omega, hx.1, hx.2, by unfold level; rw [Int.zero_add], hM⟩, ?_⟩
  rintro v u i w2 ⟨y, k, f, rfl, rfl, hf, hk, hy, hy2, hl, hM⟩
  have h7 : (2 : Int) ^ f ≤ 128 := by
    have h2 : (2 : Nat) ^ f ≤ 2 ^ 7 := Nat.pow_le_pow_right (by decide) hf
    have h4 : (2 : Int) ^ f = ((2 ^ f : Nat) : Int) := by push_cast; rfl
    omega
  obtain ⟨hb, _⟩ := up_eq (x := y) (by omega)
  ((with_reducible (refine mop_c trivial ?_)))
  rw [hb]
  ((with_reducible (refine mop_cS trivial ?_ ?_)))
  · intro ho
    cases f with
    | zero => simp at hy2; omega
    | succ f =>
      ((with_reducible (refine mif_true ?_; refine mop_c ?_ ?_)); (focus omega); (with_reducible (refine mop_c ?_ ?_)); (focus omega))
      have hd : y / 2 ^ (1 : Int).toNat = y / 2 := rfl
      rw [hd]
      have hp : (2 : Int) ^ (f + 1) = 2 ^ f * 2 := Int.pow_succ 2 f
      refine ⟨⟨y / 2, k + 1, f, rfl, rfl, by omega, by omega, by omega, by omega, ?_, hM⟩, ?_⟩
      · rw [hl]
        conv => lhs; rw [lev, if_pos ho]
        omega
      · simp only
        omega
  · intro ho
    ((with_reducible (refine mif_false ?_)))
    refine ⟨?_, hM.st⟩
    rw [hl, lev, if_neg ho]
    simp
instance (x : Int) : PurC Try.prog 90 [.int .i64 x] (0 ≤ x ∧ x < 128) (.int .i64 (level x)) := ⟨fun h w => level_ok x h w⟩
theorem broot_ok (n : Int) (w : World) : Calls Try.prog 55 #[.int .i64 n] w fun en w' => en = .returned (.int .i64 (root n)) ∧ St w [] w' := by
  have hM := Mem.start (Fz.of w)
  refine C_bough_Root ?_
  unfold F_bough_Root
  by_cases ht : thr n 0
  · rw [show root n = rtN n - 1 from if_pos ht]
    have hn := ht.1
    ((with_reducible (refine mm_purC hM ?_ ?_)); (focus (first | exact trivial | assumption | omega)); (with_reducible (clear hM; intro _ hM; refine mop_c trivial ?_)))
    rw [decide_eq_true ht]
    ((with_reducible (refine mif_nt ?_)))
    refine ⟨fun v w' => ∃ k : Int, v = .int .i64 k ∧ (k = 1 ∨ k = 2 ∨ k = 4 ∨ k = 8 ∨ k = 16 ∨ k = 32 ∨ k = 64) ∧ (k = 1 ∨ k < 2 * n) ∧ hM.now w', fun v _ => match v with | .int _ k => 100 - k.toNat | _ => 0, ⟨1, rfl, .inl rfl, .inl rfl, hM⟩, ?_⟩
    rintro v i w2 ⟨k, rfl, h1, h2, hM⟩
    ((with_reducible (refine mop_cS trivial ?_ ?_)))
    · intro h
      ((with_reducible (refine mif_true ?_; refine mop_c ?_ ?_)); (focus omega))
      exact ⟨⟨k * 2, rfl, by omega, by omega, hM⟩, by simp only; omega⟩
    · intro h
      ((with_reducible (refine mif_false ?_; refine mop_c ?_ ?_)); (focus omega))
      refine ⟨?_, hM.st⟩
      rw [show rtN n = k by unfold rtN; repeat' split
                            all_goals omega]
  · rw [show root n = -1 from if_neg ht]
    ((with_reducible (refine mm_purC hM ?_ ?_)); (focus (first | exact trivial | assumption | omega)); (with_reducible (clear hM; intro _ hM; refine mop_c trivial ?_)))
    rw [decide_eq_false ht]
    ((with_reducible (refine mif_nf ?_)))
    exact ⟨rfl, hM.st⟩
instance (n : Int) : PurC Try.prog 55 [.int .i64 n] True (.int .i64 (root n)) := ⟨fun _ w => broot_ok n w⟩
theorem half_ok (n : Int) (hn : 1 ≤ n ∧ n ≤ 64) (w : World) : Calls Try.prog 91 #[.int .i64 n] w fun en w' => en = .returned (.int .i64 (halfI n)) ∧ St w [] w' := by
  have hM := Mem.start (Fz.of w)
  refine C_bevyref07_half ?_
  unfold F_bevyref07_half
  refine ⟨fun v w' => ∃ k : Int, v = .int .i64 k ∧ (k = 1 ∨ k = 2 ∨ k = 4 ∨ k = 8 ∨ k = 16 ∨ k = 32) ∧ (k = 1 ∨ k < n) ∧ hM.now w', fun v _ => match v with | .int _ k => 100 - k.toNat | _ => 0, ⟨1, rfl, .inl rfl, .inl rfl, hM⟩, ?_⟩
  rintro v i w2 ⟨k, rfl, h1, h2, hM⟩
  ((with_reducible (refine mop_c ?_ ?_)); (focus omega))
  ((with_reducible (refine mop_cS trivial ?_ ?_)))
  · intro h
    ((with_reducible (refine mif_true ?_; refine mop_c ?_ ?_)); (focus omega))
    exact ⟨⟨2 * k, rfl, by omega, by omega, hM⟩, by simp only; omega⟩
  · intro h
    ((with_reducible (refine mif_false ?_)))
    refine ⟨?_, hM.st⟩
    rw [show halfI n = k by unfold halfI; repeat' split
                            all_goals omega]
instance (n : Int) : PurC Try.prog 91 [.int .i64 n] (1 ≤ n ∧ n ≤ 64) (.int .i64 (halfI n)) := ⟨fun h w => half_ok n h w⟩
theorem half_b {n : Int} (h : 1 ≤ n ∧ n ≤ 64) : 1 ≤ halfI n ∧ halfI n ≤ 32 ∧ (2 ≤ n → halfI n < n) ∧ n ≤ 2 * halfI n := by
  unfold halfI
  repeat' split
  all_goals omega
theorem rroot_ok (a n : Int) (h : (0 ≤ a ∧ a ≤ 100) ∧ 1 ≤ n ∧ n ≤ 64) (w : World) : Calls Try.prog 51 #[.int .i64 a, .int .i64 n] w fun en w' => en = .returned (.int .i64 (rootI a n)) ∧ St w [] w' := by
  have hM := Mem.start (Fz.of w)
  refine C_bevyref07_root ?_
  unfold F_bevyref07_root rootI
  have hb := half_b h.2
  ((with_reducible (refine mop_cS trivial ?_ ?_)))
  · intro h1
    ((with_reducible (refine mif_true ?_; refine mop_c ?_ ?_)); (focus omega))
    exact ⟨by rw [if_pos h1], hM.st⟩
  · intro h1
    ((with_reducible (refine mif_false ?_; refine mm_purC hM ?_ ?_)); (focus (first | exact trivial | assumption | omega)); (with_reducible (clear hM; intro _ hM; refine mop_c ?_ ?_)); (focus omega); (with_reducible (refine mop_c ?_ ?_)); (focus omega); (with_reducible (refine mop_c ?_ ?_)); (focus omega))
    exact ⟨by rw [if_neg h1], hM.st⟩
instance (a n : Int) : PurC Try.prog 51 [.int .i64 a, .int .i64 n] ((0 ≤ a ∧ a ≤ 100) ∧ 1 ≤ n ∧ n ≤ 64) (.int .i64 (rootI a n)) := ⟨fun h w => rroot_ok a n h w⟩
def okf : Nat → Int → Bool
  | 0, n => decide (n = 1)
  | f + 1, n => decide (n = 1) || (okf f (halfI n) && okf f (n - halfI n))
set_option maxRecDepth 100000 in
theorem okf_fin : ∀ n : Fin 65, 1 ≤ n.val → okf 6 n.val = true := by decide +kernel
theorem find_ok : ∀ (f : Nat) (a n x p b : Int), okf f n = true → 0 ≤ a → 1 ≤ n → a + n ≤ 64 → 2 * a ≤ x → x ≤ 2 * (a + n) - 2 → ∀ w, Calls Try.prog 92 #[.int .i64 a, .int .i64 n, .int .i64 x, .int .i64 p, .int .i64 b] w fun en w' => en = .returned (.tuple #[.int .i64 (fnd (f + 1) a n x p b).1, .int .i64 (fnd (f + 1) a n x p b).2.1, .int .i64 (fnd (f + 1) a n x p b).2.2.1, .int .i64 (fnd (f + 1) a n x p b).2.2.2]) ∧ St w [] w' := by
  intro f
  induction f with
  | zero =>
    intro a n x p b ho ha hn hs hx hy w
    have hM := Mem.start (Fz.of w)
    have h1 : n = 1 := by simpa [okf] using ho
    subst h1
    have hr : rootI a 1 = x := by unfold rootI; rw [if_pos rfl]; omega
    refine C_bevyref07_find ?_
    unfold F_bevyref07_find
    ((with_reducible (refine mm_purC hM ?_ ?_)); (focus (first | exact trivial | assumption | omega)); (with_reducible (clear hM; intro _ hM; refine mop_cT trivial ?_ ?_)); (focus (first | assumption | omega | with_reducible rfl | exact fun h => Bool.noConfusion h)); (with_reducible (refine mif_true ?_)))
    exact ⟨by simp only [fnd, if_pos hr], hM.st⟩
  | succ f ih =>
    intro a n x p b ho ha hn hs hx hy w
    have hM := Mem.start (Fz.of w)
    refine C_bevyref07_find ?_
    unfold F_bevyref07_find
    by_cases hr : rootI a n = x
    · ((with_reducible (refine mm_purC hM ?_ ?_)); (focus (first | exact trivial | assumption | omega)); (with_reducible (clear hM; intro _ hM; refine mop_cT trivial ?_ ?_)); (focus (first | assumption | omega | with_reducible rfl | exact fun h => Bool.noConfusion h)); (with_reducible (refine mif_true ?_)))
      exact ⟨by simp only [fnd, if_pos hr], hM.st⟩
    · have h1 : n ≠ 1 := by
        rintro rfl
        apply hr
        unfold rootI
        rw [if_pos rfl]
        omega
      have hre : rootI a n = 2 * (a + halfI n) - 1 := by unfold rootI; rw [if_neg h1]
      obtain ⟨b1, b2, b3, b4⟩ := half_b (n := n) (by omega)
      have b3 := b3 (by omega)
      simp only [okf, Bool.or_eq_true, decide_eq_true_eq, Bool.and_eq_true] at ho
      have ho := ho.resolve_left h1
      have e1 : fnd (f + 1 + 1) a n x p b = if x < rootI a n then fnd (f + 1) a (halfI n) x (rootI a n) (rootI (a + halfI n) (n - halfI n)) else fnd (f + 1) (a + halfI n) (n - halfI n) x (rootI a n) (rootI a (halfI n)) := by
        conv => lhs; rw [fnd, if_neg hr]
      ((with_reducible (refine mm_purC hM ?_ ?_)); (focus (first | exact trivial | assumption | omega)); (with_reducible (clear hM; intro _ hM; refine mop_cF trivial ?_ ?_)); (focus (first | assumption | omega | with_reducible rfl | exact fun h => Bool.noConfusion h)); (with_reducible (refine mif_false ?_; refine mm_purC hM ?_ ?_)); (focus (first | exact trivial | assumption | omega)); (with_reducible (clear hM; intro _ hM; refine mm_purC hM ?_ ?_)); (focus (first | exact trivial | assumption | omega)); (with_reducible (clear hM; intro _ hM; refine mop_c ?_ ?_)); (focus omega); (with_reducible (refine mop_c ?_ ?_)); (focus omega); (with_reducible (refine mm_purC hM ?_ ?_)); (focus (first | exact trivial | assumption | omega)); (with_reducible (clear hM; intro _ hM)))
      ((with_reducible (refine mop_cS trivial ?_ ?_)))
      · intro hl
        rw [if_pos hl] at e1
        ((with_reducible (refine mif_true ?_)))
        refine mm_pure hM (ih a (halfI n) x _ _ ho.1 ha b1 (by omega) hx (by omega) _) (fun w hM => ?_)
        skip
        rw [e1]
        exact ⟨rfl, hM.st⟩
      · intro hl
        rw [if_neg hl] at e1
        ((with_reducible (refine mif_false ?_; refine mop_c ?_ ?_)); (focus omega); (with_reducible (refine mop_c ?_ ?_)); (focus omega))
        refine mm_pure hM (ih (a + halfI n) (n - halfI n) x _ _ ho.2 (by omega) (by omega) (by omega) (by omega) (by omega) _) (fun w hM => ?_)
        skip
        rw [e1]
        exact ⟨rfl, hM.st⟩
theorem fd_ok (n x : Int) (h : thr n x) (w : World) : Calls Try.prog 92 #[.int .i64 0, .int .i64 n, .int .i64 x, .int .i64 (-1), .int .i64 (-1)] w fun en w' => en = .returned (.tuple #[.int .i64 (fd n x).1, .int .i64 (fd n x).2.1, .int .i64 (fd n x).2.2.1, .int .i64 (fd n x).2.2.2]) ∧ St w [] w' := by
  obtain ⟨h1, h2, h3⟩ := h
  have := okf_fin ⟨n.toNat, by omega⟩ (by simp only; omega)
  simp only [Int.toNat_of_nonneg (show 0 ≤ n by omega)] at this
  exact find_ok 6 0 n x (-1) (-1) this (by omega) (by omega) (by omega) (by omega) (by omega) w
instance (n x : Int) : PurC Try.prog 92 [.int .i64 0, .int .i64 n, .int .i64 x, .int .i64 (-1), .int .i64 (-1)] (thr n x) (.tuple #[.int .i64 (fd n x).1, .int .i64 (fd n x).2.1, .int .i64 (fd n x).2.2.1, .int .i64 (fd n x).2.2.2]) := ⟨fun h w => fd_ok n x h w⟩
end
end Go.Proofs.Ytopcnkejobomaaa
/- Bough walked: left, right, above, beside, leaves, holds. -/
namespace Go.Proofs.Ytopcnkejobomaaa
open Go.RowKit Go.Lib

set_option maxRecDepth 100000 in
theorem ab_fin : ∀ n : Fin 65, ∀ x : Fin 127, thr (n.val : Int) (x.val : Int) → ab n.val x.val < 0 ∨ thr n.val (ab n.val x.val) := by decide +kernel
theorem ab_thr {n x : Int} (h : thr n x) (ha : ¬ ab n x < 0) : thr n (ab n x) := by
  obtain ⟨h1, h2, h3⟩ := id h
  have := ab_fin ⟨n.toNat, by omega⟩ ⟨x.toNat, by omega⟩
  simp only [Int.toNat_of_nonneg h2, Int.toNat_of_nonneg (show 0 ≤ n by omega)] at this
  exact (this h).resolve_left ha
instance {P : Program} (a b c d : Value) : StepC P (o_extract (.tuple #[a, b, c, d]) 0) True a := ⟨fun _ => p_extract [a, b, c, d] 0 a rfl⟩
instance {P : Program} (a b c d : Value) : StepC P (o_extract (.tuple #[a, b, c, d]) 1) True b := ⟨fun _ => p_extract [a, b, c, d] 1 b rfl⟩
instance {P : Program} (a b c d : Value) : StepC P (o_extract (.tuple #[a, b, c, d]) 2) True c := ⟨fun _ => p_extract [a, b, c, d] 2 c rfl⟩
instance {P : Program} (a b c d : Value) : StepC P (o_extract (.tuple #[a, b, c, d]) 3) True d := ⟨fun _ => p_extract [a, b, c, d] 3 d rfl⟩
theorem min_if (a n : Int) : min a n = if n < a then n else a := by split <;> omega
section
variable {H : Hp} {w0 w : World} {L : List Res}
theorem lf_of {n x : Int} (h : ¬ thr n x) : lf n x = -1 := if_neg h
theorem rt_of {n x : Int} (h : ¬ thr n x) : rt n x = -1 := if_neg h
theorem ab_of {n x : Int} (h : ¬ thr n x) : ab n x = -1 := if_neg h
theorem bs_of {n x : Int} (h : ¬ thr n x) : bs n x = -1 := if_neg h
theorem fro_of {n x : Int} (h : ¬ thr n x) : fro n x = 0 := if_neg h
theorem til_of {n x : Int} (h : ¬ thr n x) : til n x = 0 := if_neg h
theorem bleft_ok (n x : Int) (w : World) : Calls Try.prog 48 #[.int .i64 n, .int .i64 x] w fun en w' => en = .returned (.int .i64 (lf n x)) ∧ St w [] w' := by
  have hM := Mem.start (Fz.of w)
  refine C_bough_Left ?_
  unfold F_bough_Left
  refine ⟨fun v w' => v = .int .i64 (if thr n x then level x else 0) ∧ hM.now w', ?_, ?_⟩
  · by_cases ht : thr n x
    · obtain ⟨h1, h2, h3⟩ := id ht
      ((with_reducible (refine mm_purC hM ?_ (fun _ hM2 => ?_))); (focus (first | exact trivial | assumption | omega)); (with_reducible (replace hM := hM2; clear hM2)))
      rw [decide_eq_true ht]
      ((with_reducible (refine mif_true ?_; refine mm_purC hM ?_ ?_)); (focus (first | exact trivial | assumption | omega)); (with_reducible (clear hM; intro _ hM)))
      exact ⟨by rw [if_pos ht], hM⟩
    · ((with_reducible (refine mm_purC hM ?_ (fun _ hM2 => ?_))); (focus (first | exact trivial | assumption | omega)); (with_reducible (replace hM := hM2; clear hM2)))
      rw [decide_eq_false ht]
      ((with_reducible (refine mif_false ?_)))
      exact ⟨by rw [if_neg ht], hM⟩
  rintro v u w2 ⟨rfl, hM⟩
  by_cases ht : thr n x
  · obtain ⟨h1, h2, h3⟩ := id ht
    rw [if_pos ht]
    have hl := level_rng x
    rw [← (bough_eq ht).1]
    ((with_reducible (refine mop_cS trivial ?_ ?_)))
    · intro h
      ((with_reducible (refine mif_true ?_)))
      exact ⟨by unfold pLeft; rw [if_neg (fun h' => h'.2 h)], hM.st⟩
    · intro h
      have hp := pw_rng (k := level x - 1) (by omega)
      ((with_reducible (refine mif_false ?_; refine mop_c ?_ ?_)); (focus omega); (with_reducible (refine mop_c ?_ ?_)); (focus omega); (with_reducible (refine mop_c ?_ ?_)); (focus omega))
      exact ⟨by unfold pLeft; rw [if_pos ⟨ht, h⟩], hM.st⟩
  · rw [if_neg ht, lf_of ht]
    ((with_reducible (refine mop_cT trivial ?_ ?_)); (focus (first | assumption | omega | with_reducible rfl | exact fun h => Bool.noConfusion h)); (with_reducible (refine mif_true ?_)))
    exact ⟨rfl, hM.st⟩
instance (n x : Int) : PurC Try.prog 48 [.int .i64 n, .int .i64 x] True (.int .i64 (lf n x)) := ⟨fun _ w => bleft_ok n x w⟩
theorem bright_ok (n x : Int) (w : World) : Calls Try.prog 49 #[.int .i64 n, .int .i64 x] w fun en w' => en = .returned (.int .i64 (rt n x)) ∧ St w [] w' := by
  have hM := Mem.start (Fz.of w)
  refine C_bough_Right ?_
  unfold F_bough_Right
  refine ⟨fun v w' => v = .int .i64 (if thr n x then level x else 0) ∧ hM.now w', ?_, ?_⟩
  · by_cases ht : thr n x
    · obtain ⟨h1, h2, h3⟩ := id ht
      ((with_reducible (refine mm_purC hM ?_ (fun _ hM2 => ?_))); (focus (first | exact trivial | assumption | omega)); (with_reducible (replace hM := hM2; clear hM2)))
      rw [decide_eq_true ht]
      ((with_reducible (refine mif_true ?_; refine mm_purC hM ?_ ?_)); (focus (first | exact trivial | assumption | omega)); (with_reducible (clear hM; intro _ hM)))
      exact ⟨by rw [if_pos ht], hM⟩
    · ((with_reducible (refine mm_purC hM ?_ (fun _ hM2 => ?_))); (focus (first | exact trivial | assumption | omega)); (with_reducible (replace hM := hM2; clear hM2)))
      rw [decide_eq_false ht]
      ((with_reducible (refine mif_false ?_)))
      exact ⟨by rw [if_neg ht], hM⟩
  rintro v u w2 ⟨rfl, hM⟩
  by_cases ht : thr n x
  · obtain ⟨h1, h2, h3⟩ := id ht
    rw [if_pos ht]
    have hl := level_rng x
    obtain ⟨-, hR, -, -, -, -, hk, -, -⟩ := bough_eq ht
    rw [← hR]
    ((with_reducible (refine mop_cS trivial ?_ ?_)))
    · intro h
      ((with_reducible (refine mif_true ?_)))
      exact ⟨by unfold pRight; rw [if_neg (fun h' => h'.2 h)], hM.st⟩
    · intro h
      have hp := pw_rng (k := level x - 1) (by omega)
      have hk := hk h
      ((with_reducible (refine mif_false ?_; refine mop_c ?_ ?_)); (focus omega); (with_reducible (refine mop_c ?_ ?_)); (focus omega); (with_reducible (refine mop_c ?_ ?_)); (focus omega))
      rw [show pRight n x = rg 8 n (x + pw (level x - 1)) from if_pos ⟨ht, h⟩]
      refine ⟨fun v w' => ∃ (f : Nat) (y : Int), v = .int .i64 y ∧ okr f n y = true ∧ rg 8 n (x + pw (level x - 1)) = rg f n y ∧ hM.now w', fun v _ => match v with | .int _ k => k.toNat | _ => 0, ⟨8, _, rfl, hk, rfl, hM⟩, ?_⟩
      rintro v i w2 ⟨f, y, rfl, ho, he, hM⟩
      cases f with
      | zero => simp [okr] at ho
      | succ f =>
        simp only [okr, Bool.and_eq_true, Bool.or_eq_true, decide_eq_true_eq] at ho
        obtain ⟨hy, ho⟩ := ho
        by_cases hty : thr n y
        · ((with_reducible (refine mm_purC hM ?_ ?_)); (focus (first | exact trivial | assumption | omega)); (with_reducible (clear hM; intro _ hM; refine mop_c trivial ?_)))
          rw [decide_eq_true hty]
          ((with_reducible (refine mif_nt ?_)))
          exact ⟨by rw [he, rg, if_pos hty], hM.st⟩
        · obtain ⟨hl1, ho⟩ := ho.resolve_left hty
          have hl := level_rng y
          have hp := pw_rng (k := level y - 1) (by omega)
          ((with_reducible (refine mm_purC hM ?_ ?_)); (focus (first | exact trivial | assumption | omega)); (with_reducible (clear hM; intro _ hM; refine mop_c trivial ?_)))
          rw [decide_eq_false hty]
          ((with_reducible (refine mif_nf ?_; refine mm_purC hM ?_ ?_)); (focus (first | exact trivial | assumption | omega)); (with_reducible (clear hM; intro _ hM; refine mop_c ?_ ?_)); (focus omega); (with_reducible (refine mop_c ?_ ?_)); (focus omega); (with_reducible (refine mop_c ?_ ?_)); (focus omega))
          refine ⟨⟨f, _, rfl, ho, by rw [he, rg, if_neg hty], hM⟩, ?_⟩
          cases f with
          | zero => simp [okr] at ho
          | succ f =>
            simp only [okr, Bool.and_eq_true, decide_eq_true_eq] at ho
            simp only
            omega
  · rw [if_neg ht, rt_of ht]
    ((with_reducible (refine mop_cT trivial ?_ ?_)); (focus (first | assumption | omega | with_reducible rfl | exact fun h => Bool.noConfusion h)); (with_reducible (refine mif_true ?_)))
    exact ⟨rfl, hM.st⟩
instance (n x : Int) : PurC Try.prog 49 [.int .i64 n, .int .i64 x] True (.int .i64 (rt n x)) := ⟨fun _ w => bright_ok n x w⟩
theorem babove_ok (n x : Int) (w : World) : Calls Try.prog 109 #[.int .i64 n, .int .i64 x] w fun en w' => en = .returned (.int .i64 (ab n x)) ∧ St w [] w' := by
  have hM := Mem.start (Fz.of w)
  refine C_bough_Above ?_
  unfold F_bough_Above
  refine ⟨fun v w' => v = .bool (decide (¬ thr n x ∨ x = root n)) ∧ hM.now w', ?_, ?_⟩
  · by_cases ht : thr n x
    · ((with_reducible (refine mm_purC hM ?_ (fun _ hM2 => ?_))); (focus (first | exact trivial | assumption | omega)); (with_reducible (replace hM := hM2; clear hM2; refine mop_c trivial ?_)))
      rw [decide_eq_true ht, Bool.not_true]
      ((with_reducible (refine mguard_yes ?_; refine mop_c trivial ?_; refine mguard_yes ?_; refine mop_c trivial ?_; refine mguard_yes ?_; refine mm_purC hM ?_ ?_)); (focus (first | exact trivial | assumption | omega)); (with_reducible (clear hM; intro _ hM; refine mguard_yes ?_)))
      ((with_reducible (refine mop_cS trivial ?_ ?_)))
      · intro h
        ((with_reducible (refine mop_c trivial ?_)))
        exact ⟨by rw [decide_eq_true (.inr h)], hM⟩
      · intro h
        ((with_reducible (refine mop_c trivial ?_)))
        exact ⟨by rw [decide_eq_false (by simp [ht, h])], hM⟩
    · ((with_reducible (refine mm_purC hM ?_ (fun _ hM2 => ?_))); (focus (first | exact trivial | assumption | omega)); (with_reducible (replace hM := hM2; clear hM2; refine mop_c trivial ?_)))
      rw [decide_eq_false ht, Bool.not_false]
      ((with_reducible ((iterate 4 refine mguard_n1 ?_); refine mop_c trivial ?_)))
      exact ⟨by rw [decide_eq_true (.inl ht)], hM⟩
  rintro v u w2 ⟨rfl, hM⟩
  by_cases ht : thr n x
  · obtain ⟨-, -, hA, -, -, -, -, hu, -⟩ := bough_eq ht
    rw [← hA]
    by_cases hr : x = root n
    · rw [decide_eq_true (.inr hr)]
      ((with_reducible (refine mif_true ?_)))
      exact ⟨by unfold pAbove; rw [if_neg (fun h => h.2 hr)], hM.st⟩
    · rw [decide_eq_false (by simp [ht, hr])]
      have hu := hu hr
      ((with_reducible (refine mif_false ?_)))
      rw [show pAbove n x = ug 8 n x from if_pos ⟨ht, hr⟩]
      refine ⟨fun v w' => ∃ (f : Nat) (y : Int), v = .int .i64 y ∧ oku f n y = true ∧ ug 8 n x = ug f n y ∧ hM.now w', fun v _ => match v with | .int _ k => (8 - level k).toNat | _ => 0, ⟨8, _, rfl, hu, rfl, hM⟩, ?_⟩
      rintro v i w2 ⟨f, y, rfl, ho, he, hM⟩
      cases f with
      | zero => simp [oku] at ho
      | succ f =>
        simp only [oku, Bool.and_eq_true, Bool.or_eq_true, decide_eq_true_eq] at ho
        obtain ⟨hy, ho⟩ := ho
        obtain ⟨-, hb, hv, -, h7⟩ := up_eq hy
        have hl := level_rng y
        ((with_reducible (refine mm_purC hM ?_ ?_)); (focus (first | exact trivial | assumption | omega)); (with_reducible (clear hM; intro _ hM; refine dp_c ?_ ?_)); (focus omega); (with_reducible (refine dp_c ?_ ?_)); (focus omega); (with_reducible (refine dp_c trivial ?_; refine dp_c ?_ ?_)); (focus omega); (with_reducible (refine dp_c trivial ?_; refine mm_end hM ?_; clear hM; intro _ hM; refine mm_purC hM ?_ ?_)); (focus (first | exact trivial | assumption | omega)); (with_reducible (clear hM; intro _ hM)))
        rw [hb]
        by_cases hty : thr n (up1 y)
        · skip
          rw [decide_eq_true hty]
          ((with_reducible (refine mif_true ?_)))
          exact ⟨by rw [he, ug, if_pos hty], hM.st⟩
        · have ho := ho.resolve_left hty
          skip
          rw [decide_eq_false hty]
          ((with_reducible (refine mif_false ?_)))
          refine ⟨⟨f, _, rfl, ho, by rw [he, ug, if_neg hty], hM⟩, ?_⟩
          simp only
          omega
  · rw [decide_eq_true (.inl ht), ab_of ht]
    ((with_reducible (refine mif_true ?_)))
    exact ⟨rfl, hM.st⟩
instance (n x : Int) : PurC Try.prog 109 [.int .i64 n, .int .i64 x] True (.int .i64 (ab n x)) := ⟨fun _ w => babove_ok n x w⟩
theorem bbeside_ok (n x : Int) (w : World) : Calls Try.prog 63 #[.int .i64 n, .int .i64 x] w fun en w' => en = .returned (.int .i64 (bs n x)) ∧ St w [] w' := by
  have hM := Mem.start (Fz.of w)
  refine C_bough_Beside ?_
  unfold F_bough_Beside
  by_cases ht : thr n x
  · obtain ⟨-, -, hA, hB, -⟩ := bough_eq ht
    rw [← hB]
    unfold pBeside
    rw [hA]
    ((with_reducible (refine mm_purC hM ?_ ?_)); (focus (first | exact trivial | assumption | omega)); (with_reducible (clear hM; intro _ hM)))
    ((with_reducible (refine mop_cS trivial ?_ ?_)))
    · intro h
      ((with_reducible (refine mif_true ?_)))
      exact ⟨by rw [if_pos h], hM.st⟩
    · intro h
      rw [if_neg h]
      have hta : thr n (ab n x) := ab_thr ht h
      obtain ⟨hl, hr, -⟩ := bough_eq hta
      rw [hl, hr]
      ((with_reducible (refine mif_false ?_)))
      ((with_reducible (refine mop_cS trivial ?_ ?_)))
      · intro h2
        ((with_reducible (refine mif_true ?_; refine mm_purC hM ?_ ?_)); (focus (first | exact trivial | assumption | omega)); (with_reducible (clear hM; intro _ hM)))
        exact ⟨by rw [if_pos h2], hM.st⟩
      · intro h2
        ((with_reducible (refine mif_false ?_; refine mm_purC hM ?_ ?_)); (focus (first | exact trivial | assumption | omega)); (with_reducible (clear hM; intro _ hM)))
        exact ⟨by rw [if_neg h2], hM.st⟩
  · rw [bs_of ht]
    have := ab_of ht
    ((with_reducible (refine mm_purC hM ?_ ?_)); (focus (first | exact trivial | assumption | omega)); (with_reducible (clear hM; intro _ hM; refine mop_cT trivial ?_ ?_)); (focus (first | assumption | omega | with_reducible rfl | exact fun h => Bool.noConfusion h)); (with_reducible (refine mif_true ?_)))
    exact ⟨rfl, hM.st⟩
instance (n x : Int) : PurC Try.prog 63 [.int .i64 n, .int .i64 x] True (.int .i64 (bs n x)) := ⟨fun _ w => bbeside_ok n x w⟩
theorem bleaves_ok (n x : Int) (w : World) : Calls Try.prog 111 #[.int .i64 n, .int .i64 x] w fun en w' => en = .returned (.tuple #[.int .i64 (fro n x), .int .i64 (til n x)]) ∧ St w [] w' := by
  have hM := Mem.start (Fz.of w)
  refine C_bough_Leaves ?_
  unfold F_bough_Leaves
  by_cases ht : thr n x
  · obtain ⟨h1, h2, h3⟩ := id ht
    obtain ⟨-, -, -, -, hF, hT, -⟩ := bough_eq ht
    obtain ⟨-, -, -, hq, h7⟩ := up_eq (x := x) (by omega)
    have hl := level_rng x
    have hp := pw_rng (k := level x) (by omega)
    rw [← hF, ← hT]
    unfold pFrom pTo
    rw [if_pos ht, if_pos ht, min_if]
    ((with_reducible (refine mm_purC hM ?_ ?_)); (focus (first | exact trivial | assumption | omega)); (with_reducible (clear hM; intro _ hM; refine mop_c trivial ?_)))
    rw [decide_eq_true ht]
    ((with_reducible (refine mif_nt ?_; refine mm_purC hM ?_ ?_)); (focus (first | exact trivial | assumption | omega)); (with_reducible (clear hM; intro _ hM; refine mop_c ?_ ?_)); (focus omega); (with_reducible (refine mop_c ?_ ?_)); (focus omega); (with_reducible (refine mop_c ?_ ?_)); (focus omega); (with_reducible (refine mop_c ?_ ?_)); (focus omega); (with_reducible (refine mop_c ?_ ?_)); (focus omega); (with_reducible (refine mop_c ?_ ?_)); (focus omega); (with_reducible (refine mop_c ?_ ?_)); (focus omega))
    exact ⟨rfl, hM.st⟩
  · rw [fro_of ht, til_of ht]
    ((with_reducible (refine mm_purC hM ?_ ?_)); (focus (first | exact trivial | assumption | omega)); (with_reducible (clear hM; intro _ hM; refine mop_c trivial ?_)))
    rw [decide_eq_false ht]
    ((with_reducible (refine mif_nf ?_)))
    exact ⟨rfl, hM.st⟩
instance (n x : Int) : PurC Try.prog 111 [.int .i64 n, .int .i64 x] True (.tuple #[.int .i64 (fro n x), .int .i64 (til n x)]) := ⟨fun _ w => bleaves_ok n x w⟩
theorem bholds_ok (n x p : Int) (w : World) : Calls Try.prog 68 #[.int .i64 n, .int .i64 x, .int .i64 p] w fun en w' => en = .returned (.bool (decide (hld n x p))) ∧ St w [] w' := by
  have hM := Mem.start (Fz.of w)
  refine C_bough_Holds ?_
  unfold F_bough_Holds
  ((with_reducible (refine mm_purC hM ?_ ?_)); (focus (first | exact trivial | assumption | omega)); (with_reducible (clear hM; intro _ hM; refine mop_c trivial ?_; refine mop_c trivial ?_)))
  ((with_reducible (refine mop_cS trivial ?_ ?_)))
  · intro h1
    ((with_reducible (refine mguard_yes ?_; refine mop_c trivial ?_; refine mguard_yes ?_; refine mop_c trivial ?_; refine mguard_yes ?_)))
    ((with_reducible (refine mop_cS trivial ?_ ?_)))
    · intro h2
      ((with_reducible (refine mop_c trivial ?_)))
      exact ⟨by rw [decide_eq_true (show hld n x p from ⟨h1, h2⟩)], hM.st⟩
    · intro h2
      ((with_reducible (refine mop_c trivial ?_)))
      exact ⟨by rw [decide_eq_false (show ¬ hld n x p from fun h => h2 h.2)], hM.st⟩
  · intro h1
    ((with_reducible ((iterate 3 refine mguard_n2 ?_); refine mop_c trivial ?_)))
    exact ⟨by rw [decide_eq_false (show ¬ hld n x p from fun h => h1 h.1)], hM.st⟩
instance (n x p : Int) : PurC Try.prog 68 [.int .i64 n, .int .i64 x, .int .i64 p] True (.bool (decide (hld n x p))) := ⟨fun _ w => bholds_ok n x p w⟩
/-! The document's. -/
theorem rleft_ok (n x : Int) (w : World) : Calls Try.prog 105 #[.int .i64 n, .int .i64 x] w fun en w' => en = .returned (.int .i64 (lf n x)) ∧ St w [] w' := by
  have hM := Mem.start (Fz.of w)
  refine C_bevyref07_Left ?_
  unfold F_bevyref07_Left
  by_cases ht : thr n x
  · obtain ⟨b1, b2, b3⟩ := fd_eq ht
    rw [show lf n x = (if (fd n x).2.1 = 1 then -1 else rootI (fd n x).1 (halfI (fd n x).2.1)) from if_pos ht]
    have hh := half_b (n := (fd n x).2.1) (by omega)
    ((with_reducible (refine mm_purC hM ?_ ?_)); (focus (first | exact trivial | assumption | omega)); (with_reducible (clear hM; intro _ hM; refine mop_c trivial ?_)))
    rw [decide_eq_true ht]
    ((with_reducible (refine mif_nt ?_; refine mm_purC hM ?_ ?_)); (focus (first | exact trivial | assumption | omega)); (with_reducible (clear hM; intro _ hM; (iterate 4 refine mop_c trivial ?_))))
    ((with_reducible (refine mop_cS trivial ?_ ?_)))
    · intro h
      ((with_reducible (refine mif_true ?_)))
      exact ⟨by rw [if_pos h], hM.st⟩
    · intro h
      ((with_reducible (refine mif_false ?_; refine mm_purC hM ?_ ?_)); (focus (first | exact trivial | assumption | omega)); (with_reducible (clear hM; intro _ hM; refine mm_purC hM ?_ ?_)); (focus (first | exact trivial | assumption | omega)); (with_reducible (clear hM; intro _ hM)))
      exact ⟨by rw [if_neg h], hM.st⟩
  · rw [lf_of ht]
    ((with_reducible (refine mm_purC hM ?_ ?_)); (focus (first | exact trivial | assumption | omega)); (with_reducible (clear hM; intro _ hM; refine mop_c trivial ?_)))
    rw [decide_eq_false ht]
    ((with_reducible (refine mif_nf ?_)))
    exact ⟨rfl, hM.st⟩
instance (n x : Int) : PurC Try.prog 105 [.int .i64 n, .int .i64 x] True (.int .i64 (lf n x)) := ⟨fun _ w => rleft_ok n x w⟩
theorem rright_ok (n x : Int) (w : World) : Calls Try.prog 106 #[.int .i64 n, .int .i64 x] w fun en w' => en = .returned (.int .i64 (rt n x)) ∧ St w [] w' := by
  have hM := Mem.start (Fz.of w)
  refine C_bevyref07_Right ?_
  unfold F_bevyref07_Right
  by_cases ht : thr n x
  · obtain ⟨b1, b2, b3⟩ := fd_eq ht
    rw [show rt n x = (if (fd n x).2.1 = 1 then -1 else rootI ((fd n x).1 + halfI (fd n x).2.1) ((fd n x).2.1 - halfI (fd n x).2.1)) from if_pos ht]
    have hh := half_b (n := (fd n x).2.1) (by omega)
    ((with_reducible (refine mm_purC hM ?_ ?_)); (focus (first | exact trivial | assumption | omega)); (with_reducible (clear hM; intro _ hM; refine mop_c trivial ?_)))
    rw [decide_eq_true ht]
    ((with_reducible (refine mif_nt ?_; refine mm_purC hM ?_ ?_)); (focus (first | exact trivial | assumption | omega)); (with_reducible (clear hM; intro _ hM; (iterate 4 refine mop_c trivial ?_))))
    ((with_reducible (refine mop_cS trivial ?_ ?_)))
    · intro h
      ((with_reducible (refine mif_true ?_)))
      exact ⟨by rw [if_pos h], hM.st⟩
    · intro h
      have h3 := hh.2.2.1 (by omega)
      ((with_reducible (refine mif_false ?_; refine mm_purC hM ?_ ?_)); (focus (first | exact trivial | assumption | omega)); (with_reducible (clear hM; intro _ hM; refine mop_c ?_ ?_)); (focus omega); (with_reducible (refine mm_purC hM ?_ ?_)); (focus (first | exact trivial | assumption | omega)); (with_reducible (clear hM; intro _ hM; refine mop_c ?_ ?_)); (focus omega); (with_reducible (refine mm_purC hM ?_ ?_)); (focus (first | exact trivial | assumption | omega)); (with_reducible (clear hM; intro _ hM)))
      exact ⟨by rw [if_neg h], hM.st⟩
  · rw [rt_of ht]
    ((with_reducible (refine mm_purC hM ?_ ?_)); (focus (first | exact trivial | assumption | omega)); (with_reducible (clear hM; intro _ hM; refine mop_c trivial ?_)))
    rw [decide_eq_false ht]
    ((with_reducible (refine mif_nf ?_)))
    exact ⟨rfl, hM.st⟩
instance (n x : Int) : PurC Try.prog 106 [.int .i64 n, .int .i64 x] True (.int .i64 (rt n x)) := ⟨fun _ w => rright_ok n x w⟩
theorem rabove_ok (n x : Int) (w : World) : Calls Try.prog 107 #[.int .i64 n, .int .i64 x] w fun en w' => en = .returned (.int .i64 (ab n x)) ∧ St w [] w' := by
  have hM := Mem.start (Fz.of w)
  refine C_bevyref07_Above ?_
  unfold F_bevyref07_Above
  by_cases ht : thr n x
  · rw [show ab n x = (fd n x).2.2.1 from if_pos ht]
    ((with_reducible (refine mm_purC hM ?_ ?_)); (focus (first | exact trivial | assumption | omega)); (with_reducible (clear hM; intro _ hM; refine mop_c trivial ?_)))
    rw [decide_eq_true ht]
    ((with_reducible (refine mif_nt ?_; refine mm_purC hM ?_ ?_)); (focus (first | exact trivial | assumption | omega)); (with_reducible (clear hM; intro _ hM; (iterate 4 refine mop_c trivial ?_))))
    exact ⟨rfl, hM.st⟩
  · rw [ab_of ht]
    ((with_reducible (refine mm_purC hM ?_ ?_)); (focus (first | exact trivial | assumption | omega)); (with_reducible (clear hM; intro _ hM; refine mop_c trivial ?_)))
    rw [decide_eq_false ht]
    ((with_reducible (refine mif_nf ?_)))
    exact ⟨rfl, hM.st⟩
instance (n x : Int) : PurC Try.prog 107 [.int .i64 n, .int .i64 x] True (.int .i64 (ab n x)) := ⟨fun _ w => rabove_ok n x w⟩
theorem rbeside_ok (n x : Int) (w : World) : Calls Try.prog 110 #[.int .i64 n, .int .i64 x] w fun en w' => en = .returned (.int .i64 (bs n x)) ∧ St w [] w' := by
  have hM := Mem.start (Fz.of w)
  refine C_bevyref07_Beside ?_
  unfold F_bevyref07_Beside
  by_cases ht : thr n x
  · rw [show bs n x = (fd n x).2.2.2 from if_pos ht]
    ((with_reducible (refine mm_purC hM ?_ ?_)); (focus (first | exact trivial | assumption | omega)); (with_reducible (clear hM; intro _ hM; refine mop_c trivial ?_)))
    rw [decide_eq_true ht]
    ((with_reducible (refine mif_nt ?_; refine mm_purC hM ?_ ?_)); (focus (first | exact trivial | assumption | omega)); (with_reducible (clear hM; intro _ hM; (iterate 4 refine mop_c trivial ?_))))
    exact ⟨rfl, hM.st⟩
  · rw [bs_of ht]
    ((with_reducible (refine mm_purC hM ?_ ?_)); (focus (first | exact trivial | assumption | omega)); (with_reducible (clear hM; intro _ hM; refine mop_c trivial ?_)))
    rw [decide_eq_false ht]
    ((with_reducible (refine mif_nf ?_)))
    exact ⟨rfl, hM.st⟩
instance (n x : Int) : PurC Try.prog 110 [.int .i64 n, .int .i64 x] True (.int .i64 (bs n x)) := ⟨fun _ w => rbeside_ok n x w⟩
theorem rrootN_ok (n : Int) (w : World) : Calls Try.prog 16 #[.int .i64 n] w fun en w' => en = .returned (.int .i64 (root n)) ∧ St w [] w' := by
  have hM := Mem.start (Fz.of w)
  refine C_bevyref07_Root ?_
  unfold F_bevyref07_Root
  by_cases ht : thr n 0
  · obtain ⟨h1, h2, h3⟩ := id ht
    rw [(bough_eq ht).2.2.2.2.2.2.2.2, show rRoot n = rootI 0 n from if_pos ht]
    ((with_reducible (refine mm_purC hM ?_ ?_)); (focus (first | exact trivial | assumption | omega)); (with_reducible (clear hM; intro _ hM; refine mop_c trivial ?_)))
    rw [decide_eq_true ht]
    ((with_reducible (refine mif_nt ?_; refine mm_purC hM ?_ ?_)); (focus (first | exact trivial | assumption | omega)); (with_reducible (clear hM; intro _ hM)))
    exact ⟨rfl, hM.st⟩
  · rw [show root n = -1 from if_neg ht]
    ((with_reducible (refine mm_purC hM ?_ ?_)); (focus (first | exact trivial | assumption | omega)); (with_reducible (clear hM; intro _ hM; refine mop_c trivial ?_)))
    rw [decide_eq_false ht]
    ((with_reducible (refine mif_nf ?_)))
    exact ⟨rfl, hM.st⟩
instance (n : Int) : PurC Try.prog 16 [.int .i64 n] True (.int .i64 (root n)) := ⟨fun _ w => rrootN_ok n w⟩
theorem rleaves_ok (n x : Int) (w : World) : Calls Try.prog 52 #[.int .i64 n, .int .i64 x] w fun en w' => en = .returned (.tuple #[.int .i64 (fro n x), .int .i64 (til n x)]) ∧ St w [] w' := by
  have hM := Mem.start (Fz.of w)
  refine C_bevyref07_Leaves ?_
  unfold F_bevyref07_Leaves
  by_cases ht : thr n x
  · obtain ⟨b1, b2, b3⟩ := fd_eq ht
    rw [show fro n x = (fd n x).1 from if_pos ht, show til n x = (fd n x).1 + (fd n x).2.1 from if_pos ht]
    ((with_reducible (refine mm_purC hM ?_ ?_)); (focus (first | exact trivial | assumption | omega)); (with_reducible (clear hM; intro _ hM; refine mop_c trivial ?_)))
    rw [decide_eq_true ht]
    ((with_reducible (refine mif_nt ?_; refine mm_purC hM ?_ ?_)); (focus (first | exact trivial | assumption | omega)); (with_reducible (clear hM; intro _ hM; (iterate 4 refine mop_c trivial ?_); refine mop_c ?_ ?_)); (focus omega))
    exact ⟨rfl, hM.st⟩
  · rw [fro_of ht, til_of ht]
    ((with_reducible (refine mm_purC hM ?_ ?_)); (focus (first | exact trivial | assumption | omega)); (with_reducible (clear hM; intro _ hM; refine mop_c trivial ?_)))
    rw [decide_eq_false ht]
    ((with_reducible (refine mif_nf ?_)))
    exact ⟨rfl, hM.st⟩
instance (n x : Int) : PurC Try.prog 52 [.int .i64 n, .int .i64 x] True (.tuple #[.int .i64 (fro n x), .int .i64 (til n x)]) := ⟨fun _ w => rleaves_ok n x w⟩
theorem rholds_ok (n x p : Int) (w : World) : Calls Try.prog 17 #[.int .i64 n, .int .i64 x, .int .i64 p] w fun en w' => en = .returned (.bool (decide (hld n x p))) ∧ St w [] w' := by
  have hM := Mem.start (Fz.of w)
  refine C_bevyref07_Holds ?_
  unfold F_bevyref07_Holds
  ((with_reducible (refine mm_purC hM ?_ ?_)); (focus (first | exact trivial | assumption | omega)); (with_reducible (clear hM; intro _ hM; refine mop_c trivial ?_; refine mop_c trivial ?_)))
  ((with_reducible (refine mop_cS trivial ?_ ?_)))
  · intro h1
    ((with_reducible (refine mguard_yes ?_; refine mop_c trivial ?_; refine mguard_yes ?_; refine mop_c trivial ?_; refine mguard_yes ?_)))
    ((with_reducible (refine mop_cS trivial ?_ ?_)))
    · intro h2
      ((with_reducible (refine mop_c trivial ?_)))
      exact ⟨by rw [decide_eq_true (show hld n x p from ⟨h1, h2⟩)], hM.st⟩
    · intro h2
      ((with_reducible (refine mop_c trivial ?_)))
      exact ⟨by rw [decide_eq_false (show ¬ hld n x p from fun h => h2 h.2)], hM.st⟩
  · intro h1
    ((with_reducible ((iterate 3 refine mguard_n2 ?_); refine mop_c trivial ?_)))
    exact ⟨by rw [decide_eq_false (show ¬ hld n x p from fun h => h1 h.1)], hM.st⟩
instance (n x p : Int) : PurC Try.prog 17 [.int .i64 n, .int .i64 x, .int .i64 p] True (.bool (decide (hld n x p))) := ⟨fun _ w => rholds_ok n x p w⟩
end
end Go.Proofs.Ytopcnkejobomaaa
/- The document's way from a leaf upwards; two lists alike. -/
namespace Go.Proofs.Ytopcnkejobomaaa
open Go.RowKit Go.Lib

theorem okd_eq (n x : Int) : okd 8 n x = true := by
  by_cases h : thr n x
  · obtain ⟨h1, h2, h3⟩ := id h
    have := okd_fin ⟨n.toNat, by omega⟩ ⟨x.toNat, by omega⟩
    simp only [Int.toNat_of_nonneg h2, Int.toNat_of_nonneg (show 0 ≤ n by omega)] at this
    exact this h
  · simp [okd, ab_of h]
theorem dirF_end {f : Nat} {n x : Int} (h : ab n x < 0) : dirF f n x = [] := by
  cases f with
  | zero => rfl
  | succ f => rw [dirF, if_pos h]
theorem dirF_step {f : Nat} {n x : Int} (h : ¬ ab n x < 0) (ho : okd f n x = true) : ∃ g, f = g + 1 ∧ dirF f n x = ab n x :: dirF g n (ab n x) ∧ okd g n (ab n x) = true := by
  cases f with
  | zero => simp [okd] at ho; omega
  | succ f =>
    simp only [okd, Bool.or_eq_true, decide_eq_true_eq] at ho
    exact ⟨f, rfl, by rw [dirF, if_neg h], ho.resolve_left h⟩
theorem dirF_len : ∀ (f : Nat) (n x : Int), (dirF f n x).length ≤ f
  | 0, n, x => by simp [dirF]
  | f + 1, n, x => by
    rw [dirF]
    split
    · simp
    · have := dirF_len f n (ab n x)
      simp only [List.length_cons]
      omega
theorem dirL_len (n l : Int) : (dirL n l).length ≤ 8 := by
  unfold dirL
  split
  · exact dirF_len 8 n _
  · simp
abbrev ints8 (l : List Int) : List (List Fd) := l.map fun x => [.one (.int .i64 x)]
theorem ints8_length (l : List Int) : (ints8 l).length = l.length := by simp [ints8]
theorem ints8_app (a b : List Int) : ints8 (a ++ b) = ints8 a ++ ints8 b := by simp [ints8]
theorem els_ints8 (l : List Int) : Els 1 (ints8 l) := Els.map (f := fun x => [.one (.int .i64 x)]) l fun _ => ⟨inferInstance, rfl⟩
theorem ints8_at {l : List Int} {i : Nat} (h : i < l.length) : (ints8 l)[i]? = some [.one (.int .i64 l[i])] := by simp [ints8, h]
section
variable {H : Hp} {w0 w : World} {L : List Res}
theorem rdirect_ok (n l : Int) (hn : -1000000 ≤ l ∧ l ≤ 1000000) (hM : Mem H w0 L w) : Calls Try.prog 58 #[.int .i64 n, .int .i64 l] w fun en w' => ∃ v, en = .returned v ∧ ∃ A cap, v = .slice A (dirL n l).length cap ∧ Mem H w0 (rowR 3 1 A (dirL n l).length cap (ints8 (dirL n l)) :: L) w' := by
  refine C_bevyref07_Direct ?_
  unfold F_bevyref07_Direct
  refine ⟨fun v w' => v = .bool (decide ((l < 0 ∨ n ≤ l) ∨ ¬ thr n 0)) ∧ hM.now w', ?_, ?_⟩
  · ((with_reducible (refine mop_cS trivial ?_ ?_)))
    · intro h
      ((with_reducible ((iterate 3 refine mguard_n1 ?_); refine mop_c trivial ?_; (iterate 3 refine mguard_n1 ?_); refine mop_c trivial ?_)))
      exact ⟨by rw [decide_eq_true (.inl (.inl h))], hM⟩
    · intro h
      ((with_reducible (refine mguard_yes ?_; refine mop_c trivial ?_; refine mguard_yes ?_; refine mop_c trivial ?_; refine mguard_yes ?_)))
      ((with_reducible (refine mop_cS trivial ?_ ?_)))
      · intro h2
        ((with_reducible (refine mop_c trivial ?_; (iterate 3 refine mguard_n1 ?_); refine mop_c trivial ?_)))
        exact ⟨by rw [decide_eq_true (.inl (.inr h2))], hM⟩
      · intro h2
        by_cases ht : thr n 0
        · ((with_reducible (refine mop_c trivial ?_; refine mguard_yes ?_; refine mop_c trivial ?_; refine mguard_yes ?_; refine mm_purC hM ?_ (fun _ hM2 => ?_))); (focus (first | exact trivial | assumption | omega)); (with_reducible (replace hM := hM2; clear hM2; refine mguard_yes ?_; refine mop_c trivial ?_; refine mop_c trivial ?_)))
          rw [decide_eq_true ht]
          skip
          exact ⟨by rw [decide_eq_false (by simp [ht]; omega)]; rfl, hM⟩
        · ((with_reducible (refine mop_c trivial ?_; refine mguard_yes ?_; refine mop_c trivial ?_; refine mguard_yes ?_; refine mm_purC hM ?_ (fun _ hM2 => ?_))); (focus (first | exact trivial | assumption | omega)); (with_reducible (replace hM := hM2; clear hM2; refine mguard_yes ?_; refine mop_c trivial ?_; refine mop_c trivial ?_)))
          rw [decide_eq_false ht]
          skip
          exact ⟨by rw [decide_eq_true (.inr ht)]; rfl, hM⟩
  rintro v u w2 ⟨rfl, hM⟩
  by_cases hc : (l < 0 ∨ n ≤ l) ∨ ¬ thr n 0
  · have he : dirL n l = [] := by
      unfold dirL
      by_cases hl : 0 ≤ l ∧ l < n
      · rw [if_pos hl]
        have ht : ¬ thr n 0 := hc.resolve_left (by omega)
        refine dirF_end ?_
        rw [ab_of (fun h => ht ⟨h.1, by omega⟩)]
        omega
      · rw [if_neg hl]
    rw [decide_eq_true hc, he]
    ((with_reducible (refine mif_true ?_)))
    exact ⟨_, rfl, _, _, rfl, hM.row0 _ _⟩
  · rw [decide_eq_false hc]
    have hd : dirL n l = dirF 8 n (2 * l) := by unfold dirL; rw [if_pos (by omega)]
    rw [hd]
    ((with_reducible (refine mif_false ?_; refine mop_c ?_ ?_)); (focus omega); (with_reducible (refine mm_purC hM ?_ ?_)); (focus (first | exact trivial | assumption | omega)); (with_reducible (clear hM; intro _ hM)))
    refine ⟨fun v u w' => ∃ (f : Nat) (y : Int) (pre : List Int) (A : Option Addr) (cap : Nat), v = .slice A pre.length cap ∧ u = .int .i64 (ab n y) ∧ f + pre.length = 8 ∧ dirF 8 n (2 * l) = pre ++ dirF f n y ∧ okd f n y = true ∧ Mem H w0 (rowR 3 1 A pre.length cap (ints8 pre) :: L) w', fun v _ _ => match v with | .slice _ k _ => 8 - k | _ => 0, ⟨8, 2 * l, [], none, 0, rfl, rfl, rfl, rfl, okd_eq _ _, hM.row0 _ _⟩, ?_⟩
    clear hM
    rintro v u i w3 ⟨f, y, pre, A, cap, rfl, rfl, hf, he, ho, hM⟩
    ((with_reducible (refine mop_cS trivial ?_ ?_)))
    · intro h
      obtain ⟨g, rfl, e2, ho⟩ := dirF_step (by omega) ho
      ((with_reducible (refine mif_true ?_; refine mm_bsl hM ?_ ?_ ?_)); (focus rfl); (focus (constructor <;> simp)); (with_reducible (clear hM; intro _ _ hM; refine mm_appo hM ?_ ?_)); (focus omega); (with_reducible (clear hM; intro _ _ _ hM; refine mm_purC hM ?_ ?_)); (focus (first | exact trivial | assumption | omega)); (with_reducible (clear hM; intro _ hM)))
      rename_i _ _ A2 cap2 _ _
      refine ⟨⟨g, ab n y, pre ++ [ab n y], A2, cap2, by simp, rfl, by simp; omega, by rw [he, e2]; simp, ho, ?_⟩, by simp only; omega⟩
      rw [ints8_app, List.length_append]
      exact hM
    · intro h
      ((with_reducible (refine mif_false ?_)))
      rw [he, dirF_end (by omega), List.append_nil]
      exact ⟨_, rfl, _, _, rfl, hM⟩
theorem rsame_ok {A B : Option Addr} {a b : Nat} (xs ys : List Int) (hx : xs.length ≤ maxLen) (ha : Sl H 1 A (ints8 xs)) (hb : Sl H 1 B (ints8 ys)) (hM : Mem H w0 L w) : Calls Try.prog 36 #[.slice A xs.length a, .slice B ys.length b] w fun en w' => en = .returned (.bool (decide (xs = ys))) ∧ Mem H w0 L w' := by
  refine C_bevyref07_Same ?_
  unfold F_bevyref07_Same
  have hx' : xs.length ≤ 9223372036854775807 := hx
  ((with_reducible (refine mop_c trivial ?_; refine mop_c trivial ?_)))
  ((with_reducible (refine mop_cS trivial ?_ ?_)))
  · intro h
    ((with_reducible (refine mif_true ?_)))
    exact ⟨by rw [decide_eq_false (fun e => h (by rw [e]))], hM⟩
  · intro h
    have hl : xs.length = ys.length := by omega
    ((with_reducible (refine mif_false ?_)))
    refine ⟨fun v w' => ∃ i : Nat, v = .int .i64 i ∧ i ≤ xs.length ∧ xs.take i = ys.take i ∧ hM.now w', fun v _ => match v with | .int _ k => xs.length - k.toNat | _ => 0, ⟨0, rfl, by omega, by simp, hM⟩, ?_⟩
    rintro v u w3 ⟨i, rfl, hi, he, hM⟩
    ((with_reducible (refine mop_c trivial ?_)))
    ((with_reducible (refine mop_cS trivial ?_ ?_)))
    · intro h2
      have h3 : i < ys.length := by omega
      have e1 := ints8_at (l := xs) (i := i) (by omega)
      have e2 := ints8_at (l := ys) (i := i) (by omega)
      ((with_reducible (refine mif_true ?_)); (with_reducible refine dp_ixs ‹_› ?_ ?_ ?_); (focus (simp only [List.length_map]; omega)); (focus (simp only [List.length_map]; first | done | omega)); (with_reducible (intro _ _ hA)); (cases hA); (with_reducible refine dm_lds0 hM ‹_› (map_atI ?_) ?_); (focus omega); (with_reducible refine dp_ixs ‹_› ?_ ?_ ?_); (focus (simp only [List.length_map]; omega)); (focus (simp only [List.length_map]; first | done | omega)); (with_reducible (intro _ _ hA)); (cases hA); (with_reducible refine dm_lds0 hM ‹_› (map_atI ?_) ?_); (focus omega))
      ((with_reducible (refine dp_cS trivial ?_ ?_)))
      · intro h4
        ((with_reducible (refine mm_end hM ?_; clear hM; intro _ hM; refine mif_true ?_)))
        refine ⟨?_, hM⟩
        rw [decide_eq_false]
        rintro rfl
        exact h4 rfl
      · intro h4
        ((with_reducible (refine mm_end hM ?_; clear hM; intro _ hM; refine mif_false ?_; refine mop_c ?_ ?_)); (focus omega))
        refine ⟨⟨i + 1, rfl, by omega, ?_, hM⟩, by simp only; omega⟩
        rw [List.take_succ_eq_append_getElem (by omega), List.take_succ_eq_append_getElem h3, he, Decidable.not_not.1 h4]
    · intro h2
      ((with_reducible (refine mif_false ?_)))
      have : xs = ys := by
        have h1 : xs.take xs.length = ys.take xs.length := by
          have : i = xs.length := by omega
          rw [this] at he
          exact he
        rw [List.take_length, hl, List.take_length] at h1
        exact h1
      exact ⟨by rw [decide_eq_true this], hM⟩
end
end Go.Proofs.Ytopcnkejobomaaa
/- The program's way from a leaf upwards: a loop over a function. -/
namespace Go.Proofs.Ytopcnkejobomaaa
open Go.RowKit Go.Shelf Go.Lib
attribute [local go_sem] Oper.semAt_some

theorem lvl_eq {n x : Int} (h : thr n x) : ab n x < 0 ∨ level x < level (ab n x) ∧ level (ab n x) ≤ 7 := by
  obtain ⟨h1, h2, h3⟩ := id h
  have := lvl_fin ⟨n.toNat, by omega⟩ ⟨x.toNat, by omega⟩
  simp only [Int.toNat_of_nonneg h2, Int.toNat_of_nonneg (show 0 ≤ n by omega)] at this
  exact this h
theorem ab_pos {n x : Int} (h : ¬ ab n x < 0) : thr n x := Decidable.byContradiction fun hn => h (by rw [ab_of hn]; omega)
theorem Only.grown0 {w w' : World} (h : Only (fun k => ∃ b ∈ ([] : List Bk), b.nw = false ∧ b.g = k) w w') : w.grownBy w' none := ⟨h.os, h.tape, h.output, h.size, fun k hk _ => h.block k hk (by rintro ⟨_, hm, _⟩; cases hm)⟩
theorem bup_ok (n x : Int) (w : World) : Calls Try.prog 108 #[.int .i64 n, .int .i64 x] w fun en w' => ∃ b1 b2, en = .returned (.func (.func 132) #[] #[.pointer (some ⟨b1, 0, none⟩), .pointer (some ⟨b2, 0, none⟩)]) ∧ Mem (Hp.of w) w [fb b2 3 [.one (.int .i64 x)], fb b1 3 [.one (.int .i64 n)]] w' := by
  have hM := Mem.start (Fz.of w)
  refine C_bough_up ?_
  unfold F_bough_up
  ((with_reducible (refine mm_box hM ?_; clear hM; intro _ _ hM; refine mm_box hM ?_; clear hM; intro _ _ hM; refine mop_c trivial ?_)))
  exact ⟨_, _, rfl, hM⟩
def mea (v : Value) : Nat := match v with
  | .int _ k => if k < 0 then 0 else (9 - level k).toNat
  | _ => 0
set_option maxRecDepth 100000 in
set_option maxHeartbeats 1000000 in
theorem up1_in (m : Nat) (hm : 2 ≤ m) (l b1 b2 : Nat) (n x : Int) (W0 : Nat) (J Jx : List Int → World → Prop) (hJ : AbidesFrom W0 J)
    (hY : ∀ pre y W, J pre W → pre.length < (dirF 8 n x).length → YieldAt Fence.wide (m - 1) Try.prog l #[.int .i64 y] W fun e W' =>
      (e = .returned (.bool true) ∧ J (pre ++ [y]) W' ∧ W'.heap[b1]? = W.heap[b1]?) ∨ (e = .returned (.bool false) ∧ Jx (pre ++ [y]) W'))
    (W : World) (l1 : b1 < W.heap.size) (h1 : W.cell? ⟨b1, 0, none⟩ = some (.int .i64 n)) (h2 : W.cell? ⟨b2, 0, none⟩ = some (.int .i64 x)) (h0 : J [] W) :
    CallsIn Fence.wide m Try.prog 132 #[.func (.yield l) #[] #[], .pointer (some ⟨b1, 0, none⟩), .pointer (some ⟨b2, 0, none⟩)] W fun e W' => (∃ v, e = .returned v) ∧
      ((∃ ys, ys = dirF 8 n x ∧ J ys W') ∨ (∃ pre, pre <+: dirF 8 n x ∧ Jx pre W')) := by
  have f1 : Fence.wide.fn 109 := trivial
  have m1 : 1 ≤ m := by omega
  refine callsIn_of_wp Try.func132 rfl trivial ?_ rfl
  simp only [Try.ntmps132, List.size_toArray, List.length_cons, List.length_nil, Nat.reduceAdd, Nat.reduceSub, Array.replicate_succ, Array.replicate_zero, List.push_toArray, List.append_toArray, List.nil_append, List.cons_append]
  gi_wp2_with (gi_at_call 109; refine (callsIn_wide.2 (babove_ok n x _)).mono ?_; rintro e w1 ⟨rfl, hst⟩)
  have hg := Only.grown0 hst.only
  have hb1 : w1.heap[b1]? = W.heap[b1]? ∧ W.heap.size ≤ w1.heap.size := ⟨hg.block b1 l1 (by simp), hg.size⟩
  have hJ1 : J [] w1 := hJ [] W w1 none h0 hg (fun r e => by cases e)
  gi_loopw [4] (fun p wr => ∃ (f : Nat) (y : Int) (pre : List Int), p = .int .i64 (ab n y) ∧ dirF 8 n x = pre ++ dirF f n y ∧ okd f n y = true ∧ J pre wr ∧ wr.heap[b1]? = W.heap[b1]?) (fun p _ => mea p)
  case atStart =>
    exact ⟨8, x, [], rfl, rfl, okd_eq _ _, hJ1, hb1.1⟩
  case round =>
    obtain ⟨f, y, pre, rfl, hx, ho, hJs, hB⟩ := hrel
    have c1 : wr.cell? ⟨b1, 0, none⟩ = some (.int .i64 n) := (World.cell?_of_block (w := W) (a := ⟨b1, 0, none⟩) hB).trans h1
    by_cases hp : ab n y < 0
    · have hq : ¬ 0 ≤ ab n y := by omega
      gi_wp2
      refine ⟨fun _ h => (by cases h), ?_⟩
      gi_wp2
      go_end0
      exact ⟨⟨_, rfl⟩, .inl ⟨pre, by rw [hx, dirF_end hp, List.append_nil], hJs⟩⟩
    · have hq : 0 ≤ ab n y := by omega
      obtain ⟨g, rfl, e2, ho⟩ := dirF_step hp ho
      obtain ⟨fn, tmps, assign, body, hy, hR⟩ := hY pre (ab n y) wr hJs (by rw [hx, e2]; simp)
      gi_wp2
      refine hR.mono ?_
      rintro e W3 (⟨rfl, hJ3, hk3⟩ | ⟨rfl, hJx3⟩)
      · have c3 : W3.cell? ⟨b1, 0, none⟩ = some (.int .i64 n) := (World.cell?_of_block (w := wr) (a := ⟨b1, 0, none⟩) hk3).trans c1
        gi_wp2_with (gi_at_call 109; refine (callsIn_wide.2 (babove_ok n (ab n y) _)).mono ?_; rintro e w4 ⟨rfl, hst4⟩)
        have hg4 := Only.grown0 hst4.only
        have hB3 := hk3.trans hB
        have hl3 : b1 < W3.heap.size := by
          have e : W3.heap[b1]? = some W.heap[b1] := by rw [hB3]; simp [l1]
          exact (Array.getElem?_eq_some_iff.1 e).1
        have hB4 : w4.heap[b1]? = W3.heap[b1]? := hg4.block b1 hl3 (by simp)
        have hJ4 : J (pre ++ [ab n y]) w4 := hJ _ W3 w4 none hJ3 hg4 (fun r e => by cases e)
        go_roundw
        case rel => exact ⟨g, ab n y, pre ++ [ab n y], rfl, by rw [hx, e2]; simp, ho, hJ4, hB4.trans hB3⟩
        case measure =>
          have hp : ¬ ab n y < 0 := by omega
          have ht := ab_thr (ab_pos hp) hp
          have := lvl_eq ht
          have h8 := level_rng (ab n y)
          have h7 := (lvl_eq (ab_pos hp)).resolve_left hp
          show mea (.int .i64 (ab n (ab n y))) < mea (.int .i64 (ab n y))
          simp only [mea]
          rw [if_neg hp]
          split <;> omega
      · gi_wp2
        go_end0
        exact ⟨⟨_, rfl⟩, .inr ⟨pre ++ [ab n y], ⟨dirF g n (ab n y), by rw [hx, e2]; simp⟩, hJx3⟩⟩
theorem up_stops (m : Nat) (hm : 2 ≤ m) (b1 b2 : Nat) (n x : Int) (w : World) (l1 : b1 < w.heap.size) (l2 : b2 < w.heap.size) (h1 : w.cell? ⟨b1, 0, none⟩ = some (.int .i64 n)) (h2 : w.cell? ⟨b2, 0, none⟩ = some (.int .i64 x)) :
    SeqStopsK Fence.wide m Try.prog 132 #[.pointer (some ⟨b1, 0, none⟩), .pointer (some ⟨b2, 0, none⟩)] (fun y : Int => #[Value.int .i64 y]) (fun A B => B.heap[b1]? = A.heap[b1]?) (fun ys => ys = dirF 8 n x) (fun pre => pre <+: dirF 8 n x) (dirF 8 n x).length w := fun l J Jx W hW hJ _ hY h0 =>
  up1_in m hm l b1 b2 n x W.heap.size J Jx hJ hY W (Nat.lt_of_lt_of_le l1 hW.size) ((hW.cell (p := ⟨b1, 0, none⟩) l1).trans h1) ((hW.cell (p := ⟨b2, 0, none⟩) l2).trans h2) h0
theorem Boxed.app2 {W w1 : World} {n₀ n1 B : Nat} {t e : TypeId} {size : Nat} {v v' : Value} {k m : Nat} {xs ys : List Value} {tmp : Obj}
    (hv : Boxed W B t v) (hte : t ≠ e) (hrow : W.ownsRow n₀ e size v k xs) (hn₀ : n₀ ≤ W.heap.size) (hn1 : n1 ≤ n₀) (hB : n1 ≤ B)
    (hown' : w1.ownsRow n₀ e size v' m ys) (hgrow : (W.alloc tmp).grownBy w1 v.ownBlock) :
    Boxed w1 B t v ∧ Boxed (w1.setCell ⟨B, 0, none⟩ v') B t v' ∧ (w1.setCell ⟨B, 0, none⟩ v').ownsRow n₀ e size v' m ys ∧ KeepsOthers W (w1.setCell ⟨B, 0, none⟩ v') ∧ Below n1 W (w1.setCell ⟨B, 0, none⟩ v') ∧ ∀ i, i < n₀ → i ≠ B → (w1.setCell ⟨B, 0, none⟩ v').heap[i]? = W.heap[i]? := by
  have hv1 : Boxed w1 B t v := (hv.alloc tmp).kept hgrow (hv.not_row hte hrow)
  have hge : ∀ j, v.ownBlock = some j → n₀ ≤ j := fun j ej => by
    rcases hrow.2 with ⟨rfl, _⟩ | ⟨g, cap, cur, rfl, hb, _, _⟩
    · simp [Value.ownBlock] at ej
    · obtain rfl : g = j := by simpa [Value.ownBlock] using ej
      exact hb
  refine ⟨hv1, hv1.set v', hown'.kept (grownBy_setCell' w1 B v') (.inr (hv1.not_row hte hown').symm), ?_, ?_, ?_⟩
  · refine ((KeepsOthers.alloc W tmp).trans (KeepsOthers.of_grownBy hgrow fun j o ej hj => ?_)).trans (KeepsOthers.setCell _ _ _)
    rcases (hrow.alloc tmp).2 with ⟨rfl, _⟩ | ⟨g, cap, cur, rfl, _, hgb, _⟩
    · simp [Value.ownBlock] at ej
    · obtain rfl : g = j := by simpa [Value.ownBlock] using ej
      rw [hgb] at hj; cases hj; rfl
  · refine (((Below.refl n1 W).alloc (Nat.le_trans hn1 hn₀) tmp).grown hgrow (by simp; omega) fun j ej => ?_).setCell (p := ⟨B, 0, none⟩) hB v'
    exact Nat.le_trans hn1 (hge j ej)
  · intro i hi hne
    have hs : w1.heap.size ≥ (W.alloc tmp).heap.size := hgrow.size
    rw [World.size_alloc] at hs
    rw [(grownBy_setCell' w1 B v').block i (by omega) (by simpa using hne)]
    rw [hgrow.block i (by rw [World.size_alloc]; omega) (fun e => by have := hge i e.symm; omega)]
    exact Below.heap_alloc W tmp i (by omega)
theorem info3 : (Try.prog.info? 3).map (fun i => (i.zero, i.size, i.bytes)) = some (some (.int .i64 0), 1, 8) := by kernel_rfl
set_option maxRecDepth 100000 in
set_option maxHeartbeats 2000000 in
theorem dir_in (n l : Int) (hl : 0 ≤ l ∧ l < n) (hb : l ≤ 1000000) (w : World) :
    Calls Try.prog 60 #[.int .i64 n, .int .i64 l] w fun e W' => ∃ v, e = .returned v ∧ W'.ownsRow w.heap.size 3 1 v (dirL n l).length ((dirL n l).map (Value.int .i64)) ∧ Below w.heap.size w W' := by
  have hD : dirL n l = dirF 8 n (2 * l) := if_pos hl
  have hlen := dirL_len n l
  rw [hD] at hlen ⊢
  have hw : IntKind.i64.wrap (2 * l) = 2 * l := wrap_in (by omega)
  obtain ⟨i0, hi, hz0, hz1, hz2⟩ := info_parts info3
  have f1 : Fence.wide.fn 108 := trivial
  have hn1 : ¬ l < 0 := by omega
  have hn2 : ¬ n ≤ l := by omega
  have hmx : 9 ≤ maxLen := by decide
  refine (callsIn_wide (n := 8)).1 ?_
  refine callsIn_of_wp_marks Try.func60 rfl trivial ?_ rfl
  simp only [Try.ntmps60, List.size_toArray, List.length_cons, List.length_nil, Nat.reduceAdd, Nat.reduceSub, Array.replicate_succ, Array.replicate_zero, List.push_toArray, List.append_toArray, List.nil_append, List.cons_append]
  gi_wp2_with (gi_at_call 108; refine (callsIn_wide.2 (bup_ok n (2 * l) _)).mono ?_; rintro e w2 ⟨b1, b2, rfl, hM⟩)
  have hgr := Only.grown0 hM.st.only
  have bO : Boxed w2 w.heap.size 29 (.slice none 0 0) := (Boxed.new w _ _).kept hgr (by simp)
  have hsz : w.heap.size + 1 ≤ w2.heap.size := by have := hgr.size; rwa [World.size_alloc] at this
  have hB0 : Below w.heap.size w w2 := ((Below.refl _ w).alloc (Nat.le_refl _) _).trans (hM.st.only.below (by simp) (fun i _ h => by obtain ⟨_, hm, _⟩ := h; cases hm))
  obtain ⟨k1, _⟩ := Mem.blf (g := b1) (hM.upB b1) inferInstance
  obtain ⟨k2, _⟩ := Mem.blf (g := b2) (hM.upB b2) inferInstance
  have hne : b1 ≠ w.heap.size := by
    rintro rfl
    obtain ⟨fr, h1, _⟩ := k1
    rw [show w2.heap[w.heap.size]? = _ from bO] at h1
    simp at h1
  refine wpIn_rangeFunc_ownG rfl (by omega) (gf := 132) (lb := #[.pointer (some ⟨b1, 0, none⟩), .pointer (some ⟨b2, 0, none⟩)]) rfl trivial (enters_of Try.func132 (by kernel_rfl) rfl)
    (up_stops _ (by omega) b1 b2 n (2 * l) w2 k1.lt k2.lt (by rw [k1.cell]; rfl) (by rw [k2.cell]; rfl)) (fun h k => Eq.trans k h) (fun W j o o' hj _ _ _ => ?kb) (Below.refl _ _) (fun _ => rfl)
    (fun pre W => (∃ v, Boxed W w.heap.size 29 v ∧ W.ownsRow w2.heap.size 3 1 v pre.length (pre.map (Value.int .i64)) ∧ True) ∧ Below w.heap.size w W ∧ w2.heap.size ≤ W.heap.size)
    (fun _ _ _ => False)
    (OwnFrom.and (Own.from (holdsRow_own w2.heap.size w.heap.size 29 3 1 (fun pre : List Int => pre.length) (fun pre => pre.map (Value.int .i64)) (fun _ _ => True)) _) (OwnFrom.and (ownFrom_below (Nat.le_refl _) (by omega)) (fun s A B row hs hg hr => Nat.le_trans hs hg.size)))
    (fun _ _ _ _ _ hs _ _ => hs)
    ⟨⟨_, bO, World.ownsRow_nil _ _ _ _, trivial⟩, hB0, Nat.le_refl _⟩
    (fun x => { tmps := #[.int .i64 n, .int .i64 l, undef, undef, .slice none 0 0, .pointer (some ⟨w.heap.size, 0, none⟩), .int .i64 x, .int .i64 l, .bool false, .bool false, .int .i64 l, .int .i64 n, .bool false, .bool false, .int .i64 n, .int .i64 l, .int .i64 (2 * l), .func (.func 132) #[] #[.pointer (some ⟨b1, 0, none⟩), .pointer (some ⟨b2, 0, none⟩)], .int .i64 x, undef, undef, undef, undef, undef], defers := [] }) ?assign ?body ?done ?stop
  case kb => exact (grownBy_putObj' W j o').block b1 (by have := k1.lt; have := (Array.getElem?_eq_some_iff.1 ‹W.heap[j]? = some o›).1; omega) (by have := k1.lt; simp; omega)
  case assign =>
    intro l x W K hK
    gi_wp2
    exact hK
  case body =>
    rintro l pre x W ⟨⟨v, hv, hrow, -⟩, hB, hsw⟩ hlt
    have hc := hv.cell
    gi_wp2_with (gi_at_builtin; refine wpListIn_append_own _ rfl _ _ 29 rfl w2.heap.size 3 i0 (.int .i64 0) 1 8 (by kernel_rfl) hi hz0 hz1 hz2 rfl (by decide) _ _ _ rfl (hrow.alloc _) ⟨W.heap.size, 0, none⟩ 1 1 [.int .i64 x] rfl rfl (cell_one_new _ _ _) (by simp [Value.oneCell']) (by omega) (by omega) (by simp; omega) ?_; intro v' w1 hown' hgrow _; obtain ⟨g', cap', rfl⟩ := ownsRow_succ hown'; obtain ⟨hv1, hv2, hr2, hk2, hb2, hx2⟩ := Boxed.app2 hv (n1 := w.heap.size) (by decide) hrow hsw (by omega) (Nat.le_refl _) hown' hgrow; have hc1 := hv1.cell; have hf1 := hv1.frozen)
    exact ⟨hk2.from _, hx2 b1 k1.lt hne, ⟨_, hv2, by simpa using hr2, trivial⟩, hB.trans hb2, Nat.le_trans hsw hb2.size⟩
  case done =>
    rintro D ys W hD rfl ⟨⟨v, hv, hrow, -⟩, hB, hsw⟩ hK
    have hc := hv.cell
    gi_wp2
    refine ⟨by simp, .inl ⟨_, _, rfl, run_takeDeferred hK, ?_⟩⟩
    exact ⟨_, results_tmp rfl _ _ _, v, rfl, ⟨(ownsRow_putObj hrow (.deferred none) hK rfl).1, (ownsRow_putObj hrow (.deferred none) hK rfl).2.imp id fun ⟨g, cap, cur, h1, h2, h3⟩ => ⟨g, cap, cur, h1, by omega, h3⟩⟩, hB.trans (belowK_b (w := w) (Nat.le_refl _) W D _ _ (by omega) hK rfl rfl)⟩
  case stop =>
    rintro D c pre W _ _ h _
    exact h.elim
set_option maxRecDepth 100000 in
set_option maxHeartbeats 2000000 in
theorem dir_nil (n l : Int) (hl : l < 0 ∨ n ≤ l) (w : World) : Calls Try.prog 60 #[.int .i64 n, .int .i64 l] w fun e W' => e = .returned (.slice none 0 0) ∧ Below w.heap.size w W' := by
  refine (callsIn_wide (n := 8)).1 ?_
  refine callsIn_of_wp_marks Try.func60 rfl trivial ?_ rfl
  simp only [Try.ntmps60, List.size_toArray, List.length_cons, List.length_nil, Nat.reduceAdd, Nat.reduceSub, Array.replicate_succ, Array.replicate_zero, List.push_toArray, List.append_toArray, List.nil_append, List.cons_append]
  by_cases h1 : l < 0
  · gi_wp2
    exact ⟨_, results_tmp rfl _ _ _, rfl, Below.refl _ _⟩
  · have h2 : n ≤ l := by omega
    gi_wp2
    exact ⟨_, results_tmp rfl _ _ _, rfl, Below.refl _ _⟩
theorem fls_ints8 (l : List Int) : fls (ints8 l) = l.map (Value.int .i64) := by
  induction l with
  | nil => rfl
  | cons x r ih =>
    show fls ([.one (.int .i64 x)] :: ints8 r) = _
    rw [fls_cons, ih]
    rfl
/-- What a function of the kit's kind made, frozen. -/
theorem own_out {H : Hp} {w W' : World} {e : TypeId} {v : Value} {D : List Int} (hf : Fz H w) (ho : W'.ownsRow w.heap.size e 1 v D.length (D.map (Value.int .i64))) (hb : Below w.heap.size w W') :
    Outp H w (fun H' v => ∃ A cap, v = .slice A D.length cap ∧ Sl H' 1 A (ints8 D)) (.returned v) W' := by
  have hst : St w [] W' := ⟨(fun _ h => by cases h), .nil, (fun _ h => by cases h), Only.of_below hb fun i hi hge => by omega⟩
  have hF : ∀ b c, H b = some c → ∃ t fr, W'.heap[b]? = some (.cells c t fr) := fun b c hc => by
    obtain ⟨t, fr, h⟩ := hf b c hc
    exact ⟨t, fr, (hb.block b (hf.lt hc)).trans h⟩
  rcases ho.2 with ⟨rfl, hn⟩ | ⟨g, cap, cur, rfl, hge, hgb, hnc, hcm, hsz, htk⟩
  · have hD : D = [] := List.eq_nil_of_length_eq_zero hn
    subst hD
    exact ⟨_, H, rfl, Le.refl _ _, ⟨⟨[], rfl, hst, fun _ h => by cases h⟩, hF⟩, none, 0, rfl, Sl.nil _ _ _⟩
  · have hg0 : H g = none := by
      cases hh : H g with
      | none => rfl
      | some c => have := hf.lt hh; omega
    refine ⟨_, fun k => if k = g then some cur else H k, rfl, ⟨fun b c hc => ?_, fun b hb' hn => ?_⟩, ⟨⟨[], rfl, hst, fun _ h => by cases h⟩, fun b c hc => ?_⟩, some ⟨g, 0, none⟩, cap, rfl, els_ints8 D, .inr ⟨g, 0, cur, rfl, if_pos rfl, fun j u hu => ?_⟩⟩
    · show (if b = g then some cur else H b) = some c
      rw [if_neg (by rintro rfl; rw [hg0] at hc; cases hc)]
      exact hc
    · show (if b = g then some cur else H b) = none
      rw [if_neg (by omega)]
      exact hn
    · have hc : (if b = g then some cur else H b) = some c := hc
      by_cases e : b = g
      · rw [if_pos e] at hc
        cases hc
        exact ⟨_, _, by rw [e]; exact hgb⟩
      · rw [if_neg e] at hc
        exact hF b c hc
    · rw [fls_ints8, ← htk] at hu
      rw [Nat.zero_add, ← Array.getElem?_toList]
      rw [List.getElem?_take] at hu
      split at hu
      · exact hu
      · cases hu
theorem bdirect_ok {H : Hp} {w : World} (n l : Int) (hb : l ≤ 1000000) (hf : Fz H w) : Calls Try.prog 60 #[.int .i64 n, .int .i64 l] w (Outp H w (fun H' v => ∃ A cap, v = .slice A (dirL n l).length cap ∧ Sl H' 1 A (ints8 (dirL n l)))) := by
  by_cases hl : 0 ≤ l ∧ l < n
  · refine (dir_in n l hl hb w).mono ?_
    rintro e W' ⟨v, rfl, ho, hB⟩
    exact own_out hf ho hB
  · refine (dir_nil n l (by omega) w).mono ?_
    rintro e W' ⟨rfl, hB⟩
    have : dirL n l = [] := if_neg hl
    rw [this]
    exact own_out (e := 3) (D := []) hf ⟨rfl, .inl ⟨rfl, rfl⟩⟩ hB
theorem rdirect_out {H : Hp} {w : World} (n l : Int) (hb : -1000000 ≤ l ∧ l ≤ 1000000) (hf : Fz H w) : Calls Try.prog 58 #[.int .i64 n, .int .i64 l] w (Outp H w (fun H' v => ∃ A cap, v = .slice A (dirL n l).length cap ∧ Sl H' 1 A (ints8 (dirL n l)))) := by
  refine (rdirect_ok n l hb (Mem.start hf)).mono ?_
  rintro e w' ⟨v, rfl, A, cap, rfl, hM⟩
  obtain ⟨H', hl, hM, hs, _⟩ := hM.fz0
  exact hM.out hl ⟨A, cap, rfl, hs⟩
end Go.Proofs.Ytopcnkejobomaaa
