/- Bough, plainly: nodes of a left-balanced tree; the program's ways to them, the document's, and that these are the same. -/
import Derived.Test.YtmjpbomonhjebaaMby
namespace Go.Proofs.Ytmjpbomonhjebaa
open Go.RowKit

def lev : Nat → Int → Int
  | 0, _ => 0
  | f + 1, x => if x % 2 = 1 then lev f (x / 2) + 1 else 0
def level (x : Int) : Int := lev 8 x
def thr (n x : Int) : Prop := (1 ≤ n ∧ n ≤ 64) ∧ 0 ≤ x ∧ x ≤ 2 * n - 2
instance (n x : Int) : Decidable (thr n x) := by unfold thr; infer_instance
def pw (k : Int) : Int := 2 ^ k.toNat
def rtN (n : Int) : Int := if n ≤ 1 then 1 else if n ≤ 2 then 2 else if n ≤ 4 then 4 else if n ≤ 8 then 8 else if n ≤ 16 then 16 else if n ≤ 32 then 32 else 64
def root (n : Int) : Int := if thr n 0 then rtN n - 1 else -1
def pLeft (n x : Int) : Int := if thr n x ∧ level x ≠ 0 then x - pw (level x - 1) else -1
def rg : Nat → Int → Int → Int
  | 0, _, x => x
  | f + 1, n, x => if thr n x then x else rg f n (x - pw (level x - 1))
/-- The way ends in time, by nodes that are. -/
def okr : Nat → Int → Int → Bool
  | 0, _, _ => false
  | f + 1, n, x => decide (0 ≤ x ∧ x < 128) && (decide (thr n x) || (decide (1 ≤ level x) && okr f n (x - pw (level x - 1))))
def pRight (n x : Int) : Int := if thr n x ∧ level x ≠ 0 then rg 8 n (x + pw (level x - 1)) else -1
def up1 (x : Int) : Int := x - x / pw (level x + 1) % 2 * pw (level x + 1) + pw (level x)
def ug : Nat → Int → Int → Int
  | 0, _, x => x
  | f + 1, n, x => if thr n (up1 x) then up1 x else ug f n (up1 x)
def oku : Nat → Int → Int → Bool
  | 0, _, _ => false
  | f + 1, n, x => decide (0 ≤ x ∧ x < 128) && (decide (thr n (up1 x)) || oku f n (up1 x))
def pAbove (n x : Int) : Int := if thr n x ∧ x ≠ root n then ug 8 n x else -1
def pBeside (n x : Int) : Int := if pAbove n x < 0 then -1 else if x < pAbove n x then pRight n (pAbove n x) else pLeft n (pAbove n x)
def pFrom (n x : Int) : Int := if thr n x then (x + 1 - pw (level x)) / 2 else 0
def pTo (n x : Int) : Int := if thr n x then min ((x + 1 + pw (level x)) / 2) n else 0

/-! The document's. -/
def halfI (n : Int) : Int := if n ≤ 2 then 1 else if n ≤ 4 then 2 else if n ≤ 8 then 4 else if n ≤ 16 then 8 else if n ≤ 32 then 16 else 32
def rootI (a n : Int) : Int := if n = 1 then 2 * a else 2 * (a + halfI n) - 1
def fnd : Nat → Int → Int → Int → Int → Int → Int × Int × Int × Int
  | 0, a, n, _, p, b => (a, n, p, b)
  | f + 1, a, n, x, p, b => if rootI a n = x then (a, n, p, b) else if x < rootI a n then fnd f a (halfI n) x (rootI a n) (rootI (a + halfI n) (n - halfI n)) else fnd f (a + halfI n) (n - halfI n) x (rootI a n) (rootI a (halfI n))
def fd (n x : Int) : Int × Int × Int × Int := fnd 7 0 n x (-1) (-1)
def rRoot (n : Int) : Int := if thr n 0 then rootI 0 n else -1
def lf (n x : Int) : Int := if thr n x then (if (fd n x).2.1 = 1 then -1 else rootI (fd n x).1 (halfI (fd n x).2.1)) else -1
def rt (n x : Int) : Int := if thr n x then (if (fd n x).2.1 = 1 then -1 else rootI ((fd n x).1 + halfI (fd n x).2.1) ((fd n x).2.1 - halfI (fd n x).2.1)) else -1
def ab (n x : Int) : Int := if thr n x then (fd n x).2.2.1 else -1
def bs (n x : Int) : Int := if thr n x then (fd n x).2.2.2 else -1
def fro (n x : Int) : Int := if thr n x then (fd n x).1 else 0
def til (n x : Int) : Int := if thr n x then (fd n x).1 + (fd n x).2.1 else 0
def hld (n x p : Int) : Prop := fro n x ≤ p ∧ p < til n x
instance (n x p : Int) : Decidable (hld n x p) := by unfold hld; infer_instance
def dirF : Nat → Int → Int → List Int
  | 0, _, _ => []
  | f + 1, n, x => if ab n x < 0 then [] else ab n x :: dirF f n (ab n x)
/-- The nodes above a leaf. -/
def dirL (n l : Int) : List Int := if 0 ≤ l ∧ l < n then dirF 8 n (2 * l) else []

set_option maxRecDepth 100000 in
theorem bough_fin : ∀ n : Fin 65, ∀ x : Fin 127, thr (n.val : Int) (x.val : Int) →
    pLeft n.val x.val = lf n.val x.val ∧ pRight n.val x.val = rt n.val x.val ∧ pAbove n.val x.val = ab n.val x.val ∧ pBeside n.val x.val = bs n.val x.val ∧ pFrom n.val x.val = fro n.val x.val ∧ pTo n.val x.val = til n.val x.val ∧
    (level x.val ≠ 0 → okr 8 n.val (x.val + pw (level x.val - 1)) = true) ∧ ((x.val : Int) ≠ root n.val → oku 8 n.val x.val = true) ∧ root n.val = rRoot n.val := by decide +kernel
end Go.Proofs.Ytmjpbomonhjebaa
