/- The nodes above a leaf are those that hold it. -/
import Derived.Test.YtmjpbomonhjebaaBo0
namespace Go.Proofs.Ytmjpbomonhjebaa
open Go.RowKit

def cand (k l : Nat) : Int := (l / 2 ^ k * 2 ^ (k + 1) + 2 ^ k - 1 : Nat)
def cands (n l : Nat) : List Int := ([1, 2, 3, 4, 5, 6].map fun k => cand k l).filter fun x => decide (x ≤ 2 * (n : Int) - 2)
set_option maxRecDepth 100000 in
theorem dir_fin : ∀ n : Fin 65, ∀ l : Fin 64, l.val < n.val → dirL n.val l.val = cands n.val l.val := by decide +kernel
set_option maxRecDepth 100000 in
theorem hold_fin : ∀ i : Fin 63, ∀ l : Fin 64, (1 ≤ level (2 * (i.val : Int) + 1) ∧ level (2 * (i.val : Int) + 1) ≤ 6) ∧ (((2 * (i.val : Int) + 1 + 1 - pw (level (2 * i.val + 1))) / 2 ≤ l.val ∧ (l.val : Int) < (2 * i.val + 1 + 1 + pw (level (2 * i.val + 1))) / 2) ↔ cand (level (2 * i.val + 1)).toNat l.val = 2 * i.val + 1) := by decide +kernel
set_option maxRecDepth 100000 in
theorem cand_fin : ∀ k : Fin 7, ∀ l : Fin 64, 1 ≤ k.val → cand k.val l.val % 2 = 1 ∧ 0 ≤ cand k.val l.val ∧ cand k.val l.val < 127 ∧ level (cand k.val l.val) = k.val := by decide +kernel
def okd : Nat → Int → Int → Bool
  | 0, n, x => decide (ab n x < 0)
  | f + 1, n, x => decide (ab n x < 0) || okd f n (ab n x)
set_option maxRecDepth 100000 in
theorem okd_fin : ∀ n : Fin 65, ∀ x : Fin 127, thr (n.val : Int) (x.val : Int) → okd 8 n.val x.val = true := by decide +kernel
set_option maxRecDepth 100000 in
theorem lvl_fin : ∀ n : Fin 65, ∀ x : Fin 127, thr (n.val : Int) (x.val : Int) → ab n.val x.val < 0 ∨ level x.val < level (ab n.val x.val) ∧ level (ab n.val x.val) ≤ 7 := by decide +kernel
end Go.Proofs.Ytmjpbomonhjebaa
