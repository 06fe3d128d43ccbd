/- Trees, plainly: leaves, parents, what is right; how they lie frozen. -/
import Derived.Test.YtmjpbomonhjebaaBo4
import Derived.Test.YtmjpbomonhjebaaRd
import Derived.Test.YtmjpbomonhjebaaMse
namespace Go.Proofs.Ytmjpbomonhjebaa
open Go.RowKit

structure Lf where
  name : Int
  pub : H32
  ver : H32
  abv : H32
deriving DecidableEq
abbrev Lf.fds (l : Lf) : List Fd := [.one (.int .i64 l.name), .arr 32 (u8s l.pub.1), .arr 32 (u8s l.ver.1), .arr 32 (u8s l.abv.1)]
abbrev lv (l : Lf) : Value := .agg (fl l.fds).toArray
def Lf.zero : Lf := ⟨0, hzero, hzero, hzero⟩
structure Pn where
  set : Bool
  pub : H32
  abv : H32
  loose : List Int
deriving DecidableEq
def Pn.zero : Pn := ⟨false, hzero, hzero, []⟩
structure Tr where
  ls : List Lf
  ps : List Pn
deriving DecidableEq
def Tr.none : Tr := ⟨[], []⟩

def nameAt (ls : List Lf) (p : Int) : Int := match ls[p.toNat]? with
  | some l => l.name
  | none => 0
/-- s: the names ahead. -/
def leavesB : List Int → List Lf → Bool
  | _, [] => true
  | s, l :: r => if l = Lf.zero then leavesB s r else decide ((1 ≤ l.name ∧ l.name ≤ 64) ∧ l.name ∉ s) && leavesB (l.name :: s) r
/-- o: the place ahead; behind the last: above all of them. -/
def looseB (n : Int) (ls : List Lf) (x : Int) : Option Int → List Int → Bool
  | _, [] => true
  | o, p :: r => decide (hld n x p ∧ nameAt ls p ≠ 0 ∧ ∀ q ∈ o, q < p) && looseB n ls x (some p) r
def Pn.isZero (p : Pn) : Prop := p.set = false ∧ p.pub = hzero ∧ p.abv = hzero ∧ p.loose = []
instance (p : Pn) : Decidable p.isZero := by unfold Pn.isZero; infer_instance
def parB (n : Int) (ls : List Lf) : Int → List Pn → Bool
  | _, [] => true
  | x, p :: r => (p.set || decide p.isZero) && looseB n ls x none p.loose && parB n ls (x + 2) r
abbrev Tr.size (t : Tr) : Int := t.ls.length
def Tr.right (t : Tr) : Bool := decide (t.ls.length ≤ 64 ∧ t.ps.length = t.ls.length - 1) && leavesB [] t.ls && parB t.size t.ls 1 t.ps && decide (t.ls = [] ∨ 0 < nameAt t.ls (t.size - 1))
def Tr.few (t : Tr) : Prop := t.ls.length ≤ 100 ∧ t.ps.length ≤ 100 ∧ ∀ p ∈ t.ps, p.loose.length ≤ 100
instance (t : Tr) : Decidable t.few := by unfold Tr.few; infer_instance

abbrev Pn.row (p : Pn) (C : Option Addr) (c : Nat) : List Fd := [.one (.bool p.set), .arr 32 (u8s p.pub.1), .arr 32 (u8s p.abv.1), .one (.slice C p.loose.length c)]
def PnF (H : Hp) (q : List Fd) (p : Pn) : Prop := ∃ C c, q = p.row C c ∧ Sl H 1 C (ints8 p.loose) ∧ p.loose.length ≤ maxLen
theorem PnF.mono {H H' : Hp} {q : List Fd} {p : Pn} (h : PnF H q p) (k : H.le H') : PnF H' q p := by
  obtain ⟨C, c, h1, h2, h3⟩ := h
  exact ⟨C, c, h1, h2.mono k, h3⟩
theorem All2.mono {α : Type} {r r' : List Fd → α → Prop} (h : ∀ q x, r q x → r' q x) : ∀ {ps : List (List Fd)} {xs : List α}, All2 r ps xs → All2 r' ps xs
  | [], [], _ => trivial
  | _ :: _, _ :: _, k => ⟨h _ _ k.1, k.2.mono h⟩
  | [], _ :: _, k => k.elim
  | _ :: _, [], k => k.elim
theorem All2.at_ {α : Type} {r : List Fd → α → Prop} : ∀ {ps : List (List Fd)} {xs : List α}, All2 r ps xs → ∀ {i : Nat} (h : i < xs.length), ∃ q, ps[i]? = some q ∧ r q xs[i]
  | [], [], _, i, h => by cases h
  | q :: ps, x :: xs, k, 0, _ => ⟨q, rfl, k.1⟩
  | q :: ps, x :: xs, k, i + 1, h => by
    obtain ⟨q', h1, h2⟩ := k.2.at_ (i := i) (by simpa using h)
    exact ⟨q', by simpa using h1, by simpa using h2⟩
  | [], _ :: _, k, _, _ => k.elim
  | _ :: _, [], k, _, _ => k.elim
abbrev tfd (A : Option Addr) (n a : Nat) (B : Option Addr) (m b : Nat) : List Fd := [.one (.slice A n a), .one (.slice B m b)]
abbrev tv (A : Option Addr) (n a : Nat) (B : Option Addr) (m b : Nat) : Value := .agg (fl (tfd A n a B m b)).toArray
theorem lf_zero (l : Lf) : l = Lf.zero ↔ (l.name = 0 ∧ l.pub = hzero ∧ l.ver = hzero ∧ l.abv = hzero) := by
  cases l
  simp [Lf.zero]
theorem nameAt_get {ls : List Lf} {i : Nat} (h : i < ls.length) : nameAt ls i = ls[i].name := by
  unfold nameAt
  simp [h]
/-- A tree that lies frozen. -/
structure TrF (H : Hp) (v : Value) (t : Tr) : Prop where
  ex : ∃ A a B b qs, v = tv A t.ls.length a B t.ps.length b ∧ Sl H 97 A (t.ls.map Lf.fds) ∧ Sl H 66 B qs ∧ All2 (PnF H) qs t.ps
  len : t.ls.length ≤ maxLen ∧ t.ps.length ≤ maxLen
theorem TrF.mono {H H' : Hp} {v : Value} {t : Tr} (h : TrF H v t) (k : H.le H') : TrF H' v t := by
  obtain ⟨A, a, B, b, qs, h1, h2, h3, h4⟩ := h.ex
  exact ⟨⟨A, a, B, b, qs, h1, h2.mono k, h3.mono k, h4.mono fun _ _ h => h.mono k⟩, h.len⟩
end Go.Proofs.Ytmjpbomonhjebaa
