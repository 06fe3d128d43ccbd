/- Dock: what came in. -/
import Derived.Test.YtihelggfpeokbaaRd
import Derived.Test.YtihelggfpeokbaaDock2
namespace Go.Proofs.Ytihelggfpeokbaa
open Go.RowKit

theorem rdr_i64 : Rdr Try.prog 3 1 (fun _ fs (x : Int) => fs = [.one (.int .i64 x)] ∧ (Lit.int .i64 x).wf = true) := rdr_int Try.underlying3 (by kernel_rfl)
theorem rdr_u8 : Rdr Try.prog 5 1 (fun _ fs (x : Int) => fs = [.one (.int .u8 x)] ∧ (Lit.int .u8 x).wf = true) := rdr_int Try.underlying5 (by kernel_rfl)
theorem rdr_flat {P : Program} {t e sz : Nat} {α : Type} {f : α → List Fd} {good : α → Prop} (ht : P.underlying t = some (.slice e)) (hc : P.cellsOf t = 1) (hsz : 0 < sz) (k : Rdr P e sz (fun _ fs (x : α) => fs = f x ∧ good x)) :
    Rdr P t 1 (fun H fs (xs : List α) => ∃ A cap, fs = [.one (.slice A xs.length cap)] ∧ xs.length ≤ maxLen ∧ Sl H sz A (xs.map f) ∧ ∀ x ∈ xs, good x) :=
  (rdr_slice ht hc hsz k).map fun H fs xs _ ⟨A, cap, ps, h1, h2, h3, h4⟩ => by
    obtain ⟨rfl, hg⟩ := All2.eq_map h4
    exact ⟨xs, A, cap, h1, h2, h3, hg⟩
theorem rdr_ints : Rdr Try.prog 22 1 (fun H fs (xs : List Int) => ∃ A cap, fs = [.one (.slice A xs.length cap)] ∧ xs.length ≤ maxLen ∧ Sl H 1 A (i64s xs) ∧ ∀ x ∈ xs, (Lit.int .i64 x).wf = true) := rdr_flat Try.underlying22 (by kernel_rfl) (by omega) rdr_i64
theorem rdr_bools : Rdr Try.prog 23 1 (fun H fs (xs : List Bool) => ∃ A cap, fs = [.one (.slice A xs.length cap)] ∧ xs.length ≤ maxLen ∧ Sl H 1 A (bools xs) ∧ ∀ x ∈ xs, True) :=
  rdr_flat (good := fun _ => True) Try.underlying23 (by kernel_rfl) (by omega) ((rdr_bool Try.underlying4 (by kernel_rfl)).map fun _ _ x _ h => ⟨x, h, trivial⟩)
end Go.Proofs.Ytihelggfpeokbaa
