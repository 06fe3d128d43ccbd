/- Plea: calls that came in. -/
import Derived.Test.YthnjpglpglbbkaaRd
import Derived.Test.YthnjpglpglbbkaaPleaL
namespace Go.Proofs.Ythnjpglpglbbkaa
open Go.RowKit

theorem rdr_hash : Rdr Try.prog 30 32 (fun _ fs (x : H32) => fs = [.arr 32 (u8s x.1)]) := rdr_h32 Try.underlying30 Try.underlying5 (by kernel_rfl) (by kernel_rfl)
theorem rdr_i64 : Rdr Try.prog 3 1 (fun _ fs (x : Int) => fs = [.one (.int .i64 x)] ∧ (Lit.int .i64 x).wf = true) := rdr_int Try.underlying3 (by kernel_rfl)
theorem rdr_u8 : Rdr Try.prog 5 1 (fun _ fs (x : Int) => fs = [.one (.int .u8 x)] ∧ (Lit.int .u8 x).wf = true) := rdr_int Try.underlying5 (by kernel_rfl)
theorem rdr_chg : Rdr Try.prog 117 34 (fun _ fs (x : Chg) => fs = x.fds) :=
  (rdr_struct (sz := 34) Try.underlying117 (by kernel_rfl) (Rdf.cons rdr_i64 rfl rfl rfl (Rdf.cons rdr_i64 rfl rfl rfl (Rdf.cons rdr_hash rfl rfl rfl (Rdf.nil _))))).map fun _ fs x _ h => by
    obtain ⟨g1, h1, rfl, _, ⟨rfl, _⟩, g2, h2, rfl, _, ⟨rfl, _⟩, g3, h3, rfl, _, rfl, rfl⟩ := h
    exact ⟨⟨x.1, x.2.1, x.2.2.1⟩, rfl⟩
theorem rdr_flat {P : Program} {t e sz : Nat} {α : Type} {f : α → List Fd} {good : α → Prop} (ht : P.underlying t = some (.slice e)) (hc : P.cellsOf t = 1) (hsz : 0 < sz) (k : Rdr P e sz (fun _ fs (x : α) => fs = f x ∧ good x)) :
    Rdr P t 1 (fun H fs (xs : List α) => ∃ A cap, fs = [.one (.slice A xs.length cap)] ∧ xs.length ≤ maxLen ∧ Sl H sz A (xs.map f) ∧ ∀ x ∈ xs, good x) :=
  (rdr_slice ht hc hsz k).map fun H fs xs _ ⟨A, cap, ps, h1, h2, h3, h4⟩ => by
    obtain ⟨rfl, hg⟩ := All2.eq_map h4
    exact ⟨xs, A, cap, h1, h2, h3, hg⟩
theorem rdr_ints : Rdr Try.prog 41 1 (fun H fs (xs : List Int) => ∃ A cap, fs = [.one (.slice A xs.length cap)] ∧ xs.length ≤ maxLen ∧ Sl H 1 A (i64s xs) ∧ ∀ x ∈ xs, (Lit.int .i64 x).wf = true) := rdr_flat Try.underlying41 (by kernel_rfl) (by omega) rdr_i64
theorem rdr_f8 : Rdr Try.prog 118 8 (fun _ fs (x : F8) => fs = [.arr 8 (x.1.map (Value.int .i64))]) :=
  (rdr_arr Try.underlying118 Try.underlying3 (by kernel_rfl) (by kernel_rfl)).map fun _ _ x _ ⟨h1, h2, _⟩ => ⟨⟨x, h2⟩, h1⟩
/-- What is known of a call that came in. -/
def PAct.good (H : Hp) (x : PAct) : Prop := (0 ≤ x.op ∧ x.op < 256) ∧ x.seqs.length ≤ maxLen ∧ Sl H 1 x.A (i64s x.seqs)
theorem rdr_pact : Rdr Try.prog 120 76 (fun H fs (x : PAct) => fs = x.fds ∧ x.good H) :=
  (rdr_struct (sz := 76) Try.underlying120 (by kernel_rfl) (Rdf.cons rdr_u8 rfl rfl rfl (Rdf.cons rdr_chg rfl rfl rfl (Rdf.cons rdr_hash rfl rfl rfl (Rdf.cons rdr_ints rfl rfl rfl (Rdf.cons rdr_f8 rfl rfl rfl (Rdf.nil _))))))).map fun _ fs x _ h => by
    obtain ⟨g1, h1, rfl, _, ⟨rfl, hw⟩, g2, h2, rfl, _, rfl, g3, h3, rfl, _, rfl, g4, h4, rfl, _, ⟨A, c, rfl, hl, hs, _⟩, g5, h5, rfl, _, rfl, rfl⟩ := h
    have hb := bounds_u8 hw
    exact ⟨⟨x.1, x.2.1, x.2.2.1, A, c, x.2.2.2.1, x.2.2.2.2.1⟩, rfl, by simp only []; omega, hl, hs⟩
end Go.Proofs.Ythnjpglpglbbkaa
