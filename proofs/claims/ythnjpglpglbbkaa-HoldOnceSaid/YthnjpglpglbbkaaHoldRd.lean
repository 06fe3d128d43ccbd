/- Hold: items that came in. -/
import Derived.Test.YthnjpglpglbbkaaRd
import Derived.Test.YthnjpglpglbbkaaHoldP
namespace Go.Proofs.Ythnjpglpglbbkaa
open Go.RowKit

theorem rdr_hash : Rdr Try.prog 30 32 (fun _ fs (x : H32) => fs = [.arr 32 (u8s x.1)]) := rdr_h32 Try.underlying30 Try.underlying5 (by kernel_rfl) (by kernel_rfl)
theorem rdr_i64 : Rdr Try.prog 3 1 (fun _ fs (x : Int) => fs = [.one (.int .i64 x)] ∧ (Lit.int .i64 x).wf = true) := rdr_int Try.underlying3 (by kernel_rfl)
theorem rdr_u8 : Rdr Try.prog 5 1 (fun _ fs (x : Int) => fs = [.one (.int .u8 x)] ∧ (Lit.int .u8 x).wf = true) := rdr_int Try.underlying5 (by kernel_rfl)
theorem rdr_text : Rdr Try.prog 9 1 (fun _ fs (x : ByteArray) => fs = [.one (.string x)] ∧ x.size ≤ maxLen) := rdr_str Try.underlying9 (by kernel_rfl)
theorem rdr_ritem : Rdr Try.prog 34 66 (fun _ fs (x : Item) => fs = x.fds) :=
  (rdr_struct (sz := 66) Try.underlying34 (by kernel_rfl) (Rdf.cons rdr_hash rfl rfl rfl (Rdf.cons rdr_hash rfl rfl rfl (Rdf.cons rdr_i64 rfl rfl rfl (Rdf.cons rdr_text rfl rfl rfl (Rdf.nil _)))))).map fun _ fs x _ h => by
    obtain ⟨g1, h1, rfl, _, rfl, g2, h2, rfl, _, rfl, g3, h3, rfl, _, ⟨rfl, _⟩, g4, h4, rfl, _, ⟨rfl, _⟩, rfl⟩ := h
    exact ⟨⟨x.1, x.2.1, x.2.2.1, x.2.2.2.1⟩, rfl⟩
theorem rdr_hact : Rdr Try.prog 79 67 (fun _ fs (x : HAct) => fs = x.fds ∧ (0 ≤ x.op ∧ x.op < 256)) :=
  (rdr_struct (sz := 67) Try.underlying79 (by kernel_rfl) (Rdf.cons rdr_u8 rfl rfl rfl (Rdf.cons rdr_ritem rfl rfl rfl (Rdf.nil _)))).map fun _ fs x _ h => by
    obtain ⟨g1, h1, rfl, _, ⟨rfl, hw⟩, g2, h2, rfl, _, rfl, rfl⟩ := h
    have hb := bounds_u8 hw
    exact ⟨⟨x.1, x.2.1⟩, rfl, by simp only []; omega⟩
theorem rdr_flat {P : Program} {t e sz : Nat} {α : Type} {f : α → List Fd} {good : α → Prop} (ht : P.underlying t = some (.slice e)) (hc : P.cellsOf t = 1) (hsz : 0 < sz) (k : Rdr P e sz (fun _ fs (x : α) => fs = f x ∧ good x)) :
    Rdr P t 1 (fun H fs (xs : List α) => ∃ A cap, fs = [.one (.slice A xs.length cap)] ∧ xs.length ≤ maxLen ∧ Sl H sz A (xs.map f) ∧ ∀ x ∈ xs, good x) :=
  (rdr_slice ht hc hsz k).map fun H fs xs _ ⟨A, cap, ps, h1, h2, h3, h4⟩ => by
    obtain ⟨rfl, hg⟩ := All2.eq_map h4
    exact ⟨xs, A, cap, h1, h2, h3, hg⟩
theorem rdr_hacts : Rdr Try.prog 75 1 (fun H fs (xs : List HAct) => ∃ A cap, fs = [.one (.slice A xs.length cap)] ∧ xs.length ≤ maxLen ∧ Sl H 67 A (xs.map HAct.fds) ∧ ∀ x ∈ xs, 0 ≤ x.op ∧ x.op < 256) := rdr_flat Try.underlying75 (by kernel_rfl) (by omega) rdr_hact
theorem rdr_ritems : Rdr Try.prog 22 1 (fun H fs (xs : List Item) => ∃ A cap, fs = [.one (.slice A xs.length cap)] ∧ xs.length ≤ maxLen ∧ Sl H 66 A (xs.map Item.fds) ∧ ∀ x ∈ xs, True) := rdr_flat Try.underlying22 (by kernel_rfl) (by omega) (rdr_ritem.map fun _ fs x _ h => ⟨x, h, trivial⟩)
theorem room_range {n : Int} (h : (Lit.int .u8 n).wf = true) : 0 ≤ n ∧ n < 256 := by have := bounds_u8 h; omega
end Go.Proofs.Ythnjpglpglbbkaa
