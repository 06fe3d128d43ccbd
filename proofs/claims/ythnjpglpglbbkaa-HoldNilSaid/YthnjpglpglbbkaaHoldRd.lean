/- Hold: items that came in. -/
import Derived.Test.YthnjpglpglbbkaaRd
import Derived.Test.YthnjpglpglbbkaaHoldL
namespace Go.Proofs.Ythnjpglpglbbkaa
open Go.RowKit

theorem rdr_hash : Rdr Try.prog 30 32 (fun _ fs (x : H32) => fs = [.arr 32 (u8s x.1)]) := rdr_h32 Try.underlying30 Try.underlying5 (by kernel_rfl) (by kernel_rfl)
theorem rdr_i64 : Rdr Try.prog 3 1 (fun _ fs (x : Int) => fs = [.one (.int .i64 x)] ∧ (Lit.int .i64 x).wf = true) := rdr_int Try.underlying3 (by kernel_rfl)
theorem rdr_u8 : Rdr Try.prog 5 1 (fun _ fs (x : Int) => fs = [.one (.int .u8 x)] ∧ (Lit.int .u8 x).wf = true) := rdr_int Try.underlying5 (by kernel_rfl)
theorem rdr_text : Rdr Try.prog 9 1 (fun _ fs (x : ByteArray) => fs = [.one (.string x)] ∧ x.size ≤ maxLen) := rdr_str Try.underlying9 (by kernel_rfl)
theorem rdr_ritem : Rdr Try.prog 34 66 (fun _ fs (x : Item) => fs = x.fds) :=
  (rdr_struct (sz := 66) Try.underlying34 (by kernel_rfl) (Rdf.cons rdr_hash rfl rfl rfl (Rdf.cons rdr_hash rfl rfl rfl (Rdf.cons rdr_i64 rfl rfl rfl (Rdf.cons rdr_text rfl rfl rfl (Rdf.nil _)))))).map fun _ fs x _ h => by
    obtain ⟨g1, h1, rfl, _, rfl, g2, h2, rfl, _, rfl, g3, h3, rfl, _, ⟨rfl, _⟩, g4, h4, rfl, _, ⟨rfl, _⟩, rfl⟩ := h
    exact ⟨⟨x.1, x.2.1, x.2.2.1, x.2.2.2.1⟩, rfl⟩
end Go.Proofs.Ythnjpglpglbbkaa
