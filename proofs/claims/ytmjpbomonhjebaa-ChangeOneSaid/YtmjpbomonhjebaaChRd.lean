/- Change: proposals that came in. -/
import Derived.Test.YtmjpbomonhjebaaRd
import Derived.Test.YtmjpbomonhjebaaCh3
namespace Go.Proofs.Ytmjpbomonhjebaa
open Go.RowKit

structure Chn where
  kind : Int
  name : Int
  pub : H32
abbrev Chn.fds (c : Chn) : List Fd := [.one (.int .i64 c.kind), .one (.int .i64 c.name), .arr 32 (u8s c.pub.1)]
theorem rdr_hash : Rdr Try.prog 23 32 (fun _ fs (x : H32) => fs = [.arr 32 (u8s x.1)]) := rdr_h32 Try.underlying23 Try.underlying5 (by kernel_rfl) (by kernel_rfl)
theorem rdr_i64 : Rdr Try.prog 3 1 (fun _ fs (x : Int) => fs = [.one (.int .i64 x)] ∧ (Lit.int .i64 x).wf = true) := rdr_int Try.underlying3 (by kernel_rfl)
theorem rdr_chg : Rdr Try.prog 25 34 (fun _ fs (x : Chn) => fs = x.fds) :=
  (rdr_struct (sz := 34) Try.underlying25 (by kernel_rfl) (Rdf.cons rdr_i64 rfl rfl rfl (Rdf.cons rdr_i64 rfl rfl rfl (Rdf.cons rdr_hash rfl rfl rfl (Rdf.nil _))))).map fun _ fs x _ h => by
    obtain ⟨g1, h1, rfl, _, ⟨rfl, _⟩, g2, h2, rfl, _, ⟨rfl, _⟩, g3, h3, rfl, _, rfl, rfl⟩ := h
    exact ⟨⟨x.1, x.2.1, x.2.2.1⟩, rfl⟩
theorem rdr_prp : Rdr Try.prog 27 101 (fun _ fs (x : Prp) => fs = x.fds) :=
  (rdr_struct (sz := 101) Try.underlying27 (by kernel_rfl) (Rdf.cons rdr_hash rfl rfl rfl (Rdf.cons rdr_i64 rfl rfl rfl (Rdf.cons rdr_i64 rfl rfl rfl (Rdf.cons rdr_i64 rfl rfl rfl (Rdf.cons rdr_chg rfl rfl rfl (Rdf.cons rdr_hash rfl rfl rfl (Rdf.nil _)))))))).map fun _ fs x _ h => by
    obtain ⟨g1, h1, rfl, _, rfl, g2, h2, rfl, _, ⟨rfl, _⟩, g3, h3, rfl, _, ⟨rfl, _⟩, g4, h4, rfl, _, ⟨rfl, _⟩, g5, h5, rfl, _, rfl, g6, h6, rfl, _, rfl, rfl⟩ := h
    exact ⟨⟨x.1, x.2.1, x.2.2.1, x.2.2.2.1, x.2.2.2.2.1.1, x.2.2.2.2.1.2, x.2.2.2.2.1.3, x.2.2.2.2.2.1⟩, rfl⟩
end Go.Proofs.Ytmjpbomonhjebaa
