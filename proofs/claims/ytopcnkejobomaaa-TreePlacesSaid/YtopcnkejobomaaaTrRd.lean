/- Trees that came in. -/
import Derived.Test.YtopcnkejobomaaaRd
import Derived.Test.YtopcnkejobomaaaGta
namespace Go.Proofs.Ytopcnkejobomaaa
open Go.RowKit

theorem rdr_hash : Rdr Try.prog 34 32 (fun _ fs (x : H32) => fs = [.arr 32 (u8s x.1)]) := rdr_h32 Try.underlying34 Try.underlying5 (by kernel_rfl) (by kernel_rfl)
theorem rdr_i64 : Rdr Try.prog 3 1 (fun _ fs (x : Int) => fs = [.one (.int .i64 x)] ∧ (Lit.int .i64 x).wf = true) := rdr_int Try.underlying3 (by kernel_rfl)
theorem rdr_u8 : Rdr Try.prog 5 1 (fun _ fs (x : Int) => fs = [.one (.int .u8 x)] ∧ (Lit.int .u8 x).wf = true) := rdr_int Try.underlying5 (by kernel_rfl)
theorem rdr_bo : Rdr Try.prog 4 1 (fun _ fs (x : Bool) => fs = [.one (.bool x)]) := rdr_bool Try.underlying4 (by kernel_rfl)
theorem rdr_lf : Rdr Try.prog 36 97 (fun _ fs (x : Lf) => fs = x.fds ∧ True) :=
  (rdr_struct (sz := 97) Try.underlying36 (by kernel_rfl) (Rdf.cons rdr_i64 rfl rfl rfl (Rdf.cons rdr_hash rfl rfl rfl (Rdf.cons rdr_hash rfl rfl rfl (Rdf.cons rdr_hash rfl rfl rfl (Rdf.nil _)))))).map fun _ fs x _ h => by
    obtain ⟨g1, h1, rfl, _, ⟨rfl, _⟩, g2, h2, rfl, _, rfl, g3, h3, rfl, _, rfl, g4, h4, rfl, _, rfl, rfl⟩ := h
    exact ⟨⟨x.1, x.2.1, x.2.2.1, x.2.2.2.1⟩, rfl, trivial⟩
theorem rdr_ints8 : Rdr Try.prog 29 1 (fun H fs (xs : List Int) => ∃ A cap, fs = [.one (.slice A xs.length cap)] ∧ xs.length ≤ maxLen ∧ Sl H 1 A (ints8 xs)) :=
  (rdr_slice Try.underlying29 (by kernel_rfl) (by omega) rdr_i64).map fun H fs xs _ ⟨A, cap, ps, h1, h2, h3, h4⟩ => by
    obtain ⟨rfl, _⟩ := All2.eq_map h4
    exact ⟨xs, A, cap, h1, h2, h3⟩
theorem rdr_pn : Rdr Try.prog 96 66 PnF :=
  (rdr_struct (sz := 66) Try.underlying96 (by kernel_rfl) (Rdf.cons rdr_bo rfl rfl rfl (Rdf.cons rdr_hash rfl rfl rfl (Rdf.cons rdr_hash rfl rfl rfl (Rdf.cons rdr_ints8 rfl rfl rfl (Rdf.nil _)))))).map fun _ fs x _ h => by
    obtain ⟨g1, h1, rfl, _, rfl, g2, h2, rfl, _, rfl, g3, h3, rfl, _, rfl, g4, h4, rfl, _, ⟨A, c, rfl, hl, hs⟩, rfl⟩ := h
    exact ⟨⟨x.1, x.2.1, x.2.2.1, x.2.2.2.1⟩, A, c, rfl, hs, hl⟩
theorem rdr_lfs : Rdr Try.prog 24 1 (fun H fs (xs : List Lf) => ∃ A cap, fs = [.one (.slice A xs.length cap)] ∧ xs.length ≤ maxLen ∧ Sl H 97 A (xs.map Lf.fds)) :=
  (rdr_slice Try.underlying24 (by kernel_rfl) (by omega) rdr_lf).map fun H fs xs _ ⟨A, cap, ps, h1, h2, h3, h4⟩ => by
    obtain ⟨rfl, _⟩ := All2.eq_map h4
    exact ⟨xs, A, cap, h1, h2, h3⟩
theorem rdr_pns : Rdr Try.prog 25 1 (fun H fs (xs : List Pn) => ∃ A cap ps, fs = [.one (.slice A xs.length cap)] ∧ xs.length ≤ maxLen ∧ Sl H 66 A ps ∧ All2 (PnF H) ps xs) :=
  rdr_slice Try.underlying25 (by kernel_rfl) (by omega) rdr_pn
theorem rdr_tr : Rdr Try.prog 27 2 (fun H fs (t : Tr) => TrF H (.agg (fl fs).toArray) t) :=
  (rdr_struct (sz := 2) Try.underlying27 (by kernel_rfl) (Rdf.cons rdr_lfs rfl rfl rfl (Rdf.cons rdr_pns rfl rfl rfl (Rdf.nil _)))).map fun _ fs x _ h => by
    obtain ⟨g1, h1, rfl, _, ⟨A, a, rfl, hl, hs⟩, g2, h2, rfl, _, ⟨B, b, q, rfl, hl2, hs2, ha⟩, rfl⟩ := h
    exact ⟨⟨x.1, x.2.1⟩, ⟨A, a, B, b, q, rfl, hs, hs2, ha⟩, hl, hl2⟩
end Go.Proofs.Ytopcnkejobomaaa
