/- Rows of keys that came in. -/
import Derived.Test.YtopcnkejobomaaaTrRd
import Derived.Test.YtopcnkejobomaaaGpt
namespace Go.Proofs.Ytopcnkejobomaaa
open Go.RowKit

theorem rdr_hs : Rdr Try.prog 41 1 (fun H fs (xs : List H32) => ∃ A cap, fs = [.one (.slice A xs.length cap)] ∧ xs.length ≤ maxLen ∧ Sl H 32 A (kfds xs)) :=
  (rdr_slice Try.underlying41 (by kernel_rfl) (by omega) (rdr_hash.map (rel' := fun _ fs (x : H32) => fs = [.arr 32 (u8s x.1)] ∧ True) fun _ _ x _ h => ⟨x, h, trivial⟩)).map fun H fs xs _ ⟨A, cap, ps, h1, h2, h3, h4⟩ => by
    obtain ⟨rfl, _⟩ := All2.eq_map h4
    exact ⟨xs, A, cap, h1, h2, h3⟩
end Go.Proofs.Ytopcnkejobomaaa
