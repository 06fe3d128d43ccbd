/- Dock: calls that came in. -/
import Derived.Test.YtihelggfpeokbaaDockRd
import Derived.Test.YtihelggfpeokbaaDock5
namespace Go.Proofs.Ytihelggfpeokbaa
open Go.RowKit

theorem rdr_r3 : Rdr Try.prog 34 3 (fun _ fs (x : List Int) => fs = [.arr 3 (x.map (Value.int .u8))] ∧ x.length = 3 ∧ ∀ n ∈ x, (Lit.int .u8 n).wf = true) :=
  rdr_arr Try.underlying34 Try.underlying5 (by kernel_rfl) (by kernel_rfl)
theorem rdr_dact : Rdr Try.prog 41 3 (fun _ fs (x : DAct) => fs = x.fds ∧ x.good) :=
  (rdr_struct (sz := 3) Try.underlying41 (by kernel_rfl) (Rdf.cons rdr_u8 rfl rfl rfl (Rdf.cons rdr_u8 rfl rfl rfl (Rdf.cons rdr_i64 rfl rfl rfl (Rdf.nil _))))).map fun _ fs x _ h => by
    obtain ⟨g1, h1, rfl, _, ⟨rfl, hw⟩, g2, h2, rfl, _, ⟨rfl, hw2⟩, g3, h3, rfl, _, ⟨rfl, _⟩, rfl⟩ := h
    have hb := bounds_u8 hw
    have hb2 := bounds_u8 hw2
    exact ⟨⟨x.1, x.2.1, x.2.2.1⟩, rfl, by simp only []; omega, by simp only []; omega⟩
theorem rdr_dacts : Rdr Try.prog 35 1 (fun H fs (xs : List DAct) => ∃ A cap, fs = [.one (.slice A xs.length cap)] ∧ xs.length ≤ maxLen ∧ Sl H 3 A (xs.map DAct.fds) ∧ ∀ x ∈ xs, x.good) := rdr_flat Try.underlying35 (by kernel_rfl) (by omega) rdr_dact
theorem three (x : List Int) (h : x.length = 3) (hb : ∀ n ∈ x, (Lit.int .u8 n).wf = true) : ∃ r0 r1 r2 : Nat, x = [(r0 : Int), r1, r2] ∧ r0 < 256 ∧ r1 < 256 ∧ r2 < 256 := by
  match x, h with
  | [a, b, c], _ =>
    have h1 := bounds_u8 (hb a (by simp))
    have h2 := bounds_u8 (hb b (by simp))
    have h3 := bounds_u8 (hb c (by simp))
    obtain ⟨r0, rfl⟩ := Int.eq_ofNat_of_zero_le (a := a) (by omega)
    obtain ⟨r1, rfl⟩ := Int.eq_ofNat_of_zero_le (a := b) (by omega)
    obtain ⟨r2, rfl⟩ := Int.eq_ofNat_of_zero_le (a := c) (by omega)
    exact ⟨r0, r1, r2, rfl, by omega, by omega, by omega⟩
theorem dockPlays2_ok {H : Hp} {w : World} (x : List Int) (h : x.length = 3) (hb : ∀ n ∈ x, (Lit.int .u8 n).wf = true) (acts : List DAct) (hg : ∀ x ∈ acts, x.good) (A : Option Addr) (cap : Nat) (hs : Sl H 3 A (acts.map DAct.fds)) (hf : Fz H w) :
    Calls Try.prog 4 #[.agg (x.map (Value.int .u8)).toArray, .slice A acts.length cap] w fun en w' => en = .returned (.bool true) ∧ St w [] w' := by
  obtain ⟨r0, r1, r2, rfl, hr⟩ := three x h hb
  exact dockPlays_ok r0 r1 r2 hr acts hg A cap hs hf
end Go.Proofs.Ytihelggfpeokbaa
