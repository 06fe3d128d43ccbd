/- Arguments that came in, read as rows of cells. -/
import Derived.Test.YtopcnkejobomaaaBase
import Derived.ProofKit
import Derived.OpenShut
import Derived.ShutString
import Derived.ChangeOld
import Derived.Below
import Derived.SliceStrings
namespace Go.Proofs.Ytopcnkejobomaaa
open Go.RowKit Go.ChangeShapes Go.WideShapes

theorem rd_of {w : World} {x : Addr} {l : List Value} (h : ∀ i v, l[i]? = some v → w.cell? (x.add i) = some v) : Rd w (some x) l := by
  cases l with
  | nil => exact .inl rfl
  | cons v l =>
    have h0 := h 0 v rfl
    obtain ⟨b, off, spot⟩ := x
    have hs : spot = none := by simpa [Addr.add] using World.cell?_spot h0
    subst hs
    refine .inr ⟨b, off, rfl, ?_, fun j u hu => by have := h j u hu; rwa [Addr.add_lit] at this⟩
    exact World.block_lt_of_cell? w _ h0
/-- A slice of integers that came in. -/
theorem rd_ints {H : Type} {enc : TypeId × Value → H} {P : Program} {w : World} {k : IntKind} {t e : TypeId} {a : Option Addr} {len cap : Nat} {d : DataW H} {p : List MemPlace} {base : Nat} {spare : Nat → Bool} {held : Bool} (ht : P.underlying t = some (.slice e)) (he : P.underlying e = some (.int k)) (hC : P.cellsOf e = 1)
    (h : DataW.Trod enc P w base spare held t (.slice a len cap) d p) : ∃ zs : List Int, zs.length = len ∧ Rd w a (zs.map (Value.int k)) ∧ ∀ n ∈ zs, (Lit.int k n).wf = true := by
  obtain ⟨fuel, hf⟩ := h
  rcases open_ints ht he hC hf with ⟨hcs, _⟩ | ⟨x, l, c, zs, hcs, _, hl, hm, hz, _, hcell, hwz⟩
  · simp [Value.cells] at hcs
    obtain ⟨rfl, rfl, rfl⟩ := hcs
    exact ⟨[], rfl, .inl rfl, fun _ h => by cases h⟩
  · simp [Value.cells] at hcs
    obtain ⟨rfl, rfl, rfl⟩ := hcs
    have hzl : len ≤ zs.length := by
      have := hz
      split at this <;> omega
    refine ⟨zs.take len, by rw [List.length_take]; omega, rd_of fun i v hv => ?_, fun n hn => hwz n (List.mem_of_mem_take hn)⟩
    rw [List.getElem?_map, List.getElem?_take] at hv
    split at hv
    · rename_i hi
      have := hcell i (by omega)
      rw [this]
      rw [List.getElem?_eq_getElem (by omega)] at hv
      simp at hv
      rw [← hv, List.getD_eq_getElem?_getD, List.getElem?_eq_getElem (by omega)]
      rfl
    · simp at hv
/-- A slice of strings that came in. -/
theorem rd_strings {H : Type} {enc : TypeId × Value → H} {P : Program} {w : World} {t e : TypeId} {a : Option Addr} {len cap : Nat} {d : DataW H} {p : List MemPlace} {base : Nat} {spare : Nat → Bool} {held : Bool} (ht : P.underlying t = some (.slice e)) (he : P.underlying e = some .string) (hC : P.cellsOf e = 1)
    (h : DataW.Trod enc P w base spare held t (.slice a len cap) d p) : ∃ ss : List ByteArray, ss.length = len ∧ Rd w a (ss.map Value.string) ∧ ∀ s ∈ ss, s.size ≤ maxLen := by
  obtain ⟨fuel, hf⟩ := h
  rcases open_strings ht he hC hf with ⟨hcs, _⟩ | ⟨x, l, c, zs, hcs, _, hl, hm, hz, _, hcell, hwz⟩
  · simp [Value.cells] at hcs
    obtain ⟨rfl, rfl, rfl⟩ := hcs
    exact ⟨[], rfl, .inl rfl, fun _ h => by cases h⟩
  · simp [Value.cells] at hcs
    obtain ⟨rfl, rfl, rfl⟩ := hcs
    have hzl : len ≤ zs.length := by
      have := hz
      split at this <;> omega
    refine ⟨zs.take len, by rw [List.length_take]; omega, rd_of fun i v hv => ?_, fun n hn => hwz n (List.mem_of_mem_take hn)⟩
    rw [List.getElem?_map, List.getElem?_take] at hv
    split at hv
    · rename_i hi
      have := hcell i (by omega)
      rw [this]
      rw [List.getElem?_eq_getElem (by omega)] at hv
      simp at hv
      rw [← hv, List.getD_eq_getElem?_getD, List.getElem?_eq_getElem (by omega)]
      rfl
    · simp at hv
end Go.Proofs.Ytopcnkejobomaaa
