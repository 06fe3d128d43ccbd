/- An array of integers that came in by value. -/
import Derived.Test.YtopcnkejobomaaaRead
import Derived.WideKeyArr2
import Derived.ChangeMaps5
namespace Go.Proofs.Ytopcnkejobomaaa
open Go.RowKit Go.ChangeShapes Go.WideShapes

/-- A slice that came in is not too long. -/
theorem len_slice {H : Type} {enc : TypeId × Value → H} {P : Program} {w : World} {t e : TypeId} {a : Option Addr} {len cap : Nat} {d : DataW H} {p : List MemPlace} {base : Nat} {spare : Nat → Bool} {held : Bool} (ht : P.underlying t = some (.slice e))
    (h : DataW.Trod enc P w base spare held t (.slice a len cap) d p) : len ≤ maxLen := by
  obtain ⟨fuel, hf⟩ := h
  rcases DataW.trod_slice ht hf with ⟨h0, _⟩ | ⟨a', len', cap', elems, rest, n, _, h0, _, _, hl, hm, _⟩
  · simp [Value.cells] at h0
    omega
  · simp [Value.cells] at h0
    obtain ⟨_, rfl, rfl⟩ := h0
    omega
/-- An array of integers. -/
theorem rd_arr {H : Type} {enc : TypeId × Value → H} {P : Program} {w : World} {q : IntKind} {t e : TypeId} {n : Nat} {v : Value} {d : DataW H} {p : List MemPlace} {base b0 : Nat} {r : Reach} {spare : Nat → Bool} {held : Bool} (A : Go.WideMaps.ArrKey P t e n) (he : P.underlying e = some (.int q))
    (hv : Value.okWide P w r b0 t v) (h : DataW.Trod enc P w base spare held t v d p) : ∃ zs : List Int, v = .agg (zs.map (Value.int q)).toArray ∧ zs.length = n ∧ p = [] ∧ ∀ z ∈ zs, (Lit.int q z).wf = true := by
  obtain ⟨xs, rfl, hn⟩ := Go.WideMaps.okWide_arr A hv
  obtain ⟨fuel, hf⟩ := h
  obtain ⟨ys, m, _, hx, _, hl, hcell⟩ := DataW.trod_array A.hu hf
  simp only [A.one, Value.cells] at hcell
  have hone : ∀ i, i < n → ∃ a, xs.toList[i]? = some (.int q a) ∧ (Lit.int q a).wf = true ∧ ∃ y, ys[i]? = some y ∧ y.2 = [] := fun i hi => by
    have h1 := hcell i hi
    rw [List.getElem?_eq_getElem (by omega)] at h1
    obtain ⟨a, ea, hy, wa⟩ := DataW.trod_int he h1
    refine ⟨a, ?_, wa, ys[i], List.getElem?_eq_getElem (by omega), by rw [hy]⟩
    have := congrArg (·[0]?) ea
    simpa using this
  let f : Value → Int := fun v => match v with | .int _ a => a | _ => 0
  refine ⟨xs.toList.map f, ?_, by simpa using hn, ?_, ?_⟩
  · congr 1
    apply Array.ext'
    simp only [List.map_map]
    refine List.ext_getElem (by simp) fun i g1 g2 => ?_
    obtain ⟨a, ha, _⟩ := hone i (by simpa [hn] using g1)
    rw [List.getElem?_eq_getElem g1] at ha
    simp only [Option.some.injEq] at ha
    simp only [List.getElem_map, ha, Function.comp, f]
  · rw [show p = ys.flatMap (·.2) from congrArg Prod.snd hx]
    simp only [List.flatMap_eq_nil_iff]
    intro x hx
    obtain ⟨i, g1, rfl⟩ := List.mem_iff_getElem.1 hx
    obtain ⟨a, _, _, y, hy, hy2⟩ := hone i (by omega)
    rw [List.getElem?_eq_getElem g1] at hy
    simp only [Option.some.injEq] at hy
    rw [hy]; exact hy2
  · intro z hz
    obtain ⟨v, hv, rfl⟩ := List.mem_map.1 hz
    obtain ⟨i, g1, rfl⟩ := List.mem_iff_getElem.1 hv
    obtain ⟨a, ha, hw, _⟩ := hone i (by simpa [hn] using g1)
    rw [List.getElem?_eq_getElem g1] at ha
    simp only [Option.some.injEq] at ha
    rw [ha]
    exact hw
theorem byte_range {n : Int} (h : (Lit.int .u8 n).wf = true) : 0 ≤ n ∧ n < 256 := by have := bounds_u8 h; omega
end Go.Proofs.Ytopcnkejobomaaa
