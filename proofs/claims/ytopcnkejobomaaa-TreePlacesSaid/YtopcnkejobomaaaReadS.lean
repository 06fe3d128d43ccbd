/- Slices of structs that came in, read as rows of cells. -/
import Derived.Test.YtopcnkejobomaaaRead
import Derived.Deep.Slices
import Derived.Deep.Strs
import Derived.ChangeSame
namespace Go.Proofs.Ytopcnkejobomaaa
open Go.RowKit Go.ChangeShapes Go.WideShapes Go.Deep

theorem flat_get {α : Type} {cells : α → List Value} {C : Nat} (hC : ∀ x, (cells x).length = C) : ∀ (xs : List α) (q : Nat) (v : Value), (xs.flatMap cells)[q]? = some v →
    ∃ (hq : q / C < xs.length), (cells xs[q / C])[q % C]? = some v
  | [], q, v, h => by simp at h
  | x :: xs, q, v, h => by
    rw [List.flatMap_cons] at h
    rcases Nat.lt_or_ge q C with hlt | hge
    · rw [List.getElem?_append_left (by rw [hC]; exact hlt)] at h
      refine ⟨by rw [Nat.div_eq_of_lt hlt]; simp, ?_⟩
      simp only [Nat.div_eq_of_lt hlt, Nat.mod_eq_of_lt hlt, List.getElem_cons_zero]
      exact h
    · rw [List.getElem?_append_right (by rw [hC]; exact hge), hC] at h
      obtain ⟨hq, hv⟩ := flat_get hC xs (q - C) v h
      have hp : 0 < C := by
        rcases Nat.eq_zero_or_pos C with h0 | h0
        · subst h0
          have : (cells xs[(q - 0) / 0])[(q - 0) % 0]? = none := List.getElem?_eq_none (by rw [hC]; omega)
          rw [this] at hv
          cases hv
        · exact h0
      have e1 : q / C = (q - C) / C + 1 := by
        conv => lhs; rw [show q = (q - C) + C by omega]
        rw [Nat.add_div_right _ hp]
      have e2 : q % C = (q - C) % C := by
        conv => lhs; rw [show q = (q - C) + C by omega]
        rw [Nat.add_mod_right]
      refine ⟨by rw [e1]; simp only [List.length_cons]; omega, ?_⟩
      simp only [e1, e2, List.getElem_cons_succ]
      exact hv

theorem rd_slice {α : Type} {H : Type} {enc : TypeId × Value → H} {P : Program} {w : World} {t e : TypeId} {a : Option Addr} {len cap : Nat} {d : DataW H} {p : List MemPlace} {base : Nat} {spare : Nat → Bool} {held : Bool}
    (cells : α → List Value) (good : α → Prop) (C : Nat) (ht : P.underlying t = some (.slice e)) (hC : P.cellsOf e = C) (hl : ∀ x, (cells x).length = C)
    (hread : ∀ n cs y, DataW.trod enc P w base spare held n e cs = some y → cs.length = C → ∃ x, cs = cells x ∧ good x)
    (h : DataW.Trod enc P w base spare held t (.slice a len cap) d p) : ∃ xs : List α, xs.length = len ∧ Rd w a (xs.flatMap cells) ∧ ∀ x ∈ xs, good x := by
  obtain ⟨fuel, hf⟩ := h
  rcases open_slice ht hf with ⟨hcs, _⟩ | ⟨x, l, c, m, n, D, Pl, hcs, _, hlc, hm, hmm, _, hi⟩
  · simp [Value.cells] at hcs
    obtain ⟨rfl, rfl, rfl⟩ := hcs
    exact ⟨[], rfl, .inl rfl, fun _ h => by cases h⟩
  · simp [Value.cells] at hcs
    obtain ⟨rfl, rfl, rfl⟩ := hcs
    have hml : len ≤ m := by rw [hmm]; split <;> omega
    rw [hC] at hi
    have key : ∀ k, k ≤ len → ∃ xs : List α, xs.length = k ∧ (∀ z ∈ xs, good z) ∧ ∀ i (hik : i < xs.length) j v, (cells xs[i])[j]? = some v → w.cell? (x.add (i * C + j)) = some v := by
      intro k
      induction k with
      | zero =>
        intro _
        refine ⟨[], rfl, ?_, ?_⟩
        · intro z hz; cases hz
        · intro i hik; simp at hik
      | succ k ih =>
        intro hk
        obtain ⟨xs, hxl, hg, hx⟩ := ih (by omega)
        obtain ⟨cs', hc, ht'⟩ := hi k (by omega)
        obtain ⟨_, hcl, hat⟩ := World.cells?_some hc
        obtain ⟨z, rfl, hz⟩ := hread n cs' _ ht' hcl
        refine ⟨xs ++ [z], by simp [hxl], fun y hy => ?_, fun i hik j v hv => ?_⟩
        · rcases List.mem_append.1 hy with h | h
          · exact hg y h
          · rw [List.mem_singleton.1 h]; exact hz
        · rcases Nat.lt_or_ge i xs.length with hlt | hge
          · rw [List.getElem_append_left hlt] at hv
            exact hx i hlt j v hv
          · obtain rfl : i = k := by simp at hik; omega
            rw [List.getElem_append_right hge] at hv
            simp at hv
            obtain ⟨hj, hjv⟩ := List.getElem?_eq_some_iff.1 hv
            have := hat j (by rw [hl] at hj; exact hj)
            rw [Go.Deep.add_add] at this
            rw [this]
            exact hv
    obtain ⟨xs, hxl, hg, hx⟩ := key len (Nat.le_refl _)
    refine ⟨xs, hxl, rd_of fun q v hv => ?_, hg⟩
    obtain ⟨hq, hv'⟩ := flat_get hl xs q v hv
    have := hx (q / C) hq (q % C) v hv'
    rwa [show q / C * C + q % C = q by rw [Nat.mul_comm]; exact Nat.div_add_mod q C] at this
end Go.Proofs.Ytopcnkejobomaaa
