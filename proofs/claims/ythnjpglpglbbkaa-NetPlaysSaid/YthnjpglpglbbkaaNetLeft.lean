/- NetOnce in plain terms: what is still under way. No program is named here. -/
import Derived.Test.YthnjpglpglbbkaaNet0
namespace Go.Proofs.Ythnjpglpglbbkaa
open Go.RowKit

theorem quiet_left {P : Program} {f : FuncId} {args : Array Value} {w : World} {n : Nat} {v : Value}
    (h : Calls P f args (w.drewN n) fun e w' => e = .returned v ∧ w.drewN n = w') : Calls P f args (w.drewN n) fun e w' => e = .returned v ∧ ∃ m, w' = w.drewN m :=
  h.mono fun _ _ ⟨he, hm⟩ => ⟨he, n, hm.symm⟩
/-- What is under way: letters that were sent, each once; seen tells of the others. -/
structure Left (ss : List ByteArray) (row : List Ltr) (S : Array Value) (i : Nat) : Prop where
  count : i + row.length = ss.length
  each : ∀ l ∈ row, ∃ f, f < ss.length ∧ l.fr = (f : Int) ∧ l.to = ((ss.getD f ⟨#[]⟩).size : Int)
  once : (row.map (·.fr)).Nodup
  size : S.size = 300
  seen : ∀ f, f < ss.length → S[f]? = some (.bool (!(row.any (fun l => l.fr == (f : Int)))))
/-- The letters that are sent first. -/
def sent (ss : List ByteArray) (k : Nat) : List Ltr := (List.range k).map fun (i : Nat) => ⟨(i : Int), ((ss.getD i ⟨#[]⟩).size : Int), ⟨#[]⟩⟩
theorem sent_succ (ss : List ByteArray) (k : Nat) (hk : k < ss.length) : sent ss (k + 1) = sent ss k ++ [⟨(k : Int), (ss[k].size : Int), ⟨#[]⟩⟩] := by
  simp [sent, List.range_succ, List.getD, hk]
theorem sent_len (ss : List ByteArray) (k : Nat) : (sent ss k).length = k := by simp [sent]


theorem at_of (z : Int) (n : Nat) (h : 0 < n) (hn : n ≤ 300) : ∃ a : Nat, a < n ∧ wrap64 ((IntKind.u64.wrap z).tmod (n : Int)) = (a : Int) := by
  have h0 : 0 ≤ IntKind.u64.wrap z := by simp only [IntKind.wrap_u64]; omega
  have h1 : 0 ≤ (IntKind.u64.wrap z).tmod (n : Int) := by rw [Int.tmod_eq_emod_of_nonneg h0]; exact Int.emod_nonneg _ (by omega)
  have h2 : (IntKind.u64.wrap z).tmod (n : Int) < n := by rw [Int.tmod_eq_emod_of_nonneg h0]; exact Int.emod_lt_of_pos _ (by omega)
  refine ⟨((IntKind.u64.wrap z).tmod (n : Int)).toNat, by omega, ?_⟩
  unfold wrap64
  omega
theorem Left.start (ss : List ByteArray) (S : Array Value) (hl : ss.length ≤ 300) (hS : S = Array.replicate 300 (.bool false)) : Left ss (sent ss ss.length) S 0 := by
  refine ⟨by simp [sent], fun l hl => ?_, ?_, by simp [hS], fun f hf => ?_⟩
  · simp only [sent, List.mem_map, List.mem_range] at hl
    obtain ⟨f, hf, rfl⟩ := hl
    exact ⟨f, hf, rfl, rfl⟩
  · have : (sent ss ss.length).map (·.fr) = (List.range ss.length).map (fun i : Nat => (i : Int)) := by simp [sent, Function.comp_def]
    rw [this]
    exact List.Pairwise.map _ (fun a b h e => h (by omega)) List.nodup_range
  · have hany : (sent ss ss.length).any (fun l => l.fr == (f : Int)) = true := by
      rw [List.any_eq_true]
      exact ⟨⟨(f : Int), _, _⟩, by simp only [sent, List.mem_map, List.mem_range]; exact ⟨f, hf, rfl⟩, by simp⟩
    rw [hany, hS, Array.getElem?_replicate, if_pos (by omega)]
    rfl
theorem Left.step {ss : List ByteArray} {row : List Ltr} {S : Array Value} {i : Nat} (h : Left ss row S i) (hl : ss.length ≤ 300) (a f : Nat) (ha : a < row.length) (hf : f < ss.length) (hr : row[a].fr = (f : Int)) :
    Left ss (row.eraseIdx a) (S.setIfInBounds f (.bool true)) (i + 1) := by
  have hc := h.count
  have hnd := h.once
  have hsz := h.size
  refine ⟨by rw [List.length_eraseIdx, if_pos ha]; omega, fun l hl => h.each l (List.mem_of_mem_eraseIdx hl), ?_, by simpa using hsz, fun f' hf' => ?_⟩
  · exact hnd.sublist ((List.eraseIdx_sublist row a).map _)
  · have hs := h.seen f' hf'
    by_cases hff : f = f'
    · subst hff
      have hno : (row.eraseIdx a).any (fun l => l.fr == (f : Int)) = false := by
        rw [List.any_eq_false]
        intro l hl
        rw [List.mem_eraseIdx_iff_getElem] at hl
        obtain ⟨j, hj, hja, rfl⟩ := hl
        intro e
        rw [← hr] at e
        have hj' : j < (row.map (·.fr)).length := by simpa using hj
        have ha' : a < (row.map (·.fr)).length := by simpa using ha
        have := (List.getElem_inj (h₀ := hj') (h₁ := ha') hnd).1 (by simpa using e)
        exact hja this
      rw [hno, Array.getElem?_setIfInBounds, if_pos rfl, if_pos (by omega)]
      rfl
    · rw [Array.getElem?_setIfInBounds, if_neg hff, hs]
      congr 3
      rw [Bool.eq_iff_iff, List.any_eq_true, List.any_eq_true]
      constructor
      · rintro ⟨l, hl, he⟩
        refine ⟨l, ?_, he⟩
        rw [List.mem_eraseIdx_iff_getElem]
        obtain ⟨j, hj, rfl⟩ := List.mem_iff_getElem.1 hl
        refine ⟨j, hj, fun e => ?_, rfl⟩
        subst e
        rw [hr] at he
        simp at he
        omega
      · rintro ⟨l, hl, he⟩
        exact ⟨l, List.mem_of_mem_eraseIdx hl, he⟩
end Go.Proofs.Ythnjpglpglbbkaa
