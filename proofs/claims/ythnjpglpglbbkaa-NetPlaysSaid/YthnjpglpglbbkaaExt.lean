/- Regions that draw their order and whose callees only make memory: one walk in the order of the text. -/
import Derived.Test.YthnjpglpglbbkaaBase
namespace Go.Proofs.Ythnjpglpglbbkaa
open Go.RowKit

/-- New blocks and a count of draws. -/
structure WExt where
  os : Array Obj
  dr : Nat
instance : Inhabited WExt := ⟨⟨#[], 0⟩⟩
/-- The world w with new blocks behind its own. -/
def ext (w : World) (e : WExt) : World := { w with heap := w.heap ++ e.os, drawn := e.dr }
theorem ext_ext (w : World) (e f : WExt) : ext (ext w e) f = ext w ⟨e.os ++ f.os, f.dr⟩ := by simp [ext]
theorem ext_cell (w : World) (e : WExt) (b o : Nat) (s : Option Nat) (h : b < w.heap.size) : (ext w e).cell? ⟨b, o, s⟩ = w.cell? ⟨b, o, s⟩ := by
  refine World.cell?_of_block ?_
  simp [ext, Array.getElem?_append, h]
theorem ext_frozen (w : World) (e : WExt) (b o : Nat) (s : Option Nat) (h : b < w.heap.size) : (ext w e).frozen? ⟨b, o, s⟩ = w.frozen? ⟨b, o, s⟩ := by
  refine World.frozen?_of_block ?_
  simp [ext, Array.getElem?_append, h]
theorem only_ext (w : World) (e : WExt) : Only (fun _ => False) w (ext w e) :=
  ⟨rfl, rfl, rfl, by simp [ext], fun k hk _ => by simp [ext, Array.getElem?_append, hk]⟩
theorem ext_of_only {w w' : World} (h : Only (fun _ => False) w w') : ∃ e, w' = ext w e := by
  refine ⟨⟨w'.heap.extract w.heap.size w'.heap.size, w'.drawn⟩, ?_⟩
  have hh : w'.heap = w.heap ++ w'.heap.extract w.heap.size w'.heap.size := by
    apply Array.ext_getElem?
    intro i
    rw [Array.getElem?_append]
    split
    · rename_i hi
      exact h.block i hi (fun e => e)
    · rename_i hi
      rw [Array.getElem?_extract]
      have hs := h.size
      split
      · rw [show w.heap.size + (i - w.heap.size) = i by omega]
      · rw [Array.getElem?_eq_none (by omega)]
  obtain ⟨h1, t1, d1, o1, u1⟩ := w'
  obtain ⟨ho, ht, hu, _, _⟩ := h
  simp only at ho ht hu hh
  subst ho; subst ht; subst hu
  simp only [ext, ← hh]
theorem calls_ext {P : Program} {f : FuncId} {args : Array Value} {w : World} {e : WExt} {v : Value} (h : Calls P f args (ext w e) fun r w' => r = .returned v ∧ Only (fun _ => False) (ext w e) w') :
    Calls P f args (ext w e) fun r w' => r = .returned v ∧ ∃ m, w' = ext w m :=
  h.mono fun _ _ ⟨hr, ho⟩ => ⟨hr, by obtain ⟨m, rfl⟩ := ext_of_only ho; exact ⟨_, ext_ext _ _ _⟩⟩
theorem calls_ext_same {P : Program} {f : FuncId} {args : Array Value} {w : World} {e : WExt} {v : Value} (h : Calls P f args (ext w e) fun r w' => r = .returned v ∧ ext w e = w') :
    Calls P f args (ext w e) fun r w' => r = .returned v ∧ ∃ m, w' = ext w m :=
  h.mono fun _ _ ⟨hr, ho⟩ => ⟨hr, e, ho.symm⟩
theorem wp_region_ext {P : Program} {id : Nat} {Q : Exit → Act → World → Prop} {a : Act} {w : World} {l : List Oper} (hm : P.follows .mixedOrders = true) (hB : Region.lexB .any l.toArray = true)
    (h : wpQuiet P l.toArray (fun w' => ∃ n, w' = ext w n) (fun a' => ∀ w', (∃ n, w' = ext w n) → Q .normal a' w') l a) : (Code.region id l.toArray true).wp P Q a w :=
  wp_region_quiet (C := fun w' => ∃ n, w' = ext w n) hm hB ⟨⟨#[], w.drawn + 1⟩, by simp [ext]⟩ (by simpa using h)
end Go.Proofs.Ythnjpglpglbbkaa
