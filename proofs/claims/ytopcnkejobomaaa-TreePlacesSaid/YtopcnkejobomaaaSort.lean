/- slices.Sort at []int over rows of one's own. No program is named here. -/
import Derived.Test.YtopcnkejobomaaaMci
import Derived.Shelf.Sort.Plain
import Derived.Shelf.Slices.In.SortNone
namespace Go.Proofs.Ytopcnkejobomaaa
open Go.RowKit Go.Lib Go.Shelf

def sortI (l : List Int) : List Int := l.mergeSort fun x y => decide (x ≤ y)
theorem sortI_len (l : List Int) : (sortI l).length = l.length := List.length_mergeSort ..
abbrev intsR (l : List Int) : List (List Fd) := l.map fun x => [.one (.int .i64 x)]
theorem fls_intsR (l : List Int) : fls (intsR l) = l.map (Value.int .i64) := by
  induction l with
  | nil => rfl
  | cons x r ih =>
    rw [List.map_cons, ← ih]
    rfl
theorem intsR_els (l : List Int) : Els 1 (intsR l) := Els.map (f := fun x => [.one (.int .i64 x)]) l fun _ => ⟨inferInstance, rfl⟩
theorem St.grow (w : World) (os : Array Obj) : St w [] (Go.Sort.grow w os) := ⟨(fun _ h => by cases h), .nil, (fun _ h => by cases h), ⟨rfl, rfl, rfl, by simp [Go.Sort.grow], fun k hk _ => by simp [Go.Sort.grow, Array.getElem?_append_left hk]⟩⟩
theorem mapBlock_setRow {w : World} {g e : Nat} {cs : List Value} {f : Array Value → Array Value} (hb : Blf w g e cs) : Go.Sort.mapBlock w g f = w.setRow g (f cs.toArray) := by
  obtain ⟨fr, hh, -⟩ := hb
  unfold Go.Sort.mapBlock World.setRow
  congr 1
  apply Array.ext_getElem?
  intro i
  rw [Array.getElem?_modify, Array.getElem?_modify]
  by_cases hi : g = i
  · subst hi
    rw [if_pos rfl, if_pos rfl, hh]
    rfl
  · rw [if_neg hi, if_neg hi]
theorem putCells_ints (l l' : List Int) (sp : List Value) (hl : l'.length = l.length) : Go.Sort.putCells (Value.int .i64) 0 l'.toArray (l.map (Value.int .i64) ++ sp).toArray = (l'.map (Value.int .i64) ++ sp).toArray := by
  unfold Go.Sort.putCells
  apply Array.ext_getElem?
  intro i
  rw [Array.getElem?_mapIdx]
  simp only [List.getElem?_toArray, Nat.zero_le, true_and, Nat.zero_add, Nat.sub_zero, List.size_toArray]
  by_cases hi : i < l'.length
  · rw [List.getElem?_append_left (by simpa using (by omega : i < l.length)), List.getElem?_append_left (by simpa using hi), List.getElem?_map, List.getElem?_map, List.getElem?_eq_getElem hi, List.getElem?_eq_getElem (show i < l.length by omega)]
    simp [hi]
  · rw [List.getElem?_append_right (by simpa using (by omega : l.length ≤ i)), List.getElem?_append_right (by simpa using (by omega : l'.length ≤ i)), List.length_map, List.length_map, hl]
    have hi2 : ¬ i < l.length := by omega
    simp [hi2]
section
variable {P : Program} {ρ : Ren} {H : Hp} {w0 w : World} {L : List Res} {A : Option Addr} {cap : Nat}
theorem sort_own (Ly : Lays.n189 P ρ) (l : List Int) (hl : l.length ≤ 1000000) (hM : Mem H w0 (rowR 3 1 A l.length cap (intsR l) :: L) w) :
    Calls P (ρ.f 189) #[.slice A l.length cap] w fun en w' => ∃ v, en = .returned v ∧ v = .tuple #[] ∧ Mem H w0 (rowR 3 1 A l.length cap (intsR (sortI l)) :: L) w' := by
  by_cases h0 : l = []
  · subst h0
    refine (Any.slices_Sort_int_none Ly A cap w).mono ?_
    rintro e w' ⟨rfl, rfl⟩
    exact ⟨_, rfl, rfl, by simpa [sortI] using hM⟩
  have hl0 : 0 < l.length := List.length_pos_iff.2 h0
  obtain ⟨g, rfl⟩ : ∃ g, A = some ⟨g, 0, none⟩ := by
    obtain ⟨B, ⟨B1, B2, rfl, ⟨h1, h2, h3⟩, h4⟩, hs', hb⟩ := hM.own
    rcases h3 with ⟨hA, h5⟩ | ⟨g', sp, hA, -⟩
    · omega
    · exact ⟨g', hA⟩
  obtain ⟨sp, r1, r2, r3, r4, r5, hM⟩ := hM.raw (n := l.length) (cap := cap) (e := 3) (sz := 1) (ps := intsR l) (R := L) (g := g)
  rw [fls_intsR] at r1 hM
  have hb : Blf w g 3 _ := hM.bkBlf
  refine (Any.slices_Sort_int Ly g 0 cap l w (fun j hj => ?_) hb.lt (by omega)).mono ?_
  · have hj' : j < l.length := by simpa using hj
    rw [Nat.zero_add]
    refine ⟨?_, hb.frozen j (by simp; omega)⟩
    rw [hb.cell, List.getElem?_append_left (by simpa using hj'), List.getElem?_map, List.getElem?_eq_getElem hj']
    simp [hj']
  · rintro e w' ⟨rfl, n, os, rfl⟩
    have hM2 : Mem H w0 (bk g 3 (l.map (Value.int .i64) ++ sp) :: L) (Go.Sort.ahead w n) := hM.drawn ⟨n, rfl⟩
    have hb2 : Blf _ g 3 _ := hM2.bkBlf
    have hM3 := hM2.setBk (cs' := (sortI l).map (Value.int .i64) ++ sp) (by simp [sortI_len])
    have e : Go.Sort.putRow (Value.int .i64) (Go.Sort.ahead w n) g 0 (l.mergeSort fun x y => decide (x ≤ y)).toArray = (Go.Sort.ahead w n).setRow g ((sortI l).map (Value.int .i64) ++ sp).toArray := by
      unfold Go.Sort.putRow
      rw [mapBlock_setRow hb2]
      show (Go.Sort.ahead w n).setRow g (Go.Sort.putCells (Value.int .i64) 0 (sortI l).toArray _) = _
      rw [putCells_ints l _ sp (sortI_len l)]
    rw [e]
    have hM4 : Mem H w0 (bk g 3 (fls (intsR (sortI l)) ++ sp) :: L) (Go.Sort.grow ((Go.Sort.ahead w n).setRow g ((sortI l).map (Value.int .i64) ++ sp).toArray) os) := by
      rw [fls_intsR]
      exact hM3.call0 (St.grow _ os)
    refine ⟨_, rfl, rfl, hM4.unraw (intsR_els _) (by rw [List.length_map, sortI_len]) ?_ r2 r3⟩
    rw [fls_intsR, ← r1]
    simp [sortI_len]
end
end Go.Proofs.Ytopcnkejobomaaa
