/- General lemmas: what a call may have changed (Only), rows of cells that are read (Rd), rows of the call's own (Row), append onto them. No program is named here. -/
import Derived.WalkKit
import Derived.WalkSpells
import Derived.WalkLawsBesides
import Derived.Deep.QuietTactic
import Derived.BigQuiet
import Derived.Deep.RegionLaw
import Derived.Deep.AppendSrc
import Derived.Lib.Hide
namespace Go.Proofs.Ytopcnkejobomaaa
open Go.RowKit

/-- Of the blocks that there were only those of S may have turned. -/
structure Only (S : Nat → Prop) (w w' : World) : Prop where
  os : w'.os = w.os
  tape : w'.tape = w.tape
  output : w'.output = w.output
  size : w.heap.size ≤ w'.heap.size
  block : ∀ k, k < w.heap.size → ¬ S k → w'.heap[k]? = w.heap[k]?

section
variable {S S' : Nat → Prop} {a b c w w' : World}
theorem Only.refl (S : Nat → Prop) (w : World) : Only S w w := ⟨rfl, rfl, rfl, Nat.le_refl _, fun _ _ _ => rfl⟩
theorem Only.trans (h : Only S a b) (k : Only S' b c) (hs : ∀ i, i < a.heap.size → S' i → S i) : Only S a c :=
  ⟨k.os.trans h.os, k.tape.trans h.tape, k.output.trans h.output, Nat.le_trans h.size k.size,
    fun i hi hn => (k.block i (Nat.lt_of_lt_of_le hi h.size) (fun e => hn (hs i hi e))).trans (h.block i hi hn)⟩
theorem Only.mono (h : Only S a b) (hs : ∀ i, i < a.heap.size → S i → S' i) : Only S' a b :=
  ⟨h.os, h.tape, h.output, h.size, fun i hi hn => h.block i hi (fun e => hn (hs i hi e))⟩
theorem Only.drew (h : Only S a w) : Only S a w.drew := ⟨h.os, h.tape, h.output, h.size, h.block⟩
theorem Only.drewN (h : Only S a w) (n : Nat) : Only S a (w.drewN n) := ⟨h.os, h.tape, h.output, h.size, h.block⟩
theorem Only.alloc (h : Only S a w) (o : Obj) : Only S a (w.alloc o) :=
  ⟨h.os, h.tape, h.output, Nat.le_trans h.size (by simp), fun i hi hn => (Below.heap_alloc w o i (Nat.lt_of_lt_of_le hi h.size)).trans (h.block i hi hn)⟩
theorem Only.setCell (h : Only S a w) {p : Addr} (hp : a.heap.size ≤ p.block ∨ S p.block) (u : Value) : Only S a (w.setCell p u) :=
  ⟨h.os, h.tape, h.output, by simpa [World.setCell] using h.size, fun i hi hn => (Below.heap_setCell w p u i (by
    rintro rfl
    rcases hp with hp | hp
    · omega
    · exact hn hp)).trans (h.block i hi hn)⟩
theorem Only.of_grown {g : Option Nat} (h : w.grownBy w' g) : Only (fun k => some k = g) w w' := ⟨h.os, h.tape, h.output, h.size, fun k hk hn => h.block k hk hn⟩
theorem Only.below (h : Only S a w) {B : Nat} (hB : B ≤ a.heap.size) (hs : ∀ i, i < B → ¬ S i) : Below B a w :=
  ⟨h.os, h.tape, h.output, h.size, fun k hk => h.block k (by omega) (hs k hk)⟩
theorem Only.of_below {B : Nat} (h : Below B a w) (hs : ∀ i, i < a.heap.size → B ≤ i → S i) : Only S a w :=
  ⟨h.os, h.tape, h.output, h.size, fun k hk hn => h.block k (by
    rcases Nat.lt_or_ge k B with h | h
    · exact h
    · exact absurd (hs k hk h) hn)⟩
theorem Only.cell (h : Only S a w) {p : Addr} (hp : p.block < a.heap.size) (hn : ¬ S p.block) : w.cell? p = a.cell? p := World.cell?_of_block (w := a) (h.block p.block hp hn)
theorem Only.frozen (h : Only S a w) {p : Addr} (hp : p.block < a.heap.size) (hn : ¬ S p.block) : w.frozen? p = a.frozen? p := World.frozen?_of_block (w := a) (h.block p.block hp hn)
end

/-- Block g is just the cells cs of type t, none frozen. -/
def Blk (w : World) (g : Nat) (t : TypeId) (cs : Array Value) : Prop := w.heap[g]? = some (.cells cs t (0, 0))
section
variable {S : Nat → Prop} {w w' : World} {g : Nat} {t : TypeId} {cs : Array Value}
theorem Blk.lt (h : Blk w g t cs) : g < w.heap.size := by
  rcases Nat.lt_or_ge g w.heap.size with hlt | hge
  · exact hlt
  · unfold Blk at h; rw [Array.getElem?_eq_none hge] at h; cases h
theorem Blk.cell (h : Blk w g t cs) (i : Nat) : w.cell? ⟨g, i, none⟩ = cs[i]? := cell_of_row w g i cs t (0, 0) h
theorem Blk.frozen (h : Blk w g t cs) (i : Nat) : w.frozen? ⟨g, i, none⟩ = false := by
  unfold Blk at h
  simp [World.frozen?, h]
theorem Blk.new (w : World) (t : TypeId) (cs : Array Value) : Blk (w.alloc (.cells cs t)) w.heap.size t cs := heap_alloc_new w _
theorem Blk.drew (h : Blk w g t cs) : Blk w.drew g t cs := h
theorem Blk.drewN (h : Blk w g t cs) (n : Nat) : Blk (w.drewN n) g t cs := h
theorem Blk.alloc (h : Blk w g t cs) (o : Obj) : Blk (w.alloc o) g t cs := (Below.heap_alloc w o g h.lt).trans h
theorem Blk.set_ (h : Blk w g t cs) (i : Nat) (u : Value) : Blk (w.setCell ⟨g, i, none⟩ u) g t (cs.setIfInBounds i u) := by
  unfold Blk at h ⊢
  simp [World.setCell, Array.getElem?_modify, h]
theorem Blk.far (h : Blk w g t cs) {p : Addr} (hp : g ≠ p.block) (u : Value) : Blk (w.setCell p u) g t cs := (Below.heap_setCell w p u g hp).trans h
theorem Blk.only (h : Blk w g t cs) (hb : Only S w w') (hg : ¬ S g) : Blk w' g t cs := (hb.block g h.lt hg).trans h
theorem Blk.ne_ {g' : Nat} {t' : TypeId} {cs' : Array Value} (h : Blk w g t cs) (h' : Blk w g' t' cs') (hne : t ≠ t') : g ≠ g' := by
  rintro rfl
  unfold Blk at h h'
  rw [h] at h'
  injection h' with h'
  injection h' with _ ht
  exact hne ht
end

/-- From the address A on lie the cells xs (nothing is said where there are none). -/
def Rd (w : World) (A : Option Addr) (xs : List Value) : Prop :=
  xs = [] ∨ ∃ b off, A = some ⟨b, off, none⟩ ∧ b < w.heap.size ∧ ∀ j u, xs[j]? = some u → w.cell? ⟨b, off + j, none⟩ = some u
/-- The slice (A, n, cap) of elements of type e, size cells each, is of the call's own, lies in the block g and reads as the cells xs; or it is nil. -/
def Row (w : World) (e size : Nat) (A : Option Addr) (n cap : Nat) (xs : List Value) (g : Option Nat) : Prop :=
  xs.length = n * size ∧ ((A = none ∧ n = 0 ∧ cap = 0 ∧ g = none) ∨
    ∃ b off cur, A = some ⟨b, off, none⟩ ∧ g = some b ∧ Blk w b e cur ∧ n ≤ cap ∧ cap ≤ maxLen ∧ off + cap * size ≤ cur.size ∧ ∀ j u, xs[j]? = some u → cur[off + j]? = some u)

section
variable {S : Nat → Prop} {w w' : World} {e size n cap : Nat} {A : Option Addr} {xs : List Value} {g : Option Nat}
theorem Rd.nil (w : World) (A : Option Addr) : Rd w A [] := .inl rfl
theorem Rd.drew (h : Rd w A xs) : Rd w.drew A xs := h
theorem Rd.drewN (h : Rd w A xs) (k : Nat) : Rd (w.drewN k) A xs := h
theorem Rd.at_ {j : Nat} {u : Value} (h : Rd w A xs) (hu : xs[j]? = some u) : ∃ b off, A = some ⟨b, off, none⟩ ∧ b < w.heap.size ∧ ∀ j u, xs[j]? = some u → w.cell? ⟨b, off + j, none⟩ = some u := by
  rcases h with rfl | h
  · simp at hu
  · exact h
theorem Rd.only (h : Rd w A xs) (ho : Only S w w') (hn : ∀ b off, A = some ⟨b, off, none⟩ → ¬ S b) : Rd w' A xs := by
  rcases h with h | ⟨b, off, rfl, hb, hc⟩
  · exact .inl h
  · exact .inr ⟨b, off, rfl, Nat.lt_of_lt_of_le hb ho.size, fun j u hu => (ho.cell (p := ⟨b, off + j, none⟩) hb (hn b off rfl)).trans (hc j u hu)⟩
theorem Rd.alloc (h : Rd w A xs) (o : Obj) : Rd (w.alloc o) A xs := h.only (S := fun _ => False) ((Only.refl _ w).alloc o) (fun _ _ _ h => h)
theorem Row.nil (w : World) (e size : Nat) : Row w e size none 0 0 [] none := ⟨by simp, .inl ⟨rfl, rfl, rfl, rfl⟩⟩
theorem Row.rd (h : Row w e size A n cap xs g) : Rd w A xs := by
  rcases h.2 with ⟨rfl, rfl, _, _⟩ | ⟨b, off, cur, rfl, _, hb, _, _, _, hx⟩
  · exact .inl (List.eq_nil_of_length_eq_zero (by simpa using h.1))
  · exact .inr ⟨b, off, rfl, hb.lt, fun j u hu => (hb.cell _).trans (hx j u hu)⟩
theorem Row.lt (h : Row w e size A n cap xs g) : ∀ k, g = some k → k < w.heap.size := by
  intro k hk
  rcases h.2 with ⟨_, _, _, rfl⟩ | ⟨b, off, cur, _, rfl, hb, _⟩
  · cases hk
  · cases hk; exact hb.lt
theorem Row.only (h : Row w e size A n cap xs g) (ho : Only S w w') (hn : ∀ k, g = some k → ¬ S k) : Row w' e size A n cap xs g := by
  refine ⟨h.1, ?_⟩
  rcases h.2 with h | ⟨b, off, cur, hA, rfl, hb, r⟩
  · exact .inl h
  · exact .inr ⟨b, off, cur, hA, rfl, hb.only ho (hn _ rfl), r⟩
theorem Row.drew (h : Row w e size A n cap xs g) : Row w.drew e size A n cap xs g := h
theorem Row.drewN (h : Row w e size A n cap xs g) (k : Nat) : Row (w.drewN k) e size A n cap xs g := h
theorem Row.alloc (h : Row w e size A n cap xs g) (o : Obj) : Row (w.alloc o) e size A n cap xs g := h.only (S := fun _ => False) ((Only.refl _ w).alloc o) (fun _ _ h => h)
theorem Row.le (h : Row w e size A n cap xs g) : n ≤ maxLen ∧ n ≤ cap := by
  rcases h.2 with ⟨_, rfl, rfl, _⟩ | ⟨b, off, cur, _, _, _, h1, h2, _⟩
  · simp
  · exact ⟨Nat.le_trans h1 h2, h1⟩
theorem Only.row (ho : Only S w w') (h : Row w e size A n cap xs g) (hn : ∀ k, g = some k → ¬ S k) : Row w' e size A n cap xs g := h.only ho hn
theorem Only.rd (ho : Only S w w') (h : Rd w A xs) (hn : ∀ b off, A = some ⟨b, off, none⟩ → ¬ S b) : Rd w' A xs := h.only ho hn
theorem Only.blk (ho : Only S w w') {g : Nat} {t : TypeId} {cs : Array Value} (h : Blk w g t cs) (hg : ¬ S g) : Blk w' g t cs := h.only ho hg
theorem rd_new (w : World) (cs : List Value) (e : TypeId) : Rd (w.alloc (.cells cs.toArray e)) (some ⟨w.heap.size, 0, none⟩) cs :=
  .inr ⟨w.heap.size, 0, rfl, by simp, fun j u hu => by rw [(Blk.new w e cs.toArray).cell]; simpa using hu⟩
/-- A beginning of a row, its spare room cut off or not. -/
theorem Row.take (h : Row w e size A n cap xs g) (k cap' : Nat) (hk : k ≤ n) (hc : k ≤ cap') (hc' : cap' ≤ cap) : Row w e size A k cap' (xs.take (k * size)) g := by
  have hle : k * size ≤ n * size := Nat.mul_le_mul_right _ hk
  refine ⟨by rw [List.length_take, h.1]; omega, ?_⟩
  rcases h.2 with ⟨rfl, rfl, rfl, rfl⟩ | ⟨b, off, cur, rfl, rfl, hb, h1, h2, h3, hx⟩
  · exact .inl ⟨rfl, by omega, by omega, rfl⟩
  · have hle2 : cap' * size ≤ cap * size := Nat.mul_le_mul_right _ hc'
    refine .inr ⟨b, off, cur, rfl, rfl, hb, hc, by omega, by omega, fun j u hu => hx j u ?_⟩
    rw [List.getElem?_take] at hu
    split at hu
    · exact hu
    · cases hu
theorem Rd.drop (h : Rd w A xs) (k : Nat) (A' : Option Addr) (hA : ∀ b off, A = some ⟨b, off, none⟩ → k < xs.length → A' = some ⟨b, off + k, none⟩) : Rd w A' (xs.drop k) := by
  rcases Nat.lt_or_ge k xs.length with hlt | hge
  · rcases h with rfl | ⟨b, off, rfl, hb, hc⟩
    · simp at hlt
    · refine .inr ⟨b, off + k, hA b off rfl hlt, hb, fun j u hu => ?_⟩
      rw [List.getElem?_drop] at hu
      have := hc (k + j) u hu
      rwa [show off + k + j = off + (k + j) by omega]
  · exact .inl (List.drop_eq_nil_iff.2 hge)
end

section
variable {P : Program} (w : World)
/-- A slice whose cells are read, as a source of append. -/
theorem src_of_rd {size : Nat} {tx e' : TypeId} (ht : P.underlying tx = some (.slice e')) {A : Option Addr} {m c : Nat} {news : List Value} (hl : news.length = m * size) (hr : Rd w A news) (h1 : ∀ u ∈ news, u.oneCell' = true) :
    Src P size tx (.slice A m c) m news w := by
  rcases hr with rfl | ⟨b, off, rfl, _, hc⟩
  · cases A with
    | none => exact ⟨.inl ⟨e', ht⟩, fun _ => rfl, by simp [Builtin.firstCells], by simp [Builtin.firstCells], hl, h1⟩
    | some a => exact Src.ofSlice w ht a m c [] hl (by simp) h1
  · exact Src.ofSlice w ht ⟨b, off, none⟩ m c news hl (fun j u hu => by rw [Addr.add_lit]; exact hc j u hu) h1

theorem run_append_row0 (t tx ty e : TypeId) (i : TypeInfo) (z : Value) (size bytes : Nat) (ht : P.underlying t = some (.slice e)) (hi : P.info? e = some i) (hz : i.zero = some z)
    (hsize : i.size = size) (hby : i.bytes = bytes) (hzs : z.cells.size = size)
    (A : Option Addr) (n cap : Nat) (xs : List Value) (g : Option Nat) (hrow : Row w e size A n cap xs g)
    (x : Value) (m : Nat) (news : List Value) (hs : Src P size tx x m news w)
    (h63 : n + m ≤ maxLen) (hbytes : (n + m) * bytes ≤ 140737488355328) :
    ∃ A' c' w' g', (Builtin.append_ #[t, tx] ty #[.slice A n cap, x]).run P w = .ok (.slice A' (n + m) c') w' ∧ Row w' e size A' (n + m) c' (xs ++ news) g' ∧
      Only (fun k => some k = g ∧ n + m ≤ cap) w w' ∧ (g' = g ∧ n + m ≤ cap ∨ g' = some w.heap.size) := by
  subst hsize
  subst hby
  have hl := hs.newsLen
  have hlen : (xs ++ news).length = (n + m) * i.size := by rw [List.length_append, hrow.1, hl, Nat.add_mul]
  by_cases hroom : n + m ≤ cap
  · rcases hrow.2 with ⟨rfl, rfl, rfl, rfl⟩ | ⟨b, off, cur, rfl, rfl, hb, hnc, hcm, hcs, hx⟩
    · have hm : m = 0 := by omega
      subst hm
      have hn : news = [] := List.eq_nil_of_length_eq_zero (by simpa using hl)
      subst hn
      have hxs : xs = [] := List.eq_nil_of_length_eq_zero (by simpa using hrow.1)
      subst hxs
      refine ⟨none, 0, w, none, ?_, Row.nil w e i.size, Only.refl _ _, .inl ⟨rfl, hroom⟩⟩
      have hc := hs.cells
      rcases hs.kind with ⟨e', hk⟩ | hk <;> simp [Builtin.append_, run_underlying ht, run_underlying hk, sizeOf, typeInfo, hi, hs.len, hc]
    · have hfit : off + n * i.size + 0 + news.length ≤ cur.size := by
        have : (n + m) * i.size ≤ cap * i.size := Nat.mul_le_mul_right _ hroom
        rw [hl]; rw [Nat.add_mul] at this; omega
      have hst := run_storeCells_at P b (off + n * i.size) e news 0 cur w hb hfit hs.one
      simp only [Nat.add_zero] at hst hfit
      refine ⟨some ⟨b, off, none⟩, cap, w.setRow b (cur.toList.take (off + n * i.size) ++ news ++ cur.toList.drop (off + n * i.size + news.length)).toArray, some b, ?_, ⟨hlen, .inr ⟨b, off, _, rfl, rfl, setRow_heap w b cur _ e _ hb, hroom, hcm, ?_, ?_⟩⟩, ?_, .inl ⟨rfl, hroom⟩⟩
      · rcases hs.kind with ⟨e', hk⟩ | hk <;> simp [Builtin.append_, run_underlying ht, run_underlying hk, sizeOf, typeInfo, hi, hs.len, hroom, hs.cells, Addr.add_lit, hst]
      · simp only [List.size_toArray, List.length_append, List.length_take, List.length_drop, Array.length_toList]
        omega
      · intro j u hu
        simp only [List.getElem?_toArray]
        rcases Nat.lt_or_ge j xs.length with hj | hj
        · rw [List.getElem?_append_left hj] at hu
          rw [List.append_assoc, List.getElem?_append_left (by rw [List.length_take, Array.length_toList]; rw [hrow.1] at hj; omega), List.getElem?_take, if_pos (by rw [hrow.1] at hj; omega)]
          simpa using hx j u hu
        · rw [List.getElem?_append_right hj] at hu
          have hj2 := (List.getElem?_eq_some_iff.1 hu).1
          rw [hrow.1] at hu hj hj2
          have hlt : (cur.toList.take (off + n * i.size)).length = off + n * i.size := by rw [List.length_take, Array.length_toList]; omega
          rw [List.append_assoc, List.getElem?_append_right (by rw [hlt]; omega), hlt, List.getElem?_append_left (by omega)]
          rw [show off + j - (off + n * i.size) = j - n * i.size by omega]
          exact hu
      · exact ⟨rfl, rfl, rfl, by simp [World.setRow], fun k _ hk => setRow_other w b k _ (fun e => hk ⟨by rw [e], hroom⟩)⟩
  · have hfx : (Builtin.firstCells i.size n (.slice A n cap)).run P w.drew = .ok xs.toArray w.drew := by
      rcases hrow.2 with ⟨rfl, rfl, rfl, rfl⟩ | ⟨b, off, cur, rfl, rfl, hb, hnc, hcm, hcs, hx⟩
      · have hxs : xs = [] := List.eq_nil_of_length_eq_zero (by simpa using hrow.1)
        subst hxs
        simp [Builtin.firstCells]
      · exact run_firstCells_some w.drew i.size n ⟨b, off, none⟩ n cap xs hrow.1 (fun j u hu => by rw [Addr.add_lit]; exact (hb.cell _).trans (hx j u hu))
    have hcm : grownCap w (n + m) cap e ≤ maxLen := grownCap_le_maxLen w (n + m) cap e h63
    have hge := grownCap_ge w (n + m) cap e
    refine ⟨some ⟨w.heap.size, 0, none⟩, grownCap w (n + m) cap e, w.drew.alloc (.cells ((xs ++ news).toArray ++ Builtin.zeroCells z.cells (grownCap w (n + m) cap e - (n + m))) e), some w.heap.size, ?_, ⟨hlen, .inr ⟨w.heap.size, 0, _, rfl, rfl, heap_alloc_new w.drew _, hge, hcm, ?_, ?_⟩⟩, (Only.refl _ _).drew.alloc _, .inr rfl⟩
    · exact run_append_grow_src (P := P) w t tx ty e i z ht hi hz A n cap xs hfx x m news hs (by omega) (by simp only [maxLen] at h63; omega) (growslice_fits (by omega) hbytes)
    · simp only [Array.size_append, List.size_toArray, size_zeroCells, hzs, hlen, ← Nat.add_mul]
      rw [show n + m + (grownCap w (n + m) cap e - (n + m)) = grownCap w (n + m) cap e by omega]
      omega
    · intro j u hu
      have hj := (List.getElem?_eq_some_iff.1 hu).1
      rw [Nat.zero_add, Array.getElem?_append_left (by simpa using hj)]
      simpa using hu

theorem run_append_row (t tx ty e : TypeId) (i : TypeInfo) (z : Value) (size bytes : Nat) (ht : P.underlying t = some (.slice e)) (hi : P.info? e = some i) (hz : i.zero = some z)
    (hsize : i.size = size) (hby : i.bytes = bytes) (hzs : z.cells.size = size)
    (A : Option Addr) (n cap : Nat) (xs : List Value) (g : Option Nat) (hrow : Row w e size A n cap xs g)
    (x : Value) (m : Nat) (news : List Value) (hs : Src P size tx x m news w)
    (h63 : n + m ≤ maxLen) (hbytes : (n + m) * bytes ≤ 140737488355328) :
    ∃ A' c' w' g', (Builtin.append_ #[t, tx] ty #[.slice A n cap, x]).run P w = .ok (.slice A' (n + m) c') w' ∧ Row w' e size A' (n + m) c' (xs ++ news) g' ∧
      Only (fun k => some k = g) w w' ∧ (g' = g ∨ g' = some w.heap.size) := by
  obtain ⟨A', c', w', g', h1, h2, h3, h4⟩ := run_append_row0 (P := P) w t tx ty e i z size bytes ht hi hz hsize hby hzs A n cap xs g hrow x m news hs h63 hbytes
  exact ⟨A', c', w', g', h1, h2, h3.mono (fun _ _ h => h.1), h4.imp (fun h => h.1) id⟩
/-- append where the room is spent: new memory alone. -/
theorem step_append_new {ops : Array Oper} {o : Oper} {a : Act} {K : Act → World → Prop} {Q : Exit → Act → World → Prop} {E : Prop} (hgd : o.guard = none) (s x : Operand) (t tx : TypeId)
    (ho : o.op = .call { callee := .builtin .append, args := #[s, x], argTypes := #[t, tx] })
    (e : TypeId) (i : TypeInfo) (z : Value) (size bytes : Nat) (ht : P.underlying t = some (.slice e)) (hi : P.info? e = some i) (hz : i.zero = some z)
    (hsize : i.size = size) (hby : i.bytes = bytes) (hzs : z.cells.size = size)
    (A : Option Addr) (n cap : Nat) (xs : List Value) (g : Option Nat) (hsv : a.eval s = .slice A n cap) (hrow : Row w e size A n cap xs g)
    (v : Value) (m : Nat) (news : List Value) (hxv : a.eval x = v) (hs : Src P size tx v m news w)
    (h63 : n + m ≤ maxLen) (hbytes : (n + m) * bytes ≤ 140737488355328) (hroom : cap < n + m)
    (h : ∀ A' c' w', Row w' e size A' (n + m) c' (xs ++ news) (some w.heap.size) → Only (fun _ => False) w w' → K (a.put o.dst (.slice A' (n + m) c')) w') :
    if Region.wanted o (yielded ops a.tmps) = true then Oper.wp P o a w K Q else E := by
  have hw : Region.wanted o (yielded ops a.tmps) = true := by simp [Region.wanted, hgd]
  rw [if_pos hw]
  obtain ⟨A', c', w', g', hr, h2, h3, h4⟩ := run_append_row0 (P := P) w t tx o.type e i z size bytes ht hi hz hsize hby hzs A n cap xs g hrow v m news hs h63 hbytes
  obtain rfl : g' = some w.heap.size := by
    rcases h4 with ⟨_, h⟩ | h
    · omega
    · exact h
  unfold Oper.wp execOp
  simp only [ho, resolve, invoke, builtin, Sem.run_bind, Sem.run_pure, Result.andThen_ok, List.map_toArray, List.map_cons, List.map_nil, hsv, hxv, hr]
  exact h A' c' w' h2 (h3.mono (fun _ _ h => by omega))
theorem wp_append_row {o : Oper} {a : Act} {K : Act → World → Prop} {Q : Exit → Act → World → Prop} (s x : Operand) (t tx : TypeId)
    (ho : o.op = .call { callee := .builtin .append, args := #[s, x], argTypes := #[t, tx] })
    (e : TypeId) (i : TypeInfo) (z : Value) (size bytes : Nat) (ht : P.underlying t = some (.slice e)) (hi : P.info? e = some i) (hz : i.zero = some z)
    (hsize : i.size = size) (hby : i.bytes = bytes) (hzs : z.cells.size = size)
    (A : Option Addr) (n cap : Nat) (xs : List Value) (g : Option Nat) (hsv : a.eval s = .slice A n cap) (hrow : Row w e size A n cap xs g)
    (v : Value) (m : Nat) (news : List Value) (hxv : a.eval x = v) (hs : Src P size tx v m news w)
    (h63 : n + m ≤ maxLen) (hbytes : (n + m) * bytes ≤ 140737488355328)
    (h : ∀ A' c' g' w', Row w' e size A' (n + m) c' (xs ++ news) g' → Only (fun k => some k = g) w w' → (g' = g ∨ g' = some w.heap.size) → K (a.put o.dst (.slice A' (n + m) c')) w') : o.wp P a w K Q := by
  obtain ⟨A', c', w', g', hr, h2, h3, h4⟩ := run_append_row (P := P) w t tx o.type e i z size bytes ht hi hz hsize hby hzs A n cap xs g hrow v m news hs h63 hbytes
  unfold Oper.wp execOp
  simp only [ho, resolve, invoke, builtin, Sem.run_bind, Sem.run_pure, Result.andThen_ok, List.map_toArray, List.map_cons, List.map_nil, hsv, hxv, hr]
  exact h A' c' g' w' h2 h3 h4

/-- append, in a region that keeps its order. -/
theorem wpList_append_row {ops : Array Oper} {rest : List Oper} {o : Oper} {a : Act} {Q : Exit → Act → World → Prop} (hgd : o.guard = none) (s x : Operand) (t tx : TypeId)
    (ho : o.op = .call { callee := .builtin .append, args := #[s, x], argTypes := #[t, tx] })
    (e : TypeId) (i : TypeInfo) (z : Value) (size bytes : Nat) (ht : P.underlying t = some (.slice e)) (hi : P.info? e = some i) (hz : i.zero = some z)
    (hsize : i.size = size) (hby : i.bytes = bytes) (hzs : z.cells.size = size)
    (A : Option Addr) (n cap : Nat) (xs : List Value) (g : Option Nat) (hsv : a.eval s = .slice A n cap) (hrow : Row w e size A n cap xs g)
    (v : Value) (m : Nat) (news : List Value) (hxv : a.eval x = v) (hs : Src P size tx v m news w)
    (h63 : n + m ≤ maxLen) (hbytes : (n + m) * bytes ≤ 140737488355328)
    (h : ∀ A' c' g' w', Row w' e size A' (n + m) c' (xs ++ news) g' → Only (fun k => some k = g) w w' → (g' = g ∨ g' = some w.heap.size) → wpList P ops Q rest (a.put o.dst (.slice A' (n + m) c')) w') : wpList P ops Q (o :: rest) a w :=
  wpList_plain hgd fun _ hK => wp_append_row w s x t tx ho e i z size bytes ht hi hz hsize hby hzs A n cap xs g hsv hrow v m news hxv hs h63 hbytes fun A' c' g' w' h2 h3 h4 => hK _ _ (h A' c' g' w' h2 h3 h4)

/-- append, as one step of a region that draws. -/
theorem step_append_row {ops : Array Oper} {o : Oper} {a : Act} {K : Act → World → Prop} {Q : Exit → Act → World → Prop} {E : Prop} (hgd : o.guard = none) (s x : Operand) (t tx : TypeId)
    (ho : o.op = .call { callee := .builtin .append, args := #[s, x], argTypes := #[t, tx] })
    (e : TypeId) (i : TypeInfo) (z : Value) (size bytes : Nat) (ht : P.underlying t = some (.slice e)) (hi : P.info? e = some i) (hz : i.zero = some z)
    (hsize : i.size = size) (hby : i.bytes = bytes) (hzs : z.cells.size = size)
    (A : Option Addr) (n cap : Nat) (xs : List Value) (g : Option Nat) (hsv : a.eval s = .slice A n cap) (hrow : Row w e size A n cap xs g)
    (v : Value) (m : Nat) (news : List Value) (hxv : a.eval x = v) (hs : Src P size tx v m news w)
    (h63 : n + m ≤ maxLen) (hbytes : (n + m) * bytes ≤ 140737488355328)
    (h : ∀ A' c' g' w', Row w' e size A' (n + m) c' (xs ++ news) g' → Only (fun k => some k = g) w w' → (g' = g ∨ g' = some w.heap.size) → K (a.put o.dst (.slice A' (n + m) c')) w') :
    if Region.wanted o (yielded ops a.tmps) = true then Oper.wp P o a w K Q else E := by
  have hw : Region.wanted o (yielded ops a.tmps) = true := by simp [Region.wanted, hgd]
  rw [if_pos hw]
  exact wp_append_row w s x t tx ho e i z size bytes ht hi hz hsize hby hzs A n cap xs g hsv hrow v m news hxv hs h63 hbytes h
end
end Go.Proofs.Ytopcnkejobomaaa
