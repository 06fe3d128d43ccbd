/- Nets as plain data: what each call makes of a row of letters, and where a net lies. No program is named here. -/
import Derived.Test.YthnjpglpglbbkaaBase
namespace Go.Proofs.Ythnjpglpglbbkaa
open Go.RowKit

/-- A letter under way. -/
structure Ltr where
  fr : Int
  to : Int
  tx : ByteArray
def Ltr.cells (l : Ltr) : List Value := [.int .i64 l.fr, .int .i64 l.to, .string l.tx]
def lcells (l : List Ltr) : List Value := l.flatMap Ltr.cells
theorem Ltr.cells_length (l : Ltr) : l.cells.length = 3 := rfl
theorem Ltr.cells_one (l : Ltr) : ∀ u ∈ l.cells, u.oneCell' = true := by
  intro u hu; simp [Ltr.cells] at hu; rcases hu with rfl | rfl | rfl <;> rfl
theorem lcells_append (a b : List Ltr) : lcells (a ++ b) = lcells a ++ lcells b := by simp [lcells]
theorem lcells_one (l : Ltr) : lcells [l] = l.cells := by simp [lcells]
theorem lcells_cons (l : Ltr) (a : List Ltr) : lcells (l :: a) = l.cells ++ lcells a := by simp [lcells]
theorem lcells_length (l : List Ltr) : (lcells l).length = l.length * 3 := by
  induction l with
  | nil => rfl
  | cons x l ih => rw [lcells_cons, List.length_append, ih, Ltr.cells_length, List.length_cons]; omega
theorem lcells_take (l : List Ltr) (k : Nat) : lcells (l.take k) = (lcells l).take (k * 3) := by
  induction l generalizing k with
  | nil => simp [lcells]
  | cons x l ih =>
    cases k with
    | zero => simp [lcells]
    | succ k => rw [List.take_succ_cons, lcells_cons, lcells_cons, ih, List.take_append, Ltr.cells_length, List.take_of_length_le (l := x.cells) (by rw [Ltr.cells_length]; omega)]; congr 2; omega
theorem lcells_drop (l : List Ltr) (k : Nat) : lcells (l.drop k) = (lcells l).drop (k * 3) := by
  induction l generalizing k with
  | nil => simp [lcells]
  | cons x l ih =>
    cases k with
    | zero => simp [lcells]
    | succ k => rw [List.drop_succ_cons, lcells_cons, ih, List.drop_append, Ltr.cells_length, List.drop_eq_nil_of_le (as := x.cells) (by rw [Ltr.cells_length]; omega), List.nil_append]; congr 1; omega
theorem lcells_at (l : List Ltr) (k : Nat) (hk : k < l.length) : (lcells l)[k * 3]? = some (.int .i64 l[k].fr) ∧ (lcells l)[k * 3 + 1]? = some (.int .i64 l[k].to) ∧ (lcells l)[k * 3 + 2]? = some (.string l[k].tx) := by
  have h : lcells (l.drop k) = l[k].cells ++ lcells (l.drop (k + 1)) := by rw [List.drop_eq_getElem_cons hk, lcells_cons]
  rw [lcells_drop] at h
  have g : ∀ j, (lcells l)[k * 3 + j]? = (l[k].cells ++ lcells (l.drop (k + 1)))[j]? := fun j => by rw [← h, List.getElem?_drop]
  exact ⟨g 0, g 1, g 2⟩

/-- A net: room, lost, the letters. -/
structure NetM where
  room : Int
  lost : Int
  row : List Ltr
def NetM.full (n : NetM) : Bool := decide (n.room ≤ n.row.length)
def NetM.has (n : NetM) (i : Int) : Bool := decide (0 ≤ i) && decide (i < n.row.length)
def NetM.send (n : NetM) (l : Ltr) : NetM := { n with row := n.row ++ [l] }
def NetM.lose (n : NetM) : NetM := { n with lost := wrap64 (n.lost + 1) }
def NetM.take (n : NetM) (i : Nat) : NetM := { n with row := n.row.eraseIdx i }
def NetM.twice (n : NetM) (i : Nat) : NetM := { n with row := n.row.take (i + 1) ++ n.row.drop i }

/-- The net n lies in block b (its type tS), its row (elements of type tE) in block g. -/
def NetAt (tS tE : TypeId) (w : World) (b : Nat) (n : NetM) (g : Option Nat) : Prop :=
  n.room ≤ 65536 ∧ n.row.length ≤ 65536 ∧ g ≠ some b ∧ ∃ A c, Blk w b tS #[.int .i64 n.room, .int .i64 n.lost, .slice A n.row.length c] ∧ Row w tE 3 A n.row.length c (lcells n.row) g
/-- The blocks of a net. -/
def NetF (b : Nat) (g : Option Nat) (k : Nat) : Prop := k = b ∨ some k = g
/-- What a call on a net has made of it: the net n, its row now in block g', and nothing else has turned. -/
def NetTo (tS tE : TypeId) (w w' : World) (b : Nat) (g : Option Nat) (n : NetM) : Prop :=
  ∃ g', NetAt tS tE w' b n g' ∧ Only (NetF b g) w w' ∧ ∀ k, g' = some k → g = some k ∨ w.heap.size ≤ k

section
variable {tS tE : TypeId} {w w' w1 w2 : World} {b : Nat} {n : NetM} {g g1 : Option Nat} {S : Nat → Prop}
theorem NetAt.only (h : NetAt tS tE w b n g) (ho : Only S w w') (hn : ∀ k, NetF b g k → ¬ S k) : NetAt tS tE w' b n g := by
  obtain ⟨h1, h2, h3, A, c, h4, h5⟩ := h
  exact ⟨h1, h2, h3, A, c, h4.only ho (hn b (.inl rfl)), h5.only ho (fun k hk => hn k (.inr hk.symm))⟩
theorem NetAt.lt (h : NetAt tS tE w b n g) : ∀ k, NetF b g k → k < w.heap.size := by
  obtain ⟨_, _, _, A, c, h4, h5⟩ := h
  rintro k (rfl | hk)
  · exact h4.lt
  · exact h5.lt k hk.symm
theorem lcells_one' (l : List Ltr) : ∀ u ∈ lcells l, u.oneCell' = true := by
  intro u hu
  obtain ⟨x, _, hx⟩ := List.mem_flatMap.1 hu
  exact x.cells_one u hx
/-- The row's slice is stored into its field; then blocks of the call's own may turn (T). -/
theorem net_close (T : Nat → Prop) (A' : Option Addr) (c' : Nat) (A : Option Addr) (m c : Nat) (n n' : NetM) (g' : Option Nat) (hr : n'.room ≤ 65536) (hl : n'.row.length ≤ 65536) (hgb : g ≠ some b) (hb : Blk w b tS #[.int .i64 n.room, .int .i64 n.lost, .slice A m c])
    (hgl : ∀ k, g = some k → k < w.heap.size)
    (hw1 : Only (fun _ => False) w w1) (ho : Only (fun k => some k = g) w1 w2) (hrow : Row w2 tE 3 A' n'.row.length c' (lcells n'.row) g') (hg : g' = g ∨ g' = some w1.heap.size)
    (e1 : n.room = n'.room) (e2 : n.lost = n'.lost) (hT : ∀ k, T k → w.heap.size ≤ k ∧ k < w1.heap.size) (hw : Only T (w2.setCell ⟨b, 2, none⟩ (.slice A' n'.row.length c')) w') : NetTo tS tE w w' b g n' := by
  have hlt := hb.lt
  have hg' : g' ≠ some b := by
    rcases hg with h | h <;> rw [h]
    · exact hgb
    · intro e
      have := hw1.size
      injection e
      omega
  have hb2 : Blk w2 b tS #[.int .i64 n.room, .int .i64 n.lost, .slice A m c] := ho.blk (hw1.blk hb (fun h => h)) (fun e => hgb e.symm)
  refine ⟨g', ⟨hr, hl, hg', A', c', ?_, ?_⟩, ?_, ?_⟩
  · rw [← e1, ← e2]
    have := hw.blk (hb2.set_ 2 (.slice A' n'.row.length c')) (fun h => by have := hT _ h; omega)
    simpa using this
  · refine hw.row (((Only.refl (fun k => k = b) w2).setCell (.inr rfl) _).row hrow (fun k hk e => hg' (by rw [hk, e]))) (fun k hk h => ?_)
    have := hT k h
    rcases hg with h | h
    · have := hgl k (by rw [← h, hk]); omega
    · rw [h] at hk; injection hk; omega
  · have h1 : Only (NetF b g) w w1 := hw1.mono (fun _ _ h => h.elim)
    have h2 : Only (NetF b g) w1 w2 := ho.mono (fun _ _ e => .inr e)
    exact ((h1.trans h2 (fun _ _ h => h)).setCell (.inr (.inl rfl)) _).trans hw (fun k hk h => by have := hT k h; omega)
  · intro k hk
    rcases hg with h | h
    · exact .inl (by rw [← h, hk])
    · rw [h] at hk
      injection hk with hk
      exact .inr (by rw [← hk]; exact hw1.size)
/-- The same where the row that is grown is new memory (block k). -/
theorem net_close2 (A' : Option Addr) (c' : Nat) (A : Option Addr) (m c : Nat) (n n' : NetM) (g' : Option Nat) (k : Nat) (hr : n'.room ≤ 65536) (hl : n'.row.length ≤ 65536) (hb : Blk w b tS #[.int .i64 n.room, .int .i64 n.lost, .slice A m c])
    (hw1 : Only (fun _ => False) w w1) (ho : Only (fun i => some i = some k) w1 w2) (hrow : Row w2 tE 3 A' n'.row.length c' (lcells n'.row) g') (hg : g' = some k ∨ g' = some w1.heap.size) (hk : w.heap.size ≤ k)
    (e1 : n.room = n'.room) (e2 : n.lost = n'.lost) (hw : w' = w2.setCell ⟨b, 2, none⟩ (.slice A' n'.row.length c')) : NetTo tS tE w w' b g n' := by
  subst hw
  have hlt := hb.lt
  have hs := hw1.size
  have hg' : ∀ j, g' = some j → w.heap.size ≤ j := by
    intro j hj
    rcases hg with h | h <;> rw [h] at hj <;> injection hj with hj <;> omega
  have hb2 : Blk w2 b tS #[.int .i64 n.room, .int .i64 n.lost, .slice A m c] := ho.blk (hw1.blk hb (fun h => h)) (fun e => by injection e; omega)
  refine ⟨g', ⟨hr, hl, fun e => by have := hg' _ e; omega, A', c', ?_, ((Only.refl (fun k => k = b) w2).setCell (.inr rfl) _).row hrow (fun k hk e => by have := hg' _ hk; omega)⟩, ?_, fun j hj => .inr (hg' j hj)⟩
  · rw [← e1, ← e2]
    simpa using hb2.set_ 2 (.slice A' n'.row.length c')
  · have h1 : Only (NetF b g) w w1 := hw1.mono (fun _ _ h => h.elim)
    exact (h1.trans ho (fun i hi e => by injection e; omega)).setCell (.inr (.inl rfl)) _
/-- A row of the call's own is stored into the field. -/
theorem net_close3 (T : Nat → Prop) (A' : Option Addr) (c' : Nat) (A : Option Addr) (m c : Nat) (n n' : NetM) (g' : Option Nat) (hr : n'.room ≤ 65536) (hl : n'.row.length ≤ 65536) (hb : Blk w b tS #[.int .i64 n.room, .int .i64 n.lost, .slice A m c])
    (hw1 : Only (fun _ => False) w w1) (hrow : Row w1 tE 3 A' n'.row.length c' (lcells n'.row) g') (hg : ∀ j, g' = some j → w.heap.size ≤ j ∧ ¬ T j) (hT : ∀ k, T k → w.heap.size ≤ k)
    (e1 : n.room = n'.room) (e2 : n.lost = n'.lost) (hw : Only T (w1.setCell ⟨b, 2, none⟩ (.slice A' n'.row.length c')) w') : NetTo tS tE w w' b g n' := by
  have hlt := hb.lt
  have hb2 : Blk w1 b tS #[.int .i64 n.room, .int .i64 n.lost, .slice A m c] := hw1.blk hb (fun h => h)
  refine ⟨g', ⟨hr, hl, fun e => by have := (hg _ e).1; omega, A', c', ?_, hw.row (((Only.refl (fun k => k = b) w1).setCell (.inr rfl) _).row hrow (fun k hk e => by have := (hg _ hk).1; omega)) (fun k hk h => (hg k hk).2 h)⟩, ?_, fun j hj => .inr (hg j hj).1⟩
  · rw [← e1, ← e2]
    simpa using hw.blk (hb2.set_ 2 (.slice A' n'.row.length c')) (fun h => by have := hT _ h; omega)
  · have h1 : Only (NetF b g) w w1 := hw1.mono (fun _ _ h => h.elim)
    exact (h1.setCell (.inr (.inl rfl)) _).trans hw (fun i hi e => by have := hT _ e; omega)
/-- A net of the call's own may turn as it likes. -/
theorem Only.net (h : Only S w w1) (ho : Only (NetF b g) w1 w2) (hb : w.heap.size ≤ b ∨ S b) (hg : ∀ k, g = some k → w.heap.size ≤ k ∨ S k) : Only S w w2 :=
  h.trans ho (fun k hk e => by
    rcases e with rfl | e
    · rcases hb with hb | hb
      · omega
      · exact hb
    · rcases hg k e.symm with hb | hb
      · omega
      · exact hb)
end
end Go.Proofs.Ythnjpglpglbbkaa
