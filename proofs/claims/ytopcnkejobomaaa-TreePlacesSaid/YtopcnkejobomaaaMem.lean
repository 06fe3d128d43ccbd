/- Memory in two parts: what a call owns (a list of resources), and what is frozen (a part of the heap). No program is named here. -/
import Derived.Test.YtopcnkejobomaaaRow
namespace Go.Proofs.Ytopcnkejobomaaa
open Go.RowKit

/-! ### Cells by fields -/
/-- A field: one cell, or n cells. -/
inductive Fd where
  | one (v : Value)
  | arr (n : Nat) (l : List Value)
def Fd.cells : Fd → List Value
  | .one v => [v]
  | .arr _ l => l
def Fd.size : Fd → Nat
  | .one _ => 1
  | .arr n _ => n
def fl : List Fd → List Value
  | [] => []
  | f :: fs => f.cells ++ fl fs
def fsz : List Fd → Nat
  | [] => 0
  | f :: fs => f.size + fsz fs
theorem fl_append (a b : List Fd) : fl (a ++ b) = fl a ++ fl b := by
  induction a with
  | nil => rfl
  | cons f a ih => simp [fl, ih]
theorem fsz_append (a b : List Fd) : fsz (a ++ b) = fsz a + fsz b := by
  induction a with
  | nil => simp [fsz]
  | cons f a ih => simp [fsz, ih]; omega
/-- A cell's value is no aggregate. -/
class One (v : Value) : Prop where
  ok : v.oneCell' = true
instance (b : Bool) : One (.bool b) := ⟨rfl⟩
instance (k : IntKind) (n : Int) : One (.int k n) := ⟨rfl⟩
instance (s : ByteArray) : One (.string s) := ⟨rfl⟩
instance (a : Option Addr) : One (.pointer a) := ⟨rfl⟩
instance (a : Option Addr) (n c : Nat) : One (.slice a n c) := ⟨rfl⟩
instance (a : Option Nat) : One (.map a) := ⟨rfl⟩
instance (a : Option Nat) : One (.chan a) := ⟨rfl⟩
instance (f : Fn) (a b : Array Value) : One (.func f a b) := ⟨rfl⟩
instance (t : TypeId) (v : Value) : One (.iface t v) := ⟨rfl⟩
instance : One .nilFunc := ⟨rfl⟩
instance : One .nilIface := ⟨rfl⟩
class FdOk (f : Fd) : Prop where
  len : f.cells.length = f.size
  one : ∀ u ∈ f.cells, u.oneCell' = true
instance (v : Value) [h : One v] : FdOk (.one v) := ⟨rfl, fun u hu => by rw [List.mem_singleton.1 hu]; exact h.ok⟩
class FOk (fs : List Fd) : Prop where
  ok : ∀ f ∈ fs, FdOk f
instance : FOk [] := ⟨fun _ h => by cases h⟩
instance (f : Fd) (fs : List Fd) [h : FdOk f] [k : FOk fs] : FOk (f :: fs) := ⟨fun x hx => by
  cases hx with
  | head => exact h
  | tail _ hx => exact k.ok x hx⟩
theorem FOk.len {fs : List Fd} (h : FOk fs) : (fl fs).length = fsz fs := by
  have h := h.ok
  induction fs with
  | nil => rfl
  | cons f fs ih =>
    simp only [fl, fsz, List.length_append]
    rw [(h f (List.mem_cons_self ..)).len, ih ⟨fun x hx => h x (List.mem_cons_of_mem _ hx)⟩ fun x hx => h x (List.mem_cons_of_mem _ hx)]
theorem FOk.one {fs : List Fd} (h : FOk fs) : ∀ u ∈ fl fs, u.oneCell' = true := by
  have h := h.ok
  induction fs with
  | nil => intro u hu; cases hu
  | cons f fs ih =>
    intro u hu
    rcases List.mem_append.1 hu with hu | hu
    · exact (h f (List.mem_cons_self ..)).one u hu
    · exact ih ⟨fun x hx => h x (List.mem_cons_of_mem _ hx)⟩ (fun x hx => h x (List.mem_cons_of_mem _ hx)) u hu
theorem FOk.left {a b : List Fd} (h : FOk (a ++ b)) : FOk a := ⟨fun f hf => h.ok f (List.mem_append.2 (.inl hf))⟩
theorem FOk.right {a b : List Fd} (h : FOk (a ++ b)) : FOk b := ⟨fun f hf => h.ok f (List.mem_append.2 (.inr hf))⟩
theorem FOk.app {a b : List Fd} (h : FOk a) (k : FOk b) : FOk (a ++ b) := ⟨fun f hf => by
  rcases List.mem_append.1 hf with hf | hf
  · exact h.ok f hf
  · exact k.ok f hf⟩

/-- 32 bytes. -/
abbrev H32 := {l : List Int // l.length = 32 ∧ ∀ x ∈ l, 0 ≤ x ∧ x < 256}
abbrev ha (h : H32) : Value := .agg (u8s h.1).toArray
instance (h : H32) : FdOk (.arr 32 (u8s h.1)) := ⟨by simp [Fd.cells, Fd.size, u8s, h.2.1], fun u hu => u8s_one _ u hu⟩
instance (n : Nat) (v : Value) [h : One v] : FdOk (.arr n (List.replicate n v)) := ⟨by simp [Fd.cells, Fd.size], fun u hu => by
  simp only [Fd.cells, List.mem_replicate] at hu
  rw [hu.2]; exact h.ok⟩

/-- The fields that are k cells in the beginning. -/
class Tk (fs : List Fd) (k : Nat) (gs : outParam (List Fd)) : Prop where
  ok : ∃ rs, fs = gs ++ rs ∧ fsz gs = k
instance (fs : List Fd) : Tk fs 0 [] := ⟨⟨fs, rfl, rfl⟩⟩
instance (fs gs : List Fd) (k : Nat) (v : Value) [h : Tk fs k gs] : Tk (.one v :: fs) (k + 1) (.one v :: gs) := ⟨by
  obtain ⟨rs, rfl, h2⟩ := h.ok
  exact ⟨rs, rfl, by simp [fsz, Fd.size, h2]; omega⟩⟩
theorem Tk.arr (fs gs : List Fd) (k n : Nat) (l : List Value) (h : Tk fs k gs) : Tk (.arr n l :: fs) (k + n) (.arr n l :: gs) := ⟨by
  obtain ⟨rs, rfl, h2⟩ := h.ok
  exact ⟨rs, rfl, by simp [fsz, Fd.size, h2]; omega⟩⟩
instance (fs gs : List Fd) (k : Nat) (l : List Value) [h : Tk fs k gs] : Tk (.arr 2 l :: fs) (k + 2) (.arr 2 l :: gs) := h.arr fs gs k 2 l
instance (fs gs : List Fd) (k : Nat) (l : List Value) [h : Tk fs k gs] : Tk (.arr 3 l :: fs) (k + 3) (.arr 3 l :: gs) := h.arr fs gs k 3 l
instance (fs gs : List Fd) (k : Nat) (l : List Value) [h : Tk fs k gs] : Tk (.arr 4 l :: fs) (k + 4) (.arr 4 l :: gs) := h.arr fs gs k 4 l
instance (fs gs : List Fd) (k : Nat) (l : List Value) [h : Tk fs k gs] : Tk (.arr 5 l :: fs) (k + 5) (.arr 5 l :: gs) := h.arr fs gs k 5 l
instance (fs gs : List Fd) (k : Nat) (l : List Value) [h : Tk fs k gs] : Tk (.arr 8 l :: fs) (k + 8) (.arr 8 l :: gs) := h.arr fs gs k 8 l
instance (fs gs : List Fd) (k : Nat) (l : List Value) [h : Tk fs k gs] : Tk (.arr 32 l :: fs) (k + 32) (.arr 32 l :: gs) := h.arr fs gs k 32 l
instance (fs gs : List Fd) (k : Nat) (l : List Value) [h : Tk fs k gs] : Tk (.arr 64 l :: fs) (k + 64) (.arr 64 l :: gs) := h.arr fs gs k 64 l
instance (fs gs : List Fd) (k : Nat) (l : List Value) [h : Tk fs k gs] : Tk (.arr 65 l :: fs) (k + 65) (.arr 65 l :: gs) := h.arr fs gs k 65 l
/-- The fields from the cell off on, k cells. -/
class Sub (fs : List Fd) (off k : Nat) (gs : outParam (List Fd)) : Prop where
  ok : ∃ ls rs, fs = ls ++ gs ++ rs ∧ fsz ls = off ∧ fsz gs = k
instance (fs gs : List Fd) (k : Nat) [h : Tk fs k gs] : Sub fs 0 k gs := ⟨by
  obtain ⟨rs, h1, h2⟩ := h.ok
  exact ⟨[], rs, h1, rfl, h2⟩⟩
instance (fs gs : List Fd) (off k : Nat) (v : Value) [h : Sub fs off k gs] : Sub (.one v :: fs) (off + 1) k gs := ⟨by
  obtain ⟨ls, rs, rfl, h2, h3⟩ := h.ok
  exact ⟨.one v :: ls, rs, rfl, by simp [fsz, Fd.size, h2]; omega, h3⟩⟩
theorem Sub.arr (fs gs : List Fd) (off k n : Nat) (l : List Value) (h : Sub fs off k gs) : Sub (.arr n l :: fs) (off + n) k gs := ⟨by
  obtain ⟨ls, rs, rfl, h2, h3⟩ := h.ok
  exact ⟨.arr n l :: ls, rs, rfl, by simp [fsz, Fd.size, h2]; omega, h3⟩⟩
instance (fs gs : List Fd) (off k : Nat) (l : List Value) [h : Sub fs off k gs] : Sub (.arr 2 l :: fs) (off + 2) k gs := h.arr fs gs off k 2 l
instance (fs gs : List Fd) (off k : Nat) (l : List Value) [h : Sub fs off k gs] : Sub (.arr 3 l :: fs) (off + 3) k gs := h.arr fs gs off k 3 l
instance (fs gs : List Fd) (off k : Nat) (l : List Value) [h : Sub fs off k gs] : Sub (.arr 4 l :: fs) (off + 4) k gs := h.arr fs gs off k 4 l
instance (fs gs : List Fd) (off k : Nat) (l : List Value) [h : Sub fs off k gs] : Sub (.arr 5 l :: fs) (off + 5) k gs := h.arr fs gs off k 5 l
instance (fs gs : List Fd) (off k : Nat) (l : List Value) [h : Sub fs off k gs] : Sub (.arr 8 l :: fs) (off + 8) k gs := h.arr fs gs off k 8 l
instance (fs gs : List Fd) (off k : Nat) (l : List Value) [h : Sub fs off k gs] : Sub (.arr 32 l :: fs) (off + 32) k gs := h.arr fs gs off k 32 l
instance (fs gs : List Fd) (off k : Nat) (l : List Value) [h : Sub fs off k gs] : Sub (.arr 64 l :: fs) (off + 64) k gs := h.arr fs gs off k 64 l
instance (fs gs : List Fd) (off k : Nat) (l : List Value) [h : Sub fs off k gs] : Sub (.arr 65 l :: fs) (off + 65) k gs := h.arr fs gs off k 65 l
theorem Sub.cells {fs gs : List Fd} {off k : Nat} (h : Sub fs off k gs) (hf : FOk fs) : FOk gs ∧ (fl gs).length = k ∧ ∀ j v, (fl gs)[j]? = some v → (fl fs)[off + j]? = some v := by
  obtain ⟨ls, rs, rfl, rfl, rfl⟩ := h.ok
  have hg := hf.left.right
  refine ⟨hg, hg.len, fun j v hv => ?_⟩
  rw [fl_append, fl_append, List.append_assoc, List.getElem?_append_right (by rw [hf.left.left.len]; omega), hf.left.left.len]
  rw [show fsz ls + j - fsz ls = j by omega, List.getElem?_append_left (List.getElem?_eq_some_iff.1 hv).1]
  exact hv
/-- The fields with others laid over them from the cell off on. -/
class Put (fs : List Fd) (off : Nat) (gs : List Fd) (fs' : outParam (List Fd)) : Prop where
  ok : ∃ ls ms rs, fs = ls ++ ms ++ rs ∧ fs' = ls ++ gs ++ rs ∧ fsz ls = off ∧ fsz ms = fsz gs
instance (fs : List Fd) : Put fs 0 [] fs := ⟨⟨[], [], fs, rfl, rfl, rfl, rfl⟩⟩
theorem Put.front {fs gs fs' : List Fd} (h : Put fs 0 gs fs') : ∃ ms rs, fs = ms ++ rs ∧ fs' = gs ++ rs ∧ fsz ms = fsz gs ∨ ∃ l ms rs, l ≠ [] ∧ fs = l ++ ms ++ rs ∧ fs' = l ++ gs ++ rs ∧ fsz l = 0 ∧ fsz ms = fsz gs := by
  obtain ⟨ls, ms, rs, h1, h2, h3, h4⟩ := h.ok
  cases ls with
  | nil => exact ⟨ms, rs, .inl ⟨h1, h2, h4⟩⟩
  | cons l ls => exact ⟨[], [], .inr ⟨l :: ls, ms, rs, by simp, h1, h2, h3, h4⟩⟩
/-- Laid over the beginning. -/
class Put0 (fs gs : List Fd) (fs' : outParam (List Fd)) : Prop where
  ok : ∃ ms rs, fs = ms ++ rs ∧ fs' = gs ++ rs ∧ fsz ms = fsz gs
instance (fs : List Fd) : Put0 fs [] fs := ⟨⟨[], fs, rfl, rfl, rfl⟩⟩
instance (fs gs fs' : List Fd) (u v : Value) [h : Put0 fs gs fs'] : Put0 (.one u :: fs) (.one v :: gs) (.one v :: fs') := ⟨by
  obtain ⟨ms, rs, rfl, rfl, h3⟩ := h.ok
  exact ⟨.one u :: ms, rs, rfl, rfl, by simp [fsz, Fd.size, h3]⟩⟩
instance (fs gs fs' : List Fd) (n : Nat) (u v : List Value) [h : Put0 fs gs fs'] : Put0 (.arr n u :: fs) (.arr n v :: gs) (.arr n v :: fs') := ⟨by
  obtain ⟨ms, rs, rfl, rfl, h3⟩ := h.ok
  exact ⟨.arr n u :: ms, rs, rfl, rfl, by simp [fsz, Fd.size, h3]⟩⟩
instance (fs gs fs' : List Fd) [h : Put0 fs gs fs'] : Put fs 0 gs fs' := ⟨by
  obtain ⟨ms, rs, h1, h2, h3⟩ := h.ok
  exact ⟨[], ms, rs, h1, h2, rfl, h3⟩⟩
instance (fs gs fs' : List Fd) (off : Nat) (v : Value) [h : Put fs off gs fs'] : Put (.one v :: fs) (off + 1) gs (.one v :: fs') := ⟨by
  obtain ⟨ls, ms, rs, rfl, rfl, h3, h4⟩ := h.ok
  exact ⟨.one v :: ls, ms, rs, rfl, rfl, by simp [fsz, Fd.size, h3]; omega, h4⟩⟩
theorem Put.arr (fs gs fs' : List Fd) (off n : Nat) (l : List Value) (h : Put fs off gs fs') : Put (.arr n l :: fs) (off + n) gs (.arr n l :: fs') := ⟨by
  obtain ⟨ls, ms, rs, rfl, rfl, h3, h4⟩ := h.ok
  exact ⟨.arr n l :: ls, ms, rs, rfl, rfl, by simp [fsz, Fd.size, h3]; omega, h4⟩⟩
instance (fs gs fs' : List Fd) (off : Nat) (l : List Value) [h : Put fs off gs fs'] : Put (.arr 2 l :: fs) (off + 2) gs (.arr 2 l :: fs') := h.arr fs gs fs' off 2 l
instance (fs gs fs' : List Fd) (off : Nat) (l : List Value) [h : Put fs off gs fs'] : Put (.arr 3 l :: fs) (off + 3) gs (.arr 3 l :: fs') := h.arr fs gs fs' off 3 l
instance (fs gs fs' : List Fd) (off : Nat) (l : List Value) [h : Put fs off gs fs'] : Put (.arr 4 l :: fs) (off + 4) gs (.arr 4 l :: fs') := h.arr fs gs fs' off 4 l
instance (fs gs fs' : List Fd) (off : Nat) (l : List Value) [h : Put fs off gs fs'] : Put (.arr 5 l :: fs) (off + 5) gs (.arr 5 l :: fs') := h.arr fs gs fs' off 5 l
instance (fs gs fs' : List Fd) (off : Nat) (l : List Value) [h : Put fs off gs fs'] : Put (.arr 8 l :: fs) (off + 8) gs (.arr 8 l :: fs') := h.arr fs gs fs' off 8 l
instance (fs gs fs' : List Fd) (off : Nat) (l : List Value) [h : Put fs off gs fs'] : Put (.arr 32 l :: fs) (off + 32) gs (.arr 32 l :: fs') := h.arr fs gs fs' off 32 l
instance (fs gs fs' : List Fd) (off : Nat) (l : List Value) [h : Put fs off gs fs'] : Put (.arr 64 l :: fs) (off + 64) gs (.arr 64 l :: fs') := h.arr fs gs fs' off 64 l
instance (fs gs fs' : List Fd) (off : Nat) (l : List Value) [h : Put fs off gs fs'] : Put (.arr 65 l :: fs) (off + 65) gs (.arr 65 l :: fs') := h.arr fs gs fs' off 65 l
theorem Put.cells {fs gs fs' : List Fd} {off : Nat} (h : Put fs off gs fs') (hf : FOk fs) (hg : FOk gs) : FOk fs' ∧ lay (fl fs) (fl gs) off = fl fs' ∧ off + (fl gs).length ≤ (fl fs).length := by
  obtain ⟨ls, ms, rs, rfl, rfl, rfl, h4⟩ := h.ok
  refine ⟨(hf.left.left.app hg).app hf.right, ?_, ?_⟩
  · have e1 := hf.left.left.len
    have e2 := hf.left.right.len
    have h1 : (fl ls ++ (fl ms ++ fl rs)).take (fl ls).length = fl ls := List.take_left' rfl
    have h2 : (fl ls ++ (fl ms ++ fl rs)).drop ((fl ls).length + (fl ms).length) = fl rs := by
      rw [← List.append_assoc, ← List.length_append]
      exact List.drop_left' rfl
    unfold lay
    rw [fl_append, fl_append, fl_append, fl_append, hg.len, ← h4, ← e1, ← e2, List.append_assoc (fl ls) (fl ms), h1, h2]
  · rw [hf.len, hg.len, fsz_append, fsz_append]; omega
/-- The value that fields are: of a type that is a struct or an array, or of none. -/
class Fv (q : Bool) (fs : List Fd) (v : outParam Value) : Prop where
  ok : (q = true ∧ v = .agg (fl fs).toArray) ∨ (q = false ∧ fl fs = [v])
instance (priority := 900) (fs : List Fd) : Fv true fs (.agg (fl fs).toArray) := ⟨.inl ⟨rfl, rfl⟩⟩
instance (n : Nat) (l : List Value) : Fv true [.arr n l] (.agg l.toArray) := ⟨.inl ⟨rfl, by simp [fl, Fd.cells]⟩⟩
instance (v : Value) : Fv false [.one v] v := ⟨.inr ⟨rfl, rfl⟩⟩
/-- The fields of a value of n cells. -/
class Vf (v : Value) (n : Nat) (fs : outParam (List Fd)) : Prop where
  ok : v.cells.toList = fl fs ∧ fsz fs = n ∧ FOk fs
instance (priority := 900) (v : Value) [h : One v] : Vf v 1 [.one v] := ⟨⟨by
  have := h.ok
  cases v <;> simp_all [Value.cells, Value.oneCell', fl, Fd.cells], rfl, inferInstance⟩⟩
instance (n : Nat) (l : List Value) [h : FdOk (.arr n l)] : Vf (.agg l.toArray) n [.arr n l] := ⟨⟨by simp [Value.cells, fl, Fd.cells], rfl, inferInstance⟩⟩
class Fsz (fs : List Fd) (n : Nat) : Prop where
  ok : fsz fs = n
instance : Fsz [] 0 := ⟨rfl⟩
instance (v : Value) (fs : List Fd) (n : Nat) [h : Fsz fs n] : Fsz (.one v :: fs) (n + 1) := ⟨by simp [fsz, Fd.size, h.ok]; omega⟩
theorem Fsz.arr (m : Nat) (l : List Value) (fs : List Fd) (n : Nat) (h : Fsz fs n) : Fsz (.arr m l :: fs) (n + m) := ⟨by simp [fsz, Fd.size, h.ok]; omega⟩
instance (l : List Value) (fs : List Fd) (n : Nat) [h : Fsz fs n] : Fsz (.arr 2 l :: fs) (n + 2) := Fsz.arr 2 l fs n h
instance (l : List Value) (fs : List Fd) (n : Nat) [h : Fsz fs n] : Fsz (.arr 3 l :: fs) (n + 3) := Fsz.arr 3 l fs n h
instance (l : List Value) (fs : List Fd) (n : Nat) [h : Fsz fs n] : Fsz (.arr 4 l :: fs) (n + 4) := Fsz.arr 4 l fs n h
instance (l : List Value) (fs : List Fd) (n : Nat) [h : Fsz fs n] : Fsz (.arr 5 l :: fs) (n + 5) := Fsz.arr 5 l fs n h
instance (l : List Value) (fs : List Fd) (n : Nat) [h : Fsz fs n] : Fsz (.arr 8 l :: fs) (n + 8) := Fsz.arr 8 l fs n h
instance (l : List Value) (fs : List Fd) (n : Nat) [h : Fsz fs n] : Fsz (.arr 32 l :: fs) (n + 32) := Fsz.arr 32 l fs n h
instance (l : List Value) (fs : List Fd) (n : Nat) [h : Fsz fs n] : Fsz (.arr 64 l :: fs) (n + 64) := Fsz.arr 64 l fs n h
instance (l : List Value) (fs : List Fd) (n : Nat) [h : Fsz fs n] : Fsz (.arr 65 l :: fs) (n + 65) := Fsz.arr 65 l fs n h
instance (priority := 1100) (n : Nat) (fs : List Fd) [h : FOk fs] [k : Fsz fs n] : Vf (.agg (fl fs).toArray) n fs := ⟨⟨by simp [Value.cells], k.ok, h⟩⟩

/-! ### What is owned, what is frozen -/
abbrev Hp := Nat → Option (Array Value)
def Hp.le (H H' : Hp) : Prop := ∀ b c, H b = some c → H' b = some c
theorem Hp.le.refl (H : Hp) : H.le H := fun _ _ h => h
theorem Hp.le.trans {a b c : Hp} (h : a.le b) (k : b.le c) : a.le c := fun x y e => k x y (h x y e)
def Fz (H : Hp) (w : World) : Prop := ∀ b c, H b = some c → ∃ t fr, w.heap[b]? = some (.cells c t fr)
/-- All blocks of cells of a world. -/
def Hp.of (w : World) : Hp := fun b => match w.heap[b]? with
  | some (.cells c _ _) => some c
  | _ => none
theorem Fz.of (w : World) : Fz (Hp.of w) w := fun b c h => by
  unfold Hp.of at h
  split at h
  · rename_i hw; cases h; exact ⟨_, _, hw⟩
  · cases h
theorem Fz.lt {H : Hp} {w : World} (h : Fz H w) {b : Nat} {c : Array Value} (hb : H b = some c) : b < w.heap.size := by
  obtain ⟨t, fr, h⟩ := h b c hb
  exact (Array.getElem?_eq_some_iff.1 h).1
theorem Fz.same {H : Hp} {w w' : World} (h : Fz H w) (hs : ∀ b c, H b = some c → w'.heap[b]? = w.heap[b]?) : Fz H w' := fun b c hb => by
  obtain ⟨t, fr, h1⟩ := h b c hb
  exact ⟨t, fr, (hs b c hb).trans h1⟩
theorem Fz.ext {H : Hp} {w w' : World} (h : Fz H w) (k : Ext w w') : Fz H w' := h.same fun _ _ hb => k.block _ (h.lt hb) (fun e => e)
theorem Fz.cell {H : Hp} {w : World} (h : Fz H w) {b : Nat} {c : Array Value} (hb : H b = some c) (i : Nat) : w.cell? ⟨b, i, none⟩ = c[i]? := by
  obtain ⟨t, fr, h⟩ := h b c hb
  exact cell_of_row w b i c t fr h
/-- A resource: what is told of some blocks. -/
abbrev Res := List Bk → Prop
def Hl : List Res → List Bk → Prop
  | [], B => B = []
  | r :: L, B => ∃ B1 B2, B = B1 ++ B2 ∧ r B1 ∧ Hl L B2
theorem Hl.perm {L L' : List Res} (hp : L.Perm L') : ∀ {B : List Bk}, Hl L B → ∃ B', B.Perm B' ∧ Hl L' B' := by
  induction hp with
  | nil => exact fun h => ⟨_, .refl _, h⟩
  | cons r _ ih =>
    rintro B ⟨B1, B2, rfl, h1, h2⟩
    obtain ⟨B', hb, h3⟩ := ih h2
    exact ⟨B1 ++ B', hb.append_left B1, B1, B', rfl, h1, h3⟩
  | swap r s L =>
    rintro B ⟨B1, B2, rfl, h1, B3, B4, rfl, h2, h3⟩
    refine ⟨B3 ++ (B1 ++ B4), ?_, B3, B1 ++ B4, rfl, h2, B1, B4, rfl, h1, h3⟩
    rw [← List.append_assoc, ← List.append_assoc]
    exact List.perm_append_comm.append_right B4
  | trans _ _ ih1 ih2 =>
    intro B h
    obtain ⟨B1, p1, h1⟩ := ih1 h
    obtain ⟨B2, p2, h2⟩ := ih2 h1
    exact ⟨B2, p1.trans p2, h2⟩
theorem Hl.app {L L' : List Res} : ∀ {B : List Bk}, Hl (L ++ L') B ↔ ∃ B1 B2, B = B1 ++ B2 ∧ Hl L B1 ∧ Hl L' B2 := by
  induction L with
  | nil => exact fun {B} => ⟨fun h => ⟨[], B, rfl, rfl, h⟩, fun ⟨B1, B2, e, h1, h2⟩ => by cases h1; subst e; exact h2⟩
  | cons r L ih =>
    intro B
    constructor
    · rintro ⟨B1, B2, rfl, h1, h2⟩
      obtain ⟨B3, B4, rfl, h3, h4⟩ := ih.1 h2
      exact ⟨B1 ++ B3, B4, by simp, ⟨B1, B3, rfl, h1, h3⟩, h4⟩
    · rintro ⟨B1, B2, rfl, ⟨B3, B4, rfl, h1, h2⟩, h3⟩
      exact ⟨B3, B4 ++ B2, by simp, h1, ih.2 ⟨B4, B2, rfl, h2, h3⟩⟩
/-- The call owns L, all of it new since w0; H is frozen; nothing else has turned. -/
structure Mem (H : Hp) (w0 : World) (L : List Res) (w : World) : Prop where
  own : ∃ B, Hl L B ∧ St w0 B w ∧ ∀ b ∈ B, b.nw = true ∧ H b.g = none
  fz : Fz H w
section
variable {H H' : Hp} {w0 w w' : World} {L L' R : List Res} {r : Res}
theorem Mem.start (h : Fz H w) : Mem H w [] w := ⟨⟨[], rfl, St.nil w, fun _ h => by cases h⟩, h⟩
theorem Mem.ext (h : Mem H w0 L w) : Ext w0 w := by
  obtain ⟨B, _, hs, hb⟩ := h.own
  exact hs.only.mono fun k _ ⟨b, hm, hn, _⟩ => by rw [(hb b hm).1] at hn; cases hn
theorem Mem.perm (h : Mem H w0 L w) (hp : L.Perm L') : Mem H w0 L' w := by
  obtain ⟨B, hl, hs, hb⟩ := h.own
  obtain ⟨B', hp', hl'⟩ := hl.perm hp
  exact ⟨⟨B', hl', hs.perm hp', fun b hm => hb b (hp'.mem_iff.2 hm)⟩, h.fz⟩
theorem Mem.drawn (h : Mem H w0 L w) (hd : Drawn w w') : Mem H w0 L w' := by
  obtain ⟨B, hl, hs, hb⟩ := h.own
  exact ⟨⟨B, hl, hs.drawn hd, hb⟩, h.fz.ext hd.ext⟩
theorem St.dropAll : ∀ {B : List Bk} {C : List Bk}, St w0 (B ++ C) w → (∀ b ∈ B, b.nw = true) → St w0 C w
  | [], _, h, _ => h
  | b :: B, C, h, hb => by
    have hn := hb b (List.mem_cons_self ..)
    obtain ⟨g, t, cs, n⟩ := b
    simp only at hn
    subst hn
    exact St.dropAll (B := B) (C := C) (St.drop h) fun x hx => hb x (List.mem_cons_of_mem _ hx)
theorem Mem.drop (h : Mem H w0 (r :: L) w) : Mem H w0 L w := by
  obtain ⟨B, ⟨B1, B2, rfl, _, h2⟩, hs, hb⟩ := h.own
  exact ⟨⟨B2, h2, hs.dropAll fun b hm => (hb b (List.mem_append.2 (.inl hm))).1, fun b hm => hb b (List.mem_append.2 (.inr hm))⟩, h.fz⟩
theorem Mem.dropN (h : Mem H w0 (L' ++ L) w) : Mem H w0 L w := by
  induction L' with
  | nil => exact h
  | cons r L' ih => exact ih h.drop
theorem Mem.nil (h : Mem H w0 L w) : Mem H w0 [] w := Mem.dropN (L := []) (L' := L) (by simpa using h)
theorem Mem.st (h : Mem H w0 L w) : St w0 [] w := by
  obtain ⟨B, hl, hs, _⟩ := h.nil.own
  cases hl
  exact hs
/-- One resource read otherwise. -/
theorem Mem.imp (h : Mem H w0 (r :: L) w) (hr : ∀ B, r B → Hl R B) : Mem H w0 (R ++ L) w := by
  obtain ⟨B, ⟨B1, B2, rfl, h1, h2⟩, hs, hb⟩ := h.own
  exact ⟨⟨B1 ++ B2, Hl.app.2 ⟨B1, B2, rfl, hr _ h1, h2⟩, hs, hb⟩, h.fz⟩
/-- Some resources read as one. -/
theorem Mem.fold (h : Mem H w0 (R ++ L) w) (hr : ∀ B, Hl R B → r B) : Mem H w0 (r :: L) w := by
  obtain ⟨B, hl, hs, hb⟩ := h.own
  obtain ⟨B1, B2, rfl, h1, h2⟩ := Hl.app.1 hl
  exact ⟨⟨B1 ++ B2, ⟨B1, B2, rfl, hr _ h1, h2⟩, hs, hb⟩, h.fz⟩
/-- What a callee did that only makes memory. -/
theorem Mem.call (h : Mem H w0 L w) (hc : Mem H' w [] w') (hn : ∀ b, b < w.heap.size → H b = none → H' b = none) : Mem H' w0 L w' := by
  obtain ⟨B, hl, hs, hb⟩ := h.own
  refine ⟨⟨B, hl, hs.call0 hc.st, fun b hm => ⟨(hb b hm).1, hn _ (hs.own b hm).lt (hb b hm).2⟩⟩, hc.fz⟩
theorem Mem.call0 (h : Mem H w0 L w) (hc : St w [] w') : Mem H w0 L w' := by
  obtain ⟨B, hl, hs, hb⟩ := h.own
  exact ⟨⟨B, hl, hs.call0 hc, hb⟩, h.fz.ext (hc.only.mono fun _ _ ⟨_, hm, _⟩ => by cases hm)⟩
end
/-- A block known by its fields. -/
def fb (g : Nat) (t : TypeId) (fs : List Fd) : Res := fun B => FOk fs ∧ B = [⟨g, t, fl fs, true⟩]
/-- A slice of the call's own, from the head of its block; or nil. -/
def rw_ (e sz : Nat) (A : Option Addr) (n cap : Nat) (xs : List Value) : Res := fun B => xs.length = n * sz ∧ (∀ u ∈ xs, u.oneCell' = true) ∧
  ((A = none ∧ n = 0 ∧ cap = 0 ∧ B = []) ∨ ∃ g sp, A = some ⟨g, 0, none⟩ ∧ B = [⟨g, e, xs ++ sp, true⟩] ∧ (xs ++ sp).length = cap * sz ∧ n ≤ cap ∧ cap ≤ maxLen)
/-- Where the block g stands in the list; put: another resource in its place. -/
class AtB (L : List Res) (g : Nat) (t : outParam TypeId) (fs : outParam (List Fd)) (put : outParam (Res → List Res)) : Prop where
  perm : ∃ R, L.Perm (fb g t fs :: R) ∧ ∀ r, (put r).Perm (r :: R)
instance (L : List Res) (g t : Nat) (fs : List Fd) : AtB (fb g t fs :: L) g t fs (fun r => r :: L) := ⟨⟨L, .refl _, fun _ => .refl _⟩⟩
instance (priority := 900) (L : List Res) (g t : Nat) (fs : List Fd) (put : Res → List Res) (x : Res) [h : AtB L g t fs put] : AtB (x :: L) g t fs (fun r => x :: put r) := ⟨by
  obtain ⟨R, h1, h2⟩ := h.perm
  exact ⟨x :: R, (h1.cons x).trans (.swap ..), fun r => ((h2 r).cons x).trans (.swap ..)⟩⟩
/-- The same of a resource that is named whole. -/
class AtX (L : List Res) (r : Res) (R : outParam (List Res)) : Prop where
  perm : L.Perm (r :: R)
instance (L : List Res) (r : Res) : AtX (r :: L) r L := ⟨.refl _⟩
instance (priority := 900) (L R : List Res) (r x : Res) [h : AtX L r R] : AtX (x :: L) r (x :: R) := ⟨(h.perm.cons x).trans (.swap ..)⟩
class Same (L L' : List Res) : Prop where
  perm : L.Perm L'
instance (L : List Res) : Same L L := ⟨.refl _⟩
instance (priority := 900) (L R L' : List Res) (r : Res) [h : AtX L r R] [k : Same R L'] : Same L (r :: L') := ⟨h.perm.trans (k.perm.cons r)⟩
section
variable {H H' : Hp} {w0 w w' : World} {L L' R : List Res} {r : Res} {g : Nat} {t : TypeId} {fs : List Fd} {put : Res → List Res}
theorem Mem.same (h : Mem H w0 L w) [k : Same L L'] : Mem H w0 L' w := h.perm k.perm
theorem Mem.at_ (h : Mem H w0 L w) (r : Res) {R : List Res} [k : AtX L r R] : Mem H w0 (r :: R) w := h.perm k.perm
theorem Mem.blf (h : Mem H w0 L w) (k : AtB L g t fs put) : Blf w g t (fl fs) ∧ FOk fs := by
  obtain ⟨R, h1, _⟩ := k.perm
  obtain ⟨B, ⟨B1, B2, rfl, ⟨hf, rfl⟩, h2⟩, hs, hb⟩ := (h.perm h1).own
  exact ⟨hs.own _ (List.mem_append.2 (.inl (List.mem_singleton.2 rfl))), hf⟩
theorem Mem.setRow {fs' : List Fd} (h : Mem H w0 L w) (k : AtB L g t fs put) (hf : FOk fs') (hl : (fl fs').length = (fl fs).length) : Mem H w0 (put (fb g t fs')) (w.setRow g (fl fs').toArray) := by
  obtain ⟨R, h1, h2⟩ := k.perm
  have h3 := h.perm h1
  obtain ⟨B, ⟨B1, B2, rfl, ⟨_, rfl⟩, h4⟩, hs, hb⟩ := h3.own
  have hs : St w0 (⟨g, t, fl fs, true⟩ :: B2) w := hs
  have hg := hb ⟨g, t, fl fs, true⟩ (by simp)
  refine Mem.perm (L := fb g t fs' :: R) ⟨⟨⟨g, t, fl fs', true⟩ :: B2, ⟨[⟨g, t, fl fs', true⟩], B2, rfl, ⟨hf, rfl⟩, h4⟩, hs.setRow hl, fun b hm => ?_⟩, ?_⟩ (h2 _).symm
  · rcases List.mem_cons.1 hm with rfl | hm
    · exact ⟨rfl, hg.2⟩
    · exact hb b (List.mem_append.2 (.inr hm))
  · exact h.fz.same fun b c hb' => setRow_other w g b _ (by
      rintro rfl
      have := hg.2
      simp only [hb'] at this
      cases this)
theorem Mem.alloc (h : Mem H w0 L w) (t : TypeId) {fs : List Fd} (hf : FOk fs) : Mem H w0 (fb w.heap.size t fs :: L) (w.alloc (.cells (fl fs).toArray t)) := by
  obtain ⟨B, hl, hs, hb⟩ := h.own
  refine ⟨⟨⟨w.heap.size, t, fl fs, true⟩ :: B, ⟨[⟨w.heap.size, t, fl fs, true⟩], B, rfl, ⟨hf, rfl⟩, hl⟩, hs.alloc t (fl fs), fun b hm => ?_⟩, h.fz.ext ((Only.refl _ w).alloc _)⟩
  rcases List.mem_cons.1 hm with rfl | hm
  · refine ⟨rfl, ?_⟩
    cases hh : H w.heap.size with
    | none => rfl
    | some c => have := h.fz.lt hh; omega
  · exact hb b hm
end
end Go.Proofs.Ytopcnkejobomaaa
