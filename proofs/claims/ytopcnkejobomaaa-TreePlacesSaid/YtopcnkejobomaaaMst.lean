/- Steps over memory as resources. No program is named here. -/
import Derived.Test.YtopcnkejobomaaaEq
namespace Go.Proofs.Ytopcnkejobomaaa
open Go.RowKit

section
variable {P : Program} {H H' : Hp} {w0 w w' : World} {L : List Res} {g i j : Nat} {t t' : TypeId} {fs gs fs' : List Fd} {put : Res → List Res} {q : Bool} {n : Nat} {v : Value} {K : Value → World → Prop} {X : List PanicEntry → World → Prop} {Kq : Value → Prop}
theorem pw_fields (hs : shp P t = some (q, n)) (hf : FOk gs) (hn : fsz gs = n) (hv : Fv q gs v) {b o : Nat} (hc : ∀ k u, (fl gs)[k]? = some u → w.cell? ⟨b, o + k, none⟩ = some u) : PurW P w (o_load t (.pointer (some ⟨b, o, none⟩))) v := by
  rcases hv.ok with ⟨rfl, rfl⟩ | ⟨rfl, he⟩
  · exact pw_loadN hs (by rw [hf.len, hn]) hc
  · have h1 : n = 1 := by rw [← hn, ← hf.len, he]; rfl
    subst h1
    refine pw_load1 hs ?_
    have := hc 0 v (by rw [he]; rfl)
    simpa using this
theorem Mem.field (h : Mem H w0 L w) (k : AtB L g t' fs put) (s : Sub fs i n gs) : FOk gs ∧ fsz gs = n ∧ ∀ k u, (fl gs)[k]? = some u → w.cell? ⟨g, i + k, none⟩ = some u := by
  obtain ⟨hb, hf⟩ := h.blf k
  obtain ⟨h1, h2, h3⟩ := s.cells hf
  refine ⟨h1, by rw [← h1.len]; exact h2, fun k u hu => by rw [hb.cell]; exact h3 k u hu⟩
/-- A load out of a block of one's own. -/
theorem mm_ld (h : Mem H w0 L w) [c : ShpC P t q n] [k : AtB L g t' fs put] [s : Sub fs i n gs] [f : Fv q gs v] (hk : K v w) : mop P (o_load t (.pointer (some ⟨g, i, none⟩))) w K X := by
  obtain ⟨h1, h2, h3⟩ := h.field k s
  exact mop_purW (pw_fields c.ok h1 h2 f h3) hk
theorem dm_ld (h : Mem H w0 L w) [c : ShpC P t q n] [k : AtB L g t' fs put] [s : Sub fs i n gs] [f : Fv q gs v] (hk : Kq v) : dq P w (o_load t (.pointer (some ⟨g, i, none⟩))) Kq := by
  obtain ⟨h1, h2, h3⟩ := h.field k s
  exact dq_pur (fun _ hw => pw_fields c.ok h1 h2 f fun k u hu => hw.cell (h3 k u hu)) hk
theorem rm_ld (h : Mem H w0 L w) [c : ShpC P t q n] [k : AtB L g t' fs put] [s : Sub fs i n gs] [f : Fv q gs v] (hk : Kq v) : rcell P t (.pointer (some ⟨g, i, none⟩)) w Kq := by
  obtain ⟨h1, h2, h3⟩ := h.field k s
  exact rcell_load (pw_fields c.ok h1 h2 f h3) ⟨_, rfl⟩ hk
theorem run_mst (h : Mem H w0 L w) (c : ShpC P t q n) (k : AtB L g t' fs put) (f : Vf v n gs) (p : Put fs i gs fs') : ∃ w', (o_store t (.pointer (some ⟨g, i, none⟩)) v).run P w = .ok .skip w' ∧ Mem H w0 (put (fb g t' fs')) w' := by
  obtain ⟨hb, hf⟩ := h.blf k
  obtain ⟨e, hn, hg⟩ := f.ok
  obtain ⟨h1, h2, h3⟩ := p.cells hf hg
  have hl : (fl fs').length = (fl fs).length := by rw [← h2]; exact lay_length _ _ _ h3
  have hst := run_storeCells_blf (P := P) i (fl gs) 0 (fl fs) w hb (by omega) hg.one
  refine ⟨_, ?_, h.setRow k h1 hl⟩
  simp only [Nat.add_zero, h2] at hst
  have e2 : v.cells.size = n := by rw [← Array.length_toList, e, hg.len, hn]
  simp [o_store, su, Instr.storeAt, Instr.sureAddr, storeVar, run_size (shp_agg (w := w) c.ok).2, e, hst, e2]
/-- A store into a block of one's own. -/
theorem mm_st (h : Mem H w0 L w) [c : ShpC P t q n] [k : AtB L g t' fs put] [f : Vf v n gs] [p : Put fs i gs fs'] (hk : ∀ w', Mem H w0 (put (fb g t' fs')) w' → K undef w') : mop P (o_store t (.pointer (some ⟨g, i, none⟩)) v) w K X := by
  obtain ⟨w', h1, h2⟩ := run_mst h c k f p
  exact mop_skip h1 (hk w' h2)
theorem dm_st (h : Mem H w0 L w) [c : ShpC P t q n] [k : AtB L g t' fs put] [f : Vf v n gs] [p : Put fs i gs fs'] (hk : ∀ w', Mem H w0 (put (fb g t' fs')) w' → K undef w') : df P w (o_store t (.pointer (some ⟨g, i, none⟩)) v) false K :=
  df_mop fun w1 hd => mm_st (h.drawn hd) fun w' h' => ⟨(fun e => by cases e), hk w' h'⟩
theorem mm_box (h : Mem H w0 L w) [_c : ShpC P t q n] [f : Vf v n fs] (hk : ∀ g w', Mem H w0 (fb g t fs :: L) w' → K (.pointer (some ⟨g, 0, none⟩)) w') : mop P (o_box t v) w K X := by
  obtain ⟨e, _, hf⟩ := f.ok
  have := h.alloc t hf
  refine mop_run (w' := w.alloc (.cells (fl fs).toArray t)) (u := .pointer (some ⟨w.heap.size, 0, none⟩)) ?_ (hk _ _ this)
  simp [o_box, sv, Instr.box, newVar, newRow, go_sem, ← e]
/-- The zero value's fields. -/
class ZerF (P : Program) (t : TypeId) (fs : outParam (List Fd)) : Prop where
  ok : zer P t = some (fl fs) ∧ FOk fs
theorem mm_new (h : Mem H w0 L w) [z : ZerF P t fs] (hk : ∀ g w', Mem H w0 (fb g t fs :: L) w' → K (.pointer (some ⟨g, 0, none⟩)) w') : mop P (o_alloc t) w K X := by
  obtain ⟨hz, hf⟩ := z.ok
  refine mop_run ?_ (hk _ _ (h.alloc t hf))
  unfold zer at hz
  cases hi : P.info? t with
  | none => simp [hi] at hz
  | some i =>
    cases hzz : i.zero with
    | none => simp [hi, hzz] at hz
    | some z =>
      simp [hi, hzz] at hz
      simp [o_alloc, sv, Instr.alloc, zeroValue, typeInfo, hi, hzz, newVar, newRow, go_sem, ← hz]
theorem dm_box {e : Bool} (h : Mem H w0 L w) [_c : ShpC P t q n] [f : Vf v n fs] (hk : ∀ g w', Mem H w0 (fb g t fs :: L) w' → K (.pointer (some ⟨g, 0, none⟩)) w') : df P w (o_box t v) e K := by
  obtain ⟨e, _, hf⟩ := f.ok
  refine df_mop fun w1 hd => ?_
  have := (h.drawn hd).alloc t hf
  refine mop_run (w' := w1.alloc (.cells (fl fs).toArray t)) (u := .pointer (some ⟨w1.heap.size, 0, none⟩)) ?_ ⟨fun _ => hd.ext.trans ((Only.refl _ w1).alloc _), hk _ _ this⟩
  simp [o_box, sv, Instr.box, newVar, newRow, go_sem, ← e]
theorem dm_new {e : Bool} (h : Mem H w0 L w) [z : ZerF P t fs] (hk : ∀ g w', Mem H w0 (fb g t fs :: L) w' → K (.pointer (some ⟨g, 0, none⟩)) w') : df P w (o_alloc t) e K := by
  obtain ⟨hz, hf⟩ := z.ok
  refine df_mop fun w1 hd => ?_
  refine mop_run ?_ ⟨fun _ => hd.ext.trans ((Only.refl _ w1).alloc _), hk _ _ ((h.drawn hd).alloc t hf)⟩
  unfold zer at hz
  cases hi : P.info? t with
  | none => simp [hi] at hz
  | some i =>
    cases hzz : i.zero with
    | none => simp [hi, hzz] at hz
    | some z =>
      simp [hi, hzz] at hz
      simp [o_alloc, sv, Instr.alloc, zeroValue, typeInfo, hi, hzz, newVar, newRow, go_sem, ← hz]
theorem mm_end (h : Mem H w0 L w) {K : World → Prop} (hk : ∀ w', Mem H w0 L w' → K w') : dend w K := dend_intro fun w' hd => hk w' (h.drawn hd)
/-! ### Rows -/
/-- Cells of elements. -/
def fls (ps : List (List Fd)) : List Value := (ps.map fl).flatten
theorem fls_nil : fls [] = [] := rfl
theorem fls_cons (p : List Fd) (ps : List (List Fd)) : fls (p :: ps) = fl p ++ fls ps := rfl
theorem fls_app (a b : List (List Fd)) : fls (a ++ b) = fls a ++ fls b := by simp [fls]
/-- Elements of sz cells each, none an aggregate. -/
structure Els (sz : Nat) (ps : List (List Fd)) : Prop where
  ok : ∀ p ∈ ps, FOk p ∧ fsz p = sz
theorem Els.nil (sz : Nat) : Els sz [] := ⟨fun _ h => by cases h⟩
theorem Els.cons {sz : Nat} {p : List Fd} {ps : List (List Fd)} (h : FOk p) (h' : fsz p = sz) (k : Els sz ps) : Els sz (p :: ps) := ⟨fun x hx => by
  cases hx with
  | head => exact ⟨h, h'⟩
  | tail _ hx => exact k.ok x hx⟩
theorem Els.app {sz : Nat} {a b : List (List Fd)} (h : Els sz a) (k : Els sz b) : Els sz (a ++ b) := ⟨fun p hp => (List.mem_append.1 hp).elim (h.ok p) (k.ok p)⟩
theorem Els.len {sz : Nat} {ps : List (List Fd)} (h : Els sz ps) : (fls ps).length = ps.length * sz := by
  have h := h.ok
  induction ps with
  | nil => simp [fls]
  | cons p ps ih =>
    rw [fls_cons, List.length_append, (h p (List.mem_cons_self ..)).1.len, (h p (List.mem_cons_self ..)).2, ih ⟨fun x hx => h x (List.mem_cons_of_mem _ hx)⟩ fun x hx => h x (List.mem_cons_of_mem _ hx)]
    simp [Nat.add_mul]; omega
theorem Els.one {sz : Nat} {ps : List (List Fd)} (h : Els sz ps) : ∀ u ∈ fls ps, u.oneCell' = true := by
  intro u hu
  simp only [fls, List.mem_flatten, List.mem_map] at hu
  obtain ⟨_, ⟨p, hp, rfl⟩, hu⟩ := hu
  exact (h.ok p hp).1.one u hu
theorem Els.take {sz : Nat} {ps : List (List Fd)} (h : Els sz ps) (k : Nat) : Els sz (ps.take k) := ⟨fun p hp => h.ok p (List.mem_of_mem_take hp)⟩
theorem Els.drop {sz : Nat} {ps : List (List Fd)} (h : Els sz ps) (k : Nat) : Els sz (ps.drop k) := ⟨fun p hp => h.ok p (List.mem_of_mem_drop hp)⟩
theorem Els.map {α : Type} {sz : Nat} {f : α → List Fd} (xs : List α) (h : ∀ x, FOk (f x) ∧ fsz (f x) = sz) : Els sz (xs.map f) := ⟨fun p hp => by
  obtain ⟨x, _, rfl⟩ := List.mem_map.1 hp
  exact h x⟩
/-- The cells of an element. -/
theorem Els.at_ {sz : Nat} : ∀ {ps : List (List Fd)}, Els sz ps → ∀ {i : Nat} {p : List Fd}, ps[i]? = some p → ∀ k u, (fl p)[k]? = some u → (fls ps)[i * sz + k]? = some u
  | [], _, i, p, hp, _, _, _ => by simp at hp
  | x :: ps, h, 0, p, hp, k, u, hu => by
    simp only [List.getElem?_cons_zero, Option.some.injEq] at hp
    subst hp
    rw [fls_cons, Nat.zero_mul, Nat.zero_add, List.getElem?_append_left (List.getElem?_eq_some_iff.1 hu).1]
    exact hu
  | x :: ps, h, i + 1, p, hp, k, u, hu => by
    have hx := h.ok x (List.mem_cons_self ..)
    have ih := Els.at_ (ps := ps) ⟨fun y hy => h.ok y (List.mem_cons_of_mem _ hy)⟩ (i := i) (p := p) (by simpa using hp) k u hu
    rw [fls_cons, List.getElem?_append_right (by rw [hx.1.len, hx.2, Nat.succ_mul]; omega), hx.1.len, hx.2]
    rw [show (i + 1) * sz + k - sz = i * sz + k by rw [Nat.succ_mul]; omega]
    exact ih
/-- A slice of the call's own. -/
def rowR (e sz : Nat) (A : Option Addr) (n cap : Nat) (ps : List (List Fd)) : Res := fun B => Els sz ps ∧ ps.length = n ∧
  ((A = none ∧ n = 0 ∧ cap = 0 ∧ B = []) ∨ ∃ g sp, A = some ⟨g, 0, none⟩ ∧ B = [⟨g, e, fls ps ++ sp, true⟩] ∧ (fls ps ++ sp).length = cap * sz ∧ n ≤ cap ∧ cap ≤ maxLen)
/-- Where a row stands in the list. -/
class AtR (L : List Res) (A : Option Addr) (n cap : Nat) (e sz : outParam Nat) (ps : outParam (List (List Fd))) (R : outParam (List Res)) : Prop where
  perm : L.Perm (rowR e sz A n cap ps :: R)
instance (L : List Res) (A : Option Addr) (n cap e sz : Nat) (ps : List (List Fd)) : AtR (rowR e sz A n cap ps :: L) A n cap e sz ps L := ⟨.refl _⟩
instance (priority := 900) (L R : List Res) (A : Option Addr) (n cap e sz : Nat) (ps : List (List Fd)) (x : Res) [h : AtR L A n cap e sz ps R] : AtR (x :: L) A n cap e sz ps (x :: R) := ⟨(h.perm.cons x).trans (.swap ..)⟩
/-- A row by its block. -/
class AtG (L : List Res) (g : Nat) (e sz n cap : outParam Nat) (ps : outParam (List (List Fd))) (put : outParam (Res → List Res)) : Prop where
  perm : ∃ R, L.Perm (rowR e sz (some ⟨g, 0, none⟩) n cap ps :: R) ∧ ∀ r, (put r).Perm (r :: R)
instance (L : List Res) (g n cap e sz : Nat) (ps : List (List Fd)) : AtG (rowR e sz (some ⟨g, 0, none⟩) n cap ps :: L) g e sz n cap ps (fun r => r :: L) := ⟨⟨L, .refl _, fun _ => .refl _⟩⟩
instance (priority := 900) (L : List Res) (g n cap e sz : Nat) (ps : List (List Fd)) (put : Res → List Res) (x : Res) [h : AtG L g e sz n cap ps put] : AtG (x :: L) g e sz n cap ps (fun r => x :: put r) := ⟨by
  obtain ⟨R, h1, h2⟩ := h.perm
  exact ⟨x :: R, (h1.cons x).trans (.swap ..), fun r => ((h2 r).cons x).trans (.swap ..)⟩⟩
variable {e sz cap : Nat} {ps : List (List Fd)} {A : Option Addr} {R : List Res}
theorem Mem.row0 (h : Mem H w0 L w) (e sz : Nat) : Mem H w0 (rowR e sz none 0 0 [] :: L) w := by
  obtain ⟨B, hl, hs, hb⟩ := h.own
  exact ⟨⟨B, ⟨[], B, rfl, ⟨Els.nil sz, rfl, .inl ⟨rfl, rfl, rfl, rfl⟩⟩, hl⟩, hs, hb⟩, h.fz⟩
theorem Mem.rowLen (h : Mem H w0 L w) (k : AtR L A n cap e sz ps R) : ps.length = n ∧ n ≤ cap ∧ cap ≤ maxLen ∧ Els sz ps := by
  obtain ⟨B, ⟨B1, B2, rfl, ⟨h1, h2, h3⟩, _⟩, _⟩ := (h.perm k.perm).own
  rcases h3 with ⟨_, rfl, rfl, _⟩ | ⟨g, sp, _, _, _, h4, h5⟩
  · exact ⟨h2, by simp, by simp, h1⟩
  · exact ⟨h2, h4, h5, h1⟩
theorem Mem.rowAt (h : Mem H w0 L w) (k : AtR L A n cap e sz ps R) (hn : 0 < n) : ∃ g, A = some ⟨g, 0, none⟩ := by
  obtain ⟨B, ⟨B1, B2, rfl, ⟨_, _, h3⟩, _⟩, _⟩ := (h.perm k.perm).own
  rcases h3 with ⟨_, rfl, _⟩ | ⟨g, sp, hA, _⟩
  · omega
  · exact ⟨g, hA⟩
theorem Mem.rowCells (h : Mem H w0 L w) (k : AtG L g e sz n cap ps put) : Els sz ps ∧ ps.length = n ∧ ∀ j u, (fls ps)[j]? = some u → w.cell? ⟨g, j, none⟩ = some u := by
  obtain ⟨R, h1, _⟩ := k.perm
  obtain ⟨B, ⟨B1, B2, rfl, ⟨h2, h3, h4⟩, _⟩, hs, _⟩ := (h.perm h1).own
  rcases h4 with ⟨hA, _⟩ | ⟨g', sp, hA, rfl, h5, _⟩
  · cases hA
  · cases hA
    refine ⟨h2, h3, fun j u hu => ?_⟩
    have := hs.own ⟨g, e, fls ps ++ sp, true⟩ (by simp)
    rw [this.cell]
    simp only
    rw [List.getElem?_append_left (List.getElem?_eq_some_iff.1 hu).1]
    exact hu
theorem mm_ix (h : Mem H w0 L w) [k : AtR L A n cap e sz ps R] {tt : TypeId} {kk : IntKind} {ii : Int} (ht : P.underlying tt = some (.slice (P.elem tt))) (hs : (P.info? (P.elem tt)).map (·.size) = some sz) (h0 : 0 ≤ ii) (h1 : ii < n) (hk : ∀ g, A = some ⟨g, 0, none⟩ → K (.pointer (some ⟨g, 0 + ii.toNat * sz, none⟩)) w) :
    mop P (o_indexAddr tt (.slice A n cap) (.int kk ii)) w K X := by
  obtain ⟨g, rfl⟩ := h.rowAt k (by omega)
  exact mop_pur (p_indexAddr_slice tt g 0 n cap kk ii sz ht hs h0 h1) (hk g rfl)
end
end Go.Proofs.Ytopcnkejobomaaa
