/- Rows of one's own: loads, growth, freezing; slices that are frozen; calls. No program is named here. -/
import Derived.Test.YtopcnkejobomaaaMbd
namespace Go.Proofs.Ytopcnkejobomaaa
open Go.RowKit

section
variable {P : Program} {H H' : Hp} {w0 w w' : World} {L R R' : List Res} {g i j : Nat} {t t' : TypeId} {fs gs fs' : List Fd} {put : Res → List Res} {q : Bool} {n m cap cap' e e' sz by_ : Nat} {v : Value} {K : Value → World → Prop} {X : List PanicEntry → World → Prop} {Kq : Value → Prop} {A A' : Option Addr} {ps qs : List (List Fd)}
/-- What is frozen has grown, by nothing that there was in w0. -/
structure Le (w0 : World) (H H' : Hp) : Prop where
  le : H.le H'
  new : ∀ b, b < w0.heap.size → H b = none → H' b = none
theorem Le.refl (w0 : World) (H : Hp) : Le w0 H H := ⟨Hp.le.refl H, fun _ _ h => h⟩
theorem Le.trans {a b c : Hp} (h : Le w0 a b) (k : Le w0 b c) : Le w0 a c := ⟨h.le.trans k.le, fun x hx e => k.new x hx (h.new x hx e)⟩
theorem Le.old (h : Le w H H') (hs : w0.heap.size ≤ w.heap.size) : Le w0 H H' := ⟨h.le, fun b hb e => h.new b (Nat.lt_of_lt_of_le hb hs) e⟩
/-- A frozen slice. -/
structure Sl (H : Hp) (sz : Nat) (A : Option Addr) (ps : List (List Fd)) : Prop where
  els : Els sz ps
  at_ : ps = [] ∨ ∃ b o c, A = some ⟨b, o, none⟩ ∧ H b = some c ∧ ∀ j u, (fls ps)[j]? = some u → c[o + j]? = some u
theorem Sl.mono (h : Sl H sz A ps) (k : H.le H') : Sl H' sz A ps := ⟨h.els, h.at_.imp id fun ⟨b, o, c, h1, h2, h3⟩ => ⟨b, o, c, h1, k b c h2, h3⟩⟩
theorem Sl.nil (H : Hp) (sz : Nat) (A : Option Addr) : Sl H sz A [] := ⟨Els.nil sz, .inl rfl⟩
theorem Sl.some_ (h : Sl H sz A ps) (hn : 0 < ps.length) : ∃ b o, A = some ⟨b, o, none⟩ := by
  rcases h.at_ with rfl | ⟨b, o, _, hA, _⟩
  · simp at hn
  · exact ⟨b, o, hA⟩
theorem Sl.cell {b o : Nat} (h : Sl H sz (some ⟨b, o, none⟩) ps) (hf : Fz H w) {j : Nat} {u : Value} (hu : (fls ps)[j]? = some u) : w.cell? ⟨b, o + j, none⟩ = some u := by
  rcases h.at_ with rfl | ⟨b', o', c, hA, hH, hc⟩
  · simp [fls] at hu
  · cases hA
    rw [hf.cell hH]
    exact hc j u hu
theorem Sl.src {tx : TypeId} (h : Sl H sz A ps) (hf : Fz H w) (hk : P.underlying tx = some (.slice e')) (c : Nat) : Src P sz tx (.slice A ps.length c) ps.length (fls ps) w := by
  rcases h.at_ with rfl | ⟨b, o, c', rfl, hH, hc⟩
  · cases A with
    | none => exact Src.ofNil w hk c
    | some a => exact Src.ofSlice w hk a 0 c [] (by simp) (fun j u hu => by simp at hu) (fun u hu => by cases hu)
  · refine Src.ofSlice w hk ⟨b, o, none⟩ ps.length c (fls ps) h.els.len (fun j u hu => ?_) h.els.one
    rw [Addr.add_lit]
    exact Sl.cell h hf hu
/-! Loads of elements -/
theorem pw_elem {b o k off : Nat} (els : Els sz ps) (hp : ps[k]? = some fs) (c : ShpC P t q n) (s : Sub fs off n gs) (f : Fv q gs v) (hc : ∀ j u, (fls ps)[j]? = some u → w.cell? ⟨b, o + j, none⟩ = some u) : PurW P w (o_load t (.pointer (some ⟨b, o + k * sz + off, none⟩))) v := by
  have hf := (els.ok fs (List.mem_of_getElem? hp)).1
  obtain ⟨h1, h2, h3⟩ := s.cells hf
  refine pw_fields c.ok h1 (by rw [← h1.len]; exact h2) f fun j u hu => ?_
  have := hc _ _ (els.at_ hp _ _ (h3 j u hu))
  rwa [show o + (k * sz + (off + j)) = o + k * sz + off + j by omega] at this
theorem mm_ldr {k off : Nat} (h : Mem H w0 L w) [c : ShpC P t q n] [a : AtG L g e sz m cap ps put] (hp : ps[k]? = some fs) [s : Sub fs off n gs] [f : Fv q gs v] (hk : K v w) : mop P (o_load t (.pointer (some ⟨g, 0 + k * sz + off, none⟩))) w K X := by
  obtain ⟨h1, h2, h3⟩ := h.rowCells a
  exact mop_purW (pw_elem h1 hp c s f (fun j u hu => by rw [Nat.zero_add]; exact h3 j u hu)) hk
theorem mm_ldr0 {k : Nat} (h : Mem H w0 L w) [c : ShpC P t q n] [a : AtG L g e sz m cap ps put] (hp : ps[k]? = some fs) [s : Sub fs 0 n gs] [f : Fv q gs v] (hk : K v w) : mop P (o_load t (.pointer (some ⟨g, 0 + k * sz, none⟩))) w K X := mm_ldr (off := 0) h hp hk
theorem dm_ldr {k off : Nat} (h : Mem H w0 L w) [c : ShpC P t q n] [a : AtG L g e sz m cap ps put] (hp : ps[k]? = some fs) [s : Sub fs off n gs] [f : Fv q gs v] (hk : Kq v) : dq P w (o_load t (.pointer (some ⟨g, 0 + k * sz + off, none⟩))) Kq := by
  obtain ⟨h1, h2, h3⟩ := h.rowCells a
  exact dq_pur (fun w' hw => pw_elem h1 hp c s f (fun j u hu => by rw [Nat.zero_add]; exact hw.cell (h3 j u hu))) hk
theorem dm_ldr0 {k : Nat} (h : Mem H w0 L w) [c : ShpC P t q n] [a : AtG L g e sz m cap ps put] (hp : ps[k]? = some fs) [s : Sub fs 0 n gs] [f : Fv q gs v] (hk : Kq v) : dq P w (o_load t (.pointer (some ⟨g, 0 + k * sz, none⟩))) Kq := dm_ldr (off := 0) h hp hk
theorem mm_lds {b o k off : Nat} (h : Mem H w0 L w) (a : Sl H sz (some ⟨b, o, none⟩) ps) [c : ShpC P t q n] (hp : ps[k]? = some fs) [s : Sub fs off n gs] [f : Fv q gs v] (hk : K v w) : mop P (o_load t (.pointer (some ⟨b, o + k * sz + off, none⟩))) w K X :=
  mop_purW (pw_elem a.els hp c s f (fun _ _ hu => a.cell h.fz hu)) hk
theorem mm_lds0 {b o k : Nat} (h : Mem H w0 L w) (a : Sl H sz (some ⟨b, o, none⟩) ps) [c : ShpC P t q n] (hp : ps[k]? = some fs) [s : Sub fs 0 n gs] [f : Fv q gs v] (hk : K v w) : mop P (o_load t (.pointer (some ⟨b, o + k * sz, none⟩))) w K X := mm_lds (off := 0) h a hp hk
theorem dm_lds {b o k off : Nat} (h : Mem H w0 L w) (a : Sl H sz (some ⟨b, o, none⟩) ps) [c : ShpC P t q n] (hp : ps[k]? = some fs) [s : Sub fs off n gs] [f : Fv q gs v] (hk : Kq v) : dq P w (o_load t (.pointer (some ⟨b, o + k * sz + off, none⟩))) Kq :=
  dq_pur (fun _ hw => pw_elem a.els hp c s f (fun _ _ hu => hw.cell (a.cell h.fz hu))) hk
theorem dm_lds0 {b o k : Nat} (h : Mem H w0 L w) (a : Sl H sz (some ⟨b, o, none⟩) ps) [c : ShpC P t q n] (hp : ps[k]? = some fs) [s : Sub fs 0 n gs] [f : Fv q gs v] (hk : Kq v) : dq P w (o_load t (.pointer (some ⟨b, o + k * sz, none⟩))) Kq := dm_lds (off := 0) h a hp hk
/-- The place of an element. -/
class SliS (P : Program) (t : TypeId) (sz : outParam Nat) : Prop where
  ok : P.underlying t = some (.slice (P.elem t)) ∧ (P.info? (P.elem t)).map (·.size) = some sz
theorem mm_ixr {ii : Int} {kk : IntKind} (h : Mem H w0 L w) [c : SliS P t sz] [k : AtR L A n cap e sz ps R] (hi : 0 ≤ ii ∧ ii < n) (hk : ∀ g, A = some ⟨g, 0, none⟩ → K (.pointer (some ⟨g, 0 + ii.toNat * sz, none⟩)) w) : mop P (o_indexAddr t (.slice A n cap) (.int kk ii)) w K X := by
  obtain ⟨g, rfl⟩ := h.rowAt k (by omega)
  exact mop_pur (p_indexAddr_slice t g 0 n cap kk ii sz c.ok.1 c.ok.2 hi.1 hi.2) (hk g rfl)
theorem dp_ixr {ii : Int} {kk : IntKind} (h : Mem H w0 L w) [c : SliS P t sz] [k : AtR L A n cap e sz ps R] (hi : 0 ≤ ii ∧ ii < n) (hk : ∀ g, A = some ⟨g, 0, none⟩ → Kq (.pointer (some ⟨g, 0 + ii.toNat * sz, none⟩))) : dp P (o_indexAddr t (.slice A n cap) (.int kk ii)) Kq := by
  obtain ⟨g, rfl⟩ := h.rowAt k (by omega)
  exact dp_pur (p_indexAddr_slice t g 0 n cap kk ii sz c.ok.1 c.ok.2 hi.1 hi.2) (hk g rfl)
theorem mm_ixs {ii : Int} {kk : IntKind} (a : Sl H sz A ps) [c : SliS P t sz] (hi : 0 ≤ ii ∧ ii < ps.length) (hn : n = ps.length) (hk : ∀ b o, A = some ⟨b, o, none⟩ → K (.pointer (some ⟨b, o + ii.toNat * sz, none⟩)) w) : mop P (o_indexAddr t (.slice A n cap) (.int kk ii)) w K X := by
  subst hn
  obtain ⟨b, o, rfl⟩ := a.some_ (by omega)
  exact mop_pur (p_indexAddr_slice t b o _ cap kk ii sz c.ok.1 c.ok.2 hi.1 hi.2) (hk b o rfl)
theorem dp_ixs {ii : Int} {kk : IntKind} (a : Sl H sz A ps) [c : SliS P t sz] (hi : 0 ≤ ii ∧ ii < ps.length) (hn : n = ps.length) (hk : ∀ b o, A = some ⟨b, o, none⟩ → Kq (.pointer (some ⟨b, o + ii.toNat * sz, none⟩))) : dp P (o_indexAddr t (.slice A n cap) (.int kk ii)) Kq := by
  subst hn
  obtain ⟨b, o, rfl⟩ := a.some_ (by omega)
  exact dp_pur (p_indexAddr_slice t b o _ cap kk ii sz c.ok.1 c.ok.2 hi.1 hi.2) (hk b o rfl)
/-! Growth -/
/-- A row among the rest, as RowSt has it; and back. -/
theorem Mem.open_ (h : Mem H w0 L w) (k : AtR L A n cap e sz ps R) : Els sz ps ∧ ps.length = n ∧ ∃ B, Hl R B ∧ (∀ b ∈ B, b.nw = true ∧ H b.g = none) ∧ RowSt w0 e sz B A n cap (fls ps) w ∧ ∀ g, A = some ⟨g, 0, none⟩ → H g = none := by
  obtain ⟨B, ⟨B1, B2, rfl, ⟨h1, h2, h3⟩, h4⟩, hs, hb⟩ := (h.perm k.perm).own
  refine ⟨h1, h2, B2, h4, fun b hm => hb b (List.mem_append.2 (.inr hm)), ⟨by rw [h1.len, h2], ?_⟩, ?_⟩
  · rcases h3 with ⟨rfl, rfl, rfl, rfl⟩ | ⟨g, sp, rfl, rfl, h5⟩
    · exact .inl ⟨rfl, rfl, rfl, hs⟩
    · exact .inr ⟨g, sp, rfl, hs, h5⟩
  · rintro g rfl
    rcases h3 with ⟨hA, _⟩ | ⟨g', sp, hA, rfl, _⟩
    · cases hA
    · cases hA
      exact (hb ⟨g, e, fls ps ++ sp, true⟩ (by simp)).2
theorem Mem.shut (hf : Fz H w) (h1 : Els sz ps) (h2 : ps.length = n) {B : List Bk} (hl : Hl R B) (hb : ∀ b ∈ B, b.nw = true ∧ H b.g = none) (hr : RowSt w0 e sz B A n cap (fls ps) w) (hA : ∀ g, A = some ⟨g, 0, none⟩ → H g = none) : Mem H w0 (rowR e sz A n cap ps :: R) w := by
  rcases hr.2 with ⟨rfl, rfl, rfl, hs⟩ | ⟨g, sp, rfl, hs, h5⟩
  · exact ⟨⟨B, ⟨[], B, rfl, ⟨h1, h2, .inl ⟨rfl, rfl, rfl, rfl⟩⟩, hl⟩, hs, hb⟩, hf⟩
  · refine ⟨⟨⟨g, e, fls ps ++ sp, true⟩ :: B, ⟨[⟨g, e, fls ps ++ sp, true⟩], B, rfl, ⟨h1, h2, .inr ⟨g, sp, rfl, rfl, h5⟩⟩, hl⟩, hs, fun b hm => ?_⟩, hf⟩
    rcases List.mem_cons.1 hm with rfl | hm
    · exact ⟨rfl, hA g rfl⟩
    · exact hb b hm
theorem Mem.src {tx : TypeId} (h : Mem H w0 L w) (k : AtR L A n cap e sz ps R) (hk : P.underlying tx = some (.slice e')) (c : Nat) : Src P sz tx (.slice A n c) n (fls ps) w := by
  obtain ⟨B, ⟨B1, B2, rfl, ⟨h1, h2, h3⟩, _⟩, hs, _⟩ := (h.perm k.perm).own
  subst h2
  rcases h3 with ⟨rfl, hn, _, _⟩ | ⟨g, sp, rfl, rfl, _⟩
  · have : ps = [] := List.eq_nil_of_length_eq_zero hn
    subst this
    exact Src.ofNil w hk c
  · refine Src.ofSlice w hk ⟨g, 0, none⟩ ps.length c (fls ps) h1.len (fun j u hu => ?_) h1.one
    rw [Addr.add_lit, Nat.zero_add]
    have := hs.own ⟨g, e, fls ps ++ sp, true⟩ (by simp)
    rw [this.cell]
    simp only
    rw [List.getElem?_append_left (List.getElem?_eq_some_iff.1 hu).1]
    exact hu
theorem mm_appX {tx ty : TypeId} {ks : List Bool} {x : Value} (h : Mem H w0 L w) [c : SliC P t e sz by_] (k : AtR L A n cap e sz ps R) (hs : Src P sz tx x m (fls qs) w) (hq : Els sz qs) (hm : qs.length = m) (h63 : n + m ≤ maxLen) (hbytes : (n + m) * by_ ≤ 140737488355328)
    (hk : ∀ A' cap' w', Only (fun g => A = some ⟨g, 0, none⟩) w w' → Mem H w0 (rowR e sz A' (n + m) cap' (ps ++ qs) :: R) w' → K (.slice A' (n + m) cap') w') : mop P (o_builtin .append #[t, tx] ty ks [.slice A n cap, x]) w K X := by
  obtain ⟨h1, h2, B, hl, hb, hr, hA⟩ := h.open_ k
  obtain ⟨ht, i, z, hi, hz, h4, h5, h6⟩ := sli_spec c.ok
  obtain ⟨A', cap', w', hrun, hrow', ho, hA'⟩ := run_append_st2 t tx ty e ks i z sz by_ ht hi hz h4 h5 h6 hr hs h63 hbytes
  refine mop_run hrun (hk A' cap' w' ho ?_)
  rw [← fls_app] at hrow'
  refine Mem.shut (h.fz.same fun b c hc => ho.block b (h.fz.lt hc) fun e => ?_) (h1.app hq) (by simp [h2, hm]) hl hb hrow' fun g hg => ?_
  · have := hA b e
    rw [hc] at this
    cases this
  · rcases hA' with rfl | ⟨g', hg', hle⟩
    · exact hA g hg
    · rw [hg] at hg'
      cases hg'
      cases hh : H g with
      | none => rfl
      | some c => have := h.fz.lt hh; omega
theorem mm_app {tx ty : TypeId} {ks : List Bool} {x : Value} (h : Mem H w0 L w) [c : SliC P t e sz by_] (k : AtR L A n cap e sz ps R) (hs : Src P sz tx x m (fls qs) w) (hq : Els sz qs) (hm : qs.length = m) (h63 : n + m ≤ maxLen) (hbytes : (n + m) * by_ ≤ 140737488355328)
    (hk : ∀ A' cap' w', Mem H w0 (rowR e sz A' (n + m) cap' (ps ++ qs) :: R) w' → K (.slice A' (n + m) cap') w') : mop P (o_builtin .append #[t, tx] ty ks [.slice A n cap, x]) w K X :=
  mm_appX h k hs hq hm h63 hbytes fun A' cap' w' _ => hk A' cap' w'
/-- A literal's elements. -/
class Lits (P : Program) (sz i : Nat) (ps : List (Nat × Value)) (qs : outParam (List (List Fd))) : Prop where
  ok : Els sz qs ∧ ps.length = qs.length ∧ ∀ cs : List Value, (i + ps.length) * sz = cs.length → Instr.fill (fun i => some (i * sz, sz)) cs.toArray ps = some (cs.take (i * sz) ++ fls qs).toArray
instance (i : Nat) : Lits P sz i [] [] := ⟨Els.nil sz, rfl, fun cs h => by
  simp at h
  simp only [Instr.fill, fls, List.map_nil, List.flatten_nil, List.append_nil]
  rw [List.take_of_length_le (by omega)]⟩
instance (i : Nat) (v : Value) (ps : List (Nat × Value)) (p : List Fd) (qs : List (List Fd)) [f : Vf v sz p] [k : Lits P sz (i + 1) ps qs] : Lits P sz i ((i, v) :: ps) (p :: qs) := ⟨by
  obtain ⟨e, hn, hf⟩ := f.ok
  obtain ⟨h1, h2, h3⟩ := k.ok
  refine ⟨Els.cons hf hn h1, by simp [h2], fun cs hc => ?_⟩
  have e2 : v.cells.size = sz := by rw [← Array.length_toList, e, hf.len, hn]
  have hc2 : i * sz + sz + ps.length * sz = cs.length := by rw [← hc, List.length_cons, Nat.add_mul, Nat.add_mul]; omega
  have hl : (lay cs (fl p) (i * sz)).length = cs.length := lay_length _ _ _ (by rw [hf.len, hn]; omega)
  unfold Instr.fill
  simp only
  rw [if_neg (by simp [e2]; omega), fill_lay v (i * sz) cs (by omega), e, h3 _ (by rw [hl, ← hc, List.length_cons]; congr 1; omega)]
  congr 2
  rw [fls_cons, ← List.append_assoc]
  congr 1
  rw [show (i + 1) * sz = i * sz + sz by rw [Nat.add_mul]; omega]
  unfold lay
  rw [List.take_append_of_le_length (by simp [hf.len, hn]; omega)]
  exact List.take_of_length_le (by simp [hf.len, hn]; omega)⟩
/-- A slice's elements: that their zero value's cells are so many. -/
theorem run_buildSlice {ps : List (Nat × Value)} (c : SliC P t e sz by_) (k : Lits P sz 0 ps qs) (hsz : ps.length * sz ≤ 16777216) : (o_buildSlice t ps.length ps).run P w = .ok (.value (.slice (some ⟨w.heap.size, 0, none⟩) ps.length ps.length)) (w.alloc (.cells (fls qs).toArray e)) := by
  obtain ⟨ht, i, z, hi, hz, h4, h5, h6⟩ := sli_spec c.ok
  obtain ⟨h1, h2, h3⟩ := k.ok
  have hs : (sizeOf e).run P w = .ok sz w := run_size (by simp [hi, h4]) w
  have hlit : ∀ zc : Array Value, Instr.fill (fun i => some (i * sz, sz)) ((Array.range (ps.length * sz)).map (zc[· % zc.size]!)) ps = some (fls qs).toArray := fun zc => by
    have hfill := h3 ((List.range (ps.length * sz)).map (zc[· % zc.size]!)) (by simp)
    have : (Array.range (ps.length * sz)).map (zc[· % zc.size]!) = ((List.range (ps.length * sz)).map (zc[· % zc.size]!)).toArray := by
      apply Array.ext'
      simp
    rw [this, hfill]
    simp
  have hz2 : (zeroValue e).run P w = .ok z w := by simp [zeroValue, typeInfo, hi, hz]
  simp only [o_buildSlice, sv, Instr.buildSlice, Sem.run_bind, run_underlying ht, Result.andThen_ok, hs]
  rw [if_neg (by omega)]
  by_cases h0 : ps.length * sz = 0
  · simp only [h0, if_true, Sem.run_bind, Sem.run_pure, Result.andThen_ok]
    have := hlit #[]
    simp only [h0] at this
    rw [this]
    simp [newRow, go_sem]
  · simp only [h0, if_false, Sem.run_bind, Sem.run_pure, Result.andThen_ok, hz2, hlit]
    simp [newRow, go_sem]
theorem mm_bsl {ps : List (Nat × Value)} (h : Mem H w0 L w) [c : SliC P t e sz by_] [k : Lits P sz 0 ps qs] (hn : n = ps.length) (hsz : ps.length * sz ≤ 16777216 ∧ ps.length ≤ 16777216) (hk : ∀ g w', Mem H w0 (rowR e sz (some ⟨g, 0, none⟩) n n qs :: L) w' → K (.slice (some ⟨g, 0, none⟩) n n) w') : mop P (o_buildSlice t n ps) w K X := by
  subst hn
  obtain ⟨h1, h2, _⟩ := k.ok
  refine mop_run (run_buildSlice c k hsz.1) (hk _ _ ?_)
  obtain ⟨B, hl, hs, hb⟩ := h.own
  refine ⟨⟨⟨w.heap.size, e, fls qs, true⟩ :: B, ⟨[⟨w.heap.size, e, fls qs, true⟩], B, rfl, ⟨h1, h2.symm, .inr ⟨w.heap.size, [], rfl, by simp, by simp [h1.len, h2], Nat.le_refl _, ?_⟩⟩, hl⟩, hs.alloc e (fls qs), fun b hm => ?_⟩, h.fz.ext ((Only.refl _ w).alloc _)⟩
  · exact Nat.le_trans hsz.2 (by decide)
  · rcases List.mem_cons.1 hm with rfl | hm
    · refine ⟨rfl, ?_⟩
      cases hh : H w.heap.size with
      | none => rfl
      | some c => have := h.fz.lt hh; omega
    · exact hb b hm
end
end Go.Proofs.Ytopcnkejobomaaa
