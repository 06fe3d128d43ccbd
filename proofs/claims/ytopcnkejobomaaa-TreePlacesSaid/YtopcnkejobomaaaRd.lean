/- Arguments that came in, read as fields: integers, texts, arrays, structs, slices of all of these. No program is named here. -/
import Derived.Test.YtopcnkejobomaaaMby
import Derived.Test.YtopcnkejobomaaaReadS
import Derived.Test.YtopcnkejobomaaaReadA
namespace Go.Proofs.Ytopcnkejobomaaa
open Go.RowKit Go.ChangeShapes Go.WideShapes Go.Deep

/-- Values of the type t, sz cells, are read as fields that rel tells of. -/
structure Rdr (P : Program) (t : TypeId) (sz : Nat) {α : Type} (rel : Hp → List Fd → α → Prop) : Prop where
  size : P.cellsOf t = sz
  read : ∀ {H : Type} (enc : TypeId × Value → H) (w : World) (base : Nat) (spare : Nat → Bool) (held : Bool) (n : Nat) (cs : List Value) (y : DataW H × List MemPlace), DataW.trod enc P w base spare held n t cs = some y → ∃ fs x, cs = fl fs ∧ FOk fs ∧ fsz fs = sz ∧ rel (Hp.of w) fs x
section
variable {P : Program} {t e : TypeId} {sz : Nat} {α β : Type} {rel : Hp → List Fd → α → Prop}
theorem Rdr.map (h : Rdr P t sz rel) {rel' : Hp → List Fd → β → Prop} (hm : ∀ H fs x, FOk fs → rel H fs x → ∃ y, rel' H fs y) : Rdr P t sz rel' :=
  ⟨h.size, fun enc w base spare held n cs y hy => by
    obtain ⟨fs, x, h1, h2, h3, h4⟩ := h.read enc w base spare held n cs y hy
    obtain ⟨z, hz⟩ := hm _ _ _ h2 h4
    exact ⟨fs, z, h1, h2, h3, hz⟩⟩
theorem rdr_int {k : IntKind} (ht : P.underlying t = some (.int k)) (hc : P.cellsOf t = 1) : Rdr P t 1 (fun _ fs (x : Int) => fs = [.one (.int k x)] ∧ (Lit.int k x).wf = true) :=
  ⟨hc, fun enc w base spare held n cs y hy => by
    obtain ⟨a, rfl, _, hw⟩ := DataW.trod_int ht hy
    exact ⟨[.one (.int k a)], a, rfl, inferInstance, rfl, rfl, hw⟩⟩
theorem rdr_bool (ht : P.underlying t = some .bool) (hc : P.cellsOf t = 1) : Rdr P t 1 (fun _ fs (x : Bool) => fs = [.one (.bool x)]) :=
  ⟨hc, fun enc w base spare held n cs y hy => by
    obtain ⟨a, rfl, _⟩ := DataW.trod_bool ht hy
    exact ⟨[.one (.bool a)], a, rfl, inferInstance, rfl, rfl⟩⟩
theorem rdr_str (ht : P.underlying t = some .string) (hc : P.cellsOf t = 1) : Rdr P t 1 (fun _ fs (x : ByteArray) => fs = [.one (.string x)] ∧ x.size ≤ maxLen) :=
  ⟨hc, fun enc w base spare held n cs y hy => by
    obtain ⟨a, rfl, _, hw⟩ := DataW.trod_string ht hy
    exact ⟨[.one (.string a)], a, rfl, inferInstance, rfl, rfl, hw⟩⟩
theorem rdr_arr {k : IntKind} {m : Nat} (ht : P.underlying t = some (.array m e)) (he : P.underlying e = some (.int k)) (hc : P.cellsOf t = m) (hce : P.cellsOf e = 1) : Rdr P t m (fun _ fs (x : List Int) => fs = [.arr m (x.map (.int k))] ∧ x.length = m ∧ ∀ z ∈ x, (Lit.int k z).wf = true) :=
  ⟨hc, fun enc w base spare held n cs y hy => by
    obtain ⟨ys, q, _, hx, hlen, hl, hcell⟩ := DataW.trod_array ht hy
    rw [hc] at hlen
    simp only [hce, Nat.mul_one] at hcell
    have hone : ∀ i (hi : i < m), ∃ a, cs[i]? = some (.int k a) ∧ (Lit.int k a).wf = true := fun i hi => by
      have h1 := hcell i hi
      rw [List.getElem?_eq_getElem (by omega)] at h1
      obtain ⟨a, ea, _, wa⟩ := DataW.trod_int he h1
      refine ⟨a, ?_, wa⟩
      have := congrArg (·[0]?) ea
      simpa using this
    let f : Value → Int := fun v => match v with | .int _ a => a | _ => 0
    have hcs : cs = (cs.map f).map (.int k) := by
      rw [List.map_map]
      refine List.ext_getElem (by simp) fun i g1 g2 => ?_
      obtain ⟨a, ha, _⟩ := hone i (by omega)
      rw [List.getElem?_eq_getElem g1] at ha
      simp only [Option.some.injEq] at ha
      simp only [List.getElem_map, ha, Function.comp, f]
    refine ⟨[.arr m ((cs.map f).map (.int k))], cs.map f, by simp only [fl, Fd.cells, List.append_nil]; exact hcs, ?_, by simp [fsz, Fd.size], rfl, by simp [hlen], ?_⟩
    · have : FdOk (.arr m ((cs.map f).map (.int k))) := ⟨by simp [Fd.cells, Fd.size, hlen], fun u hu => by
        simp only [Fd.cells, List.mem_map] at hu
        obtain ⟨_, _, rfl⟩ := hu
        rfl⟩
      infer_instance
    · intro z hz
      obtain ⟨v, hv, rfl⟩ := List.mem_map.1 hz
      obtain ⟨i, g1, rfl⟩ := List.mem_iff_getElem.1 hv
      obtain ⟨a, ha, hw⟩ := hone i (by omega)
      rw [List.getElem?_eq_getElem g1] at ha
      simp only [Option.some.injEq] at ha
      rw [ha]
      exact hw⟩
theorem rdr_h32 (ht : P.underlying t = some (.array 32 e)) (he : P.underlying e = some (.int .u8)) (hc : P.cellsOf t = 32) (hce : P.cellsOf e = 1) : Rdr P t 32 (fun _ fs (x : H32) => fs = [.arr 32 (u8s x.1)]) :=
  (rdr_arr ht he hc hce).map fun _ _ x _ ⟨h1, h2, h3⟩ => ⟨⟨x, h2, fun z hz => byte_range (h3 z hz)⟩, h1⟩
/-- Fields one behind the other, from the cell off on. -/
structure Rdf (P : Program) (fds : List Field) (off sz : Nat) {α : Type} (rel : Hp → List Fd → α → Prop) : Prop where
  read : ∀ {H : Type} (enc : TypeId × Value → H) (w : World) (base : Nat) (spare : Nat → Bool) (held : Bool) (n : Nat) (cs : List Value), cs.length = off + sz → (∀ f ∈ fds, ∃ y, DataW.trod enc P w base spare held n f.type ((cs.drop f.offset).take (P.cellsOf f.type)) = some y) → ∃ fs x, cs.drop off = fl fs ∧ FOk fs ∧ fsz fs = sz ∧ rel (Hp.of w) fs x
theorem Rdf.nil (off : Nat) : Rdf P [] off 0 (fun _ fs (_ : Unit) => fs = []) := ⟨fun enc w base spare held n cs hl _ => ⟨[], (), by rw [List.drop_eq_nil_of_le (by omega)]; rfl, inferInstance, rfl, rfl⟩⟩
theorem Rdf.cons {f : Field} {fds : List Field} {off a b s ty : Nat} {rel' : Hp → List Fd → β → Prop} (h : Rdr P ty a rel) (hty : f.type = ty) (ho : f.offset = off) (hs : s = b + a) (k : Rdf P fds (off + a) b rel') : Rdf P (f :: fds) off s (fun H fs (x : α × β) => ∃ gs hs, fs = gs ++ hs ∧ FOk gs ∧ rel H gs x.1 ∧ rel' H hs x.2) :=
  ⟨fun enc w base spare held n cs hl hf => by
    subst hs; subst hty
    obtain ⟨y, hy⟩ := hf f (List.mem_cons_self ..)
    obtain ⟨gs, x, h1, h2, h3, h4⟩ := h.read enc w base spare held n _ y hy
    obtain ⟨hs, z, k1, k2, k3, k4⟩ := k.read enc w base spare held n cs (by omega) fun g hg => hf g (List.mem_cons_of_mem _ hg)
    refine ⟨gs ++ hs, (x, z), ?_, h2.app k2, by rw [fsz_append, h3, k3]; omega, gs, hs, rfl, h2, h4, k4⟩
    rw [fl_append, ← h1, ← k1, h.size, ho, ← List.drop_drop, List.take_append_drop]⟩
theorem rdr_struct {fds : Array Field} (ht : P.underlying t = some (.struct fds)) (hc : P.cellsOf t = sz) (k : Rdf P fds.toList 0 sz rel) : Rdr P t sz rel :=
  ⟨hc, fun enc w base spare held n cs y hy => by
    obtain ⟨xs, m, _, _, hl, hlen, hf⟩ := DataW.trod_struct ht hy
    have := k.read enc w base spare held m cs (by omega) fun f hm => by
      obtain ⟨i, hi, rfl⟩ := List.mem_iff_getElem.1 hm
      have hi' : i < fds.size := by simpa using hi
      have := hf i fds[i] (by simp [hi'])
      rw [List.getElem?_eq_getElem (by omega)] at this
      simp only [Array.getElem_toList]
      exact ⟨_, this⟩
    simpa using this⟩
/-- Two lists, place by place. -/
def All2 (r : List Fd → α → Prop) : List (List Fd) → List α → Prop
  | [], [] => True
  | p :: ps, x :: xs => r p x ∧ All2 r ps xs
  | _, _ => False
theorem All2.len {r : List Fd → α → Prop} : ∀ {ps : List (List Fd)} {xs : List α}, All2 r ps xs → ps.length = xs.length
  | [], [], _ => rfl
  | _ :: _, _ :: _, h => by simp [All2.len h.2]
  | [], _ :: _, h => h.elim
  | _ :: _, [], h => h.elim
theorem All2.eq_map {f : α → List Fd} {good : α → Prop} : ∀ {ps : List (List Fd)} {xs : List α}, All2 (fun p x => p = f x ∧ good x) ps xs → ps = xs.map f ∧ ∀ x ∈ xs, good x
  | [], [], _ => ⟨rfl, fun _ h => by cases h⟩
  | p :: ps, x :: xs, h => by
    obtain ⟨⟨rfl, hg⟩, h2⟩ := h
    obtain ⟨rfl, h4⟩ := All2.eq_map h2
    exact ⟨rfl, fun y hy => by
      cases hy with
      | head => exact hg
      | tail _ hy => exact h4 y hy⟩
  | [], _ :: _, h => h.elim
  | _ :: _, [], h => h.elim
theorem rdr_slice (ht : P.underlying t = some (.slice e)) (hc : P.cellsOf t = 1) (hsz : 0 < sz) (k : Rdr P e sz rel) : Rdr P t 1 (fun H fs (xs : List α) => ∃ A cap ps, fs = [.one (.slice A xs.length cap)] ∧ xs.length ≤ maxLen ∧ Sl H sz A ps ∧ All2 (rel H) ps xs) :=
  ⟨hc, fun enc w base spare held n cs y hy => by
    rcases DataW.trod_slice ht hy with ⟨rfl, _⟩ | ⟨a, len, cap, elems, rest, m, _, rfl, _, hb, hlc, hcm, hel, hat, _⟩
    · exact ⟨[.one (.slice none 0 0)], [], rfl, inferInstance, rfl, none, 0, [], rfl, by simp, Sl.nil _ _ _, trivial⟩
    · have key : ∀ j, j ≤ len → ∃ (ps : List (List Fd)) (xs : List α), ps.length = j ∧ Els sz ps ∧ All2 (rel (Hp.of w)) ps xs ∧ ∀ i u, (fls ps)[i]? = some u → w.cell? (a.add i) = some u := by
        intro j
        induction j with
        | zero => exact fun _ => ⟨[], [], rfl, Els.nil sz, trivial, fun i u h => by simp [fls] at h⟩
        | succ j ih =>
          intro hj
          obtain ⟨ps, xs, h1, h2, h3, h4⟩ := ih (by omega)
          have := hat j (by omega)
          rw [List.getElem?_eq_getElem (by omega)] at this
          obtain ⟨cs, hcs, htr⟩ := Option.bind_eq_some_iff.1 this
          obtain ⟨_, hcl, hcat⟩ := World.cells?_some hcs
          obtain ⟨fs, x, e1, e2, e3, e4⟩ := k.read enc w base spare held m cs _ htr
          have app : ∀ {ps : List (List Fd)} {xs : List α}, All2 (rel (Hp.of w)) ps xs → All2 (rel (Hp.of w)) (ps ++ [fs]) (xs ++ [x]) := by
            intro ps
            induction ps with
            | nil => intro xs h; cases xs with
              | nil => exact ⟨e4, trivial⟩
              | cons _ _ => exact h.elim
            | cons p ps ih => intro xs h; cases xs with
              | nil => exact h.elim
              | cons y xs => exact ⟨h.1, ih h.2⟩
          refine ⟨ps ++ [fs], xs ++ [x], by simp [h1], h2.app (Els.cons e2 e3 (Els.nil sz)), app h3, fun i u hu => ?_⟩
          rw [fls_app] at hu
          rcases Nat.lt_or_ge i (fls ps).length with hlt | hge
          · rw [List.getElem?_append_left hlt] at hu
            exact h4 i u hu
          · rw [List.getElem?_append_right hge] at hu
            have hl := h2.len
            simp only [fls, List.map_cons, List.map_nil, List.flatten_cons, List.flatten_nil, List.append_nil] at hu
            have hu2 : cs[i - (ps.map fl).flatten.length]? = some u := by rw [e1]; exact hu
            obtain ⟨hj1, hj2⟩ := List.getElem?_eq_some_iff.1 hu2
            have hq := hcat (i - (ps.map fl).flatten.length) (by rw [hcl] at hj1; exact hj1)
            rw [hu2, Go.Deep.add_add, k.size] at hq
            have hl2 : (ps.map fl).flatten.length = j * sz := by rw [← h1]; exact hl
            have hge2 : j * sz ≤ i := by rw [← hl2]; exact hge
            rw [hl2, show j * sz + (i - j * sz) = i by omega] at hq
            exact hq
      obtain ⟨ps, xs, h1, h2, h3, h4⟩ := key len (Nat.le_refl _)
      have hxl : xs.length = len := by rw [← h3.len, h1]
      refine ⟨[.one (.slice (some a) len cap)], xs, rfl, inferInstance, rfl, some a, cap, ps, by rw [hxl], by rw [hxl]; omega, ⟨h2, ?_⟩, h3⟩
      rcases Nat.eq_zero_or_pos (fls ps).length with h0 | h0
      · left
        rw [h2.len] at h0
        rcases Nat.mul_eq_zero.1 h0 with h | h
        · exact List.eq_nil_of_length_eq_zero h
        · omega
      · obtain ⟨u, hu⟩ : ∃ u, (fls ps)[0]? = some u := ⟨_, List.getElem?_eq_getElem h0⟩
        have hc0 := h4 0 u hu
        obtain ⟨b, off, spot⟩ := a
        have hs : spot = none := by simpa [Addr.add] using World.cell?_spot hc0
        subst hs
        have hcell : ∃ c t' fr, w.heap[b]? = some (.cells c t' fr) := by
          rw [Addr.add_lit] at hc0
          unfold World.cell? at hc0
          split at hc0
          · rename_i c t' fr hh
            exact ⟨c, t', fr, hh⟩
          · cases hc0
        obtain ⟨c, t', fr, hh⟩ := hcell
        refine .inr ⟨b, off, c, rfl, by simp [Hp.of, hh], fun j v hv => ?_⟩
        have := h4 j v hv
        rw [Addr.add_lit, cell_of_row w b (off + j) c t' fr hh] at this
        exact this⟩
/-- The value itself, of the cells. -/
theorem arg_agg {w : World} {r : Reach} {b : Nat} {v : Value} {fs : List Fd} (hd : (match P.underlying t with
    | some (.struct _) | some (.array _ _) => true
    | _ => false) = true) (hv : Value.okWide P w r b t v) (h : v.cells.toList = fl fs) : v = .agg (fl fs).toArray := by
  unfold Value.okWide at hv
  split at hd
  · rename_i hu
    simp only [hu] at hv
    obtain ⟨cs, rfl, _⟩ := hv
    rw [← h]
    simp [Value.cells]
  · rename_i hu
    simp only [hu] at hv
    obtain ⟨cs, rfl, _⟩ := hv
    rw [← h]
    simp [Value.cells]
  · cases hd
theorem arg_one {w : World} {r : Reach} {b : Nat} {v u : Value} (hd : (match P.underlying t with
    | some .bool | some (.int _) | some .string | some (.slice _) => true
    | _ => false) = true) (hv : Value.okWide P w r b t v) (h : v.cells.toList = fl [.one u]) : v = u := by
  have key : ∀ cs, v ≠ .agg cs := by
    rintro cs rfl
    unfold Value.okWide Cell.okWide Cell.ok at hv
    split at hd
    all_goals first
      | (cases hd; done)
      | (rename_i hu; simp only [hu] at hv)
  cases v <;> first
    | (exact absurd rfl (key _))
    | (simpa [Value.cells, fl, Fd.cells] using h)
end
end Go.Proofs.Ytopcnkejobomaaa
