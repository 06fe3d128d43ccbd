/- Structs and slices that are built, fields of values, rows that grow, slices that are frozen. No program is named here. -/
import Derived.Test.YtopcnkejobomaaaMst
namespace Go.Proofs.Ytopcnkejobomaaa
open Go.RowKit

theorem zip_lay (off : Nat) : ∀ (vs : List Value) (j : Nat) (cs : List Value), off + j + vs.length ≤ cs.length → (vs.zipIdx j).foldl (fun (a : Array Value) (p : Value × Nat) => a.setIfInBounds (off + p.2) p.1) cs.toArray = (lay cs vs (off + j)).toArray
  | [], j, cs, _ => by simp [lay]
  | v :: vs, j, cs, h => by
    simp only [List.zipIdx_cons, List.foldl_cons, List.setIfInBounds_toArray]
    rw [zip_lay off vs (j + 1) (cs.set (off + j) v) (by simp at h ⊢; omega), ← Nat.add_assoc, lay_cons cs v vs (off + j) (by simp at h; omega)]
theorem fill_lay (v : Value) (off : Nat) (cs : List Value) (h : off + v.cells.size ≤ cs.length) : v.cells.zipIdx.foldl (fun cs (c, j) => cs.setIfInBounds (off + j) c) cs.toArray = (lay cs v.cells.toList off).toArray := by
  have := zip_lay off v.cells.toList 0 cs (by simpa using h)
  rw [Nat.add_zero] at this
  rw [← this, ← Array.foldl_toList]
  congr 1
  simp
section
variable {P : Program} {H H' : Hp} {w0 w w' : World} {L : List Res} {g i j : Nat} {t t' : TypeId} {fs gs fs' : List Fd} {put : Res → List Res} {q : Bool} {n : Nat} {v : Value} {K : Value → World → Prop} {X : List PanicEntry → World → Prop} {Kq : Value → Prop}
/-- Where a part of a struct or an array lies. -/
def plc (P : Program) (t i : Nat) : Option (Nat × Nat) :=
  match P.underlying t with
  | some (.struct fs) => (fs[i]?).bind fun f => (P.info? f.type).map fun x => (f.offset, x.size)
  | some (.array _ e) => (P.info? e).map fun x => (i * x.size, x.size)
  | _ => none
class PlC (P : Program) (t i : Nat) (off sz : outParam Nat) : Prop where
  ok : plc P t i = some (off, sz)
/-- Parts laid over fields, by their places. -/
class Fill (P : Program) (t : TypeId) (fs : List Fd) (ps : List (Nat × Value)) (fs' : outParam (List Fd)) : Prop where
  ok : FOk fs → FOk fs' ∧ ∀ place : Nat → Option (Nat × Nat), (∀ i p, plc P t i = some p → place i = some p) → Instr.fill place (fl fs).toArray ps = some (fl fs').toArray
instance (fs : List Fd) : Fill P t fs [] fs := ⟨fun h => ⟨h, fun _ _ => rfl⟩⟩
instance (fs fs' fs'' gs : List Fd) (ps : List (Nat × Value)) (i off sz : Nat) (v : Value) [p : PlC P t i off sz] [f : Vf v sz gs] [u : Put fs off gs fs'] [r : Fill P t fs' ps fs''] : Fill P t fs ((i, v) :: ps) fs'' := ⟨fun h => by
  obtain ⟨e, hn, hg⟩ := f.ok
  obtain ⟨h1, h2, h3⟩ := u.cells h hg
  obtain ⟨h4, h5⟩ := r.ok h1
  refine ⟨h4, fun place hp => ?_⟩
  have e2 : v.cells.size = sz := by rw [← Array.length_toList, e, hg.len, hn]
  have e3 : off + v.cells.size ≤ (fl fs).length := by rw [← Array.length_toList, e]; exact h3
  have h6 := h5 place hp
  unfold Instr.fill
  rw [hp i _ p.ok]
  simp only
  rw [if_neg (by simp; omega), fill_lay v off (fl fs) e3, e, h2]
  exact h6⟩
theorem plc_struct {fds : Array Field} {i : Nat} {p : Nat × Nat} (hu : P.underlying t = some (.struct fds)) (h : plc P t i = some p) {l : Array (Nat × Nat)} (hl : ∀ (i : Nat) (f : Field) (x : TypeInfo), fds[i]? = some f → P.info? f.type = some x → l[i]? = some (f.offset, x.size)) : l[i]? = some p := by
  unfold plc at h
  simp only [hu] at h
  cases hf : fds[i]? with
  | none => simp [hf] at h
  | some f =>
    cases hx : P.info? f.type with
    | none => simp [hf, hx] at h
    | some x =>
      simp [hf, hx] at h
      rw [← h]
      exact hl i f x hf hx
/-- A type whose parts all have sizes. -/
def blt (P : Program) (t : TypeId) : Bool :=
  match P.underlying t with
  | some (.struct fs) => fs.all fun f => (P.info? f.type).isSome
  | some (.array _ e) => (P.info? e).isSome
  | _ => false
class BltC (P : Program) (t : TypeId) : Prop where
  ok : blt P t = true
theorem run_places (fds : List Field) (w : World) (h : fds.all (fun f => (P.info? f.type).isSome) = true) : (fds.mapM fun f => (do pure (f.offset, ← sizeOf f.type) : Sem (Nat × Nat))).run P w = .ok (fds.map fun f => (f.offset, P.cellsOf f.type)) w := by
  induction fds with
  | nil => rfl
  | cons f fds ih =>
    simp only [List.all_cons, Bool.and_eq_true] at h
    obtain ⟨x, hx⟩ := Option.isSome_iff_exists.1 h.1
    have hs : (sizeOf f.type).run P w = .ok x.size w := run_size (by simp [hx]) w
    simp only [List.mapM_cons, Sem.run_bind, hs, Sem.run_pure, Result.andThen_ok, ih h.2, List.map_cons]
    simp [Program.cellsOf, hx]
theorem p_build [z : ZerF P t fs] [b : BltC P t] {ps : List (Nat × Value)} [f : Fill P t fs ps fs'] : Pur P (o_build t ps) (.agg (fl fs').toArray) := fun w => by
  obtain ⟨hz, hf⟩ := z.ok
  obtain ⟨h1, h2⟩ := f.ok hf
  have hb := b.ok
  unfold zer at hz
  cases hi : P.info? t with
  | none => simp [hi] at hz
  | some x =>
    cases hzz : x.zero with
    | none => simp [hi, hzz] at hz
    | some z =>
      simp [hi, hzz] at hz
      have hz' : z.cells = (fl fs).toArray := by rw [← hz]
      have h0 : (zeroValue t).run P w = .ok z w := by simp [zeroValue, typeInfo, hi, hzz]
      unfold blt at hb
      cases hu : P.underlying t with
      | none => simp [hu] at hb
      | some d =>
        simp only [hu] at hb
        simp only [o_build, sv, Instr.build, Sem.run_bind, h0, Result.andThen_ok, run_underlying hu, hz']
        cases d
        case struct fds =>
          obtain ⟨fds⟩ := fds
          have hp := run_places (P := P) fds w (by simpa using hb)
          have hpl : (Array.mapM (fun f => (do pure (f.offset, ← sizeOf f.type) : Sem (Nat × Nat))) (Array.mk fds)).run P w = .ok (fds.map fun f => (f.offset, P.cellsOf f.type)).toArray w := by
            rw [List.mapM_toArray]
            simp only [Sem.run_map, hp]
            rfl
          have h3 := h2 (fun i => ((fds.map fun f => (f.offset, P.cellsOf f.type)).toArray)[i]?) (fun i p h => plc_struct hu h fun i f x hf hx => by
            have hf' : fds[i]? = some f := by simpa using hf
            simp [hf', Program.cellsOf, hx])
          simp only [Sem.run_bind] at hpl ⊢
          rw [hpl]
          simp only [Result.andThen_ok]
          rw [h3]
          rfl
        case array m e =>
          obtain ⟨y, hy⟩ := Option.isSome_iff_exists.1 hb
          have hs : (sizeOf e).run P w = .ok y.size w := run_size (by simp [hy]) w
          have h3 := h2 (fun i => some (i * y.size, y.size)) (fun i p h => by
            unfold plc at h
            simpa [hu, hy] using h)
          simp only [Sem.run_bind, hs, Result.andThen_ok]
          rw [h3]
          rfl
        all_goals (cases hb; done)
instance [z : ZerF P t fs] [b : BltC P t] {ps : List (Nat × Value)} [f : Fill P t fs ps fs'] : StepC P (o_build t ps) True (.agg (fl fs').toArray) := ⟨fun _ => p_build⟩
/-- A field of a struct: where it lies, its form. -/
def fdc (P : Program) (t i : Nat) : Option (Nat × Nat × Bool) :=
  match P.underlying t with
  | some (.struct fs) => (fs[i]?).bind fun f => (shp P f.type).map fun x => (f.offset, x.2, x.1)
  | _ => none
class FdC (P : Program) (t i : Nat) (off n : outParam Nat) (q : outParam Bool) : Prop where
  ok : fdc P t i = some (off, n, q)
theorem p_field {off n : Nat} (c : FdC P t i off n q) (s : Sub fs off n gs) (f : Fv q gs v) (hf : FOk fs) : Pur P (o_field t (.agg (fl fs).toArray) i) v := fun w => by
  have hc := c.ok
  obtain ⟨h1, h2, h3⟩ := s.cells hf
  unfold fdc at hc
  cases hu : P.underlying t with
  | none => simp [hu] at hc
  | some d =>
    cases d <;> simp only [hu] at hc <;> try (cases hc; done)
    rename_i fds
    cases hfd : fds[i]? with
    | none => simp [hfd] at hc
    | some fd =>
      cases hsh : shp P fd.type with
      | none => simp [hfd, hsh] at hc
      | some x =>
        obtain ⟨q', n'⟩ := x
        simp [hfd, hsh] at hc
        obtain ⟨rfl, rfl, rfl⟩ := hc
        obtain ⟨ha, hs⟩ := shp_agg (w := w) hsh
        have hsz : (sizeOf fd.type).run P w = .ok n' w := run_size hs w
        simp only [o_field, sv, Instr.field, Sem.run_bind, run_underlying hu, Result.andThen_ok, hfd, asAgg, Sem.run_pure, part, ha]
        rcases f.ok with ⟨rfl, rfl⟩ | ⟨rfl, he⟩
        · have e : List.take n' (List.drop fd.offset (fl fs)) = fl gs := by
            refine List.ext_getElem? fun k => ?_
            rw [List.getElem?_take]
            split
            · rename_i hk
              obtain ⟨u, hu'⟩ : ∃ u, (fl gs)[k]? = some u := ⟨_, List.getElem?_eq_getElem (by omega)⟩
              rw [hu', List.getElem?_drop]
              exact h3 k u hu'
            · rw [List.getElem?_eq_none (by omega)]
          simp [hsz, e]
        · have := h3 0 v (by rw [he]; rfl)
          simp only [Nat.add_zero] at this
          simp [this]
instance {off n : Nat} [c : FdC P t i off n q] [s : Sub fs off n gs] [f : Fv q gs v] [hf : FOk fs] : StepC P (o_field t (.agg (fl fs).toArray) i) True v := ⟨fun _ => p_field c s f hf⟩
end
end Go.Proofs.Ytopcnkejobomaaa
