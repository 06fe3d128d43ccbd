/- Rows of single cells taken as they lie: copying within, zeros appended, slices.overlaps. No program is named here. -/
import Derived.Test.YtopcnkejobomaaaMfs
import Derived.Lib.AppendZerosOnto
import Derived.Lib.Overlaps
namespace Go.Proofs.Ytopcnkejobomaaa
open Go.RowKit Go.Lib

/-- A block of one's own, whatever lies in it. -/
def bk (g e : Nat) (cs : List Value) : Res := fun B => B = [⟨g, e, cs, true⟩]
class AtK (L : List Res) (g : Nat) (e : outParam Nat) (cs : outParam (List Value)) (R : outParam (List Res)) : Prop where
  perm : L.Perm (bk g e cs :: R)
instance (L : List Res) (g e : Nat) (cs : List Value) : AtK (bk g e cs :: L) g e cs L := ⟨.refl _⟩
instance (priority := 900) (L R : List Res) (g e : Nat) (cs : List Value) (x : Res) [h : AtK L g e cs R] : AtK (x :: L) g e cs (x :: R) := ⟨(h.perm.cons x).trans (.swap ..)⟩
theorem lay_left (A B Y : List Value) (o : Nat) (h : o + Y.length ≤ A.length) : lay (A ++ B) Y o = lay A Y o ++ B := by
  have := lay_in [] A B Y o h
  simpa using this
section
variable {P : Program} {H : Hp} {w0 w : World} {L R : List Res} {n cap e sz by_ g : Nat} {t : TypeId} {A : Option Addr} {ps : List (List Fd)} {cs : List Value} {X : List PanicEntry → World → Prop} {K : Value → World → Prop}
theorem Mem.raw (h : Mem H w0 L w) [k : AtA L (some ⟨g, 0, none⟩) n cap e sz ps R] : ∃ sp, (fls ps ++ sp).length = cap * sz ∧ n ≤ cap ∧ cap ≤ maxLen ∧ Els sz ps ∧ ps.length = n ∧ Mem H w0 (bk g e (fls ps ++ sp) :: R) w := by
  obtain ⟨B, ⟨B1, B2, rfl, ⟨h1, h2, h3⟩, h4⟩, hs', hb⟩ := (h.perm k.perm).own
  rcases h3 with ⟨hA, _⟩ | ⟨g', sp, hA, rfl, h5, h6, h7⟩
  · cases hA
  · cases hA
    exact ⟨sp, h5, h6, h7, h1, h2, ⟨_, ⟨_, B2, rfl, rfl, h4⟩, hs', hb⟩, h.fz⟩
theorem Mem.unraw {sp : List Value} (h : Mem H w0 (bk g e (fls ps ++ sp) :: R) w) (h1 : Els sz ps) (h2 : ps.length = n) (h5 : (fls ps ++ sp).length = cap * sz) (h6 : n ≤ cap) (h7 : cap ≤ maxLen) : Mem H w0 (rowR e sz (some ⟨g, 0, none⟩) n cap ps :: R) w := by
  obtain ⟨B, ⟨B1, B2, rfl, rfl, h4⟩, hs', hb⟩ := h.own
  exact ⟨⟨_, ⟨_, B2, rfl, ⟨h1, h2, .inr ⟨g, sp, rfl, rfl, h5, h6, h7⟩⟩, h4⟩, hs', hb⟩, h.fz⟩
theorem Mem.bkBlf (h : Mem H w0 L w) [k : AtK L g e cs R] : Blf w g e cs := by
  obtain ⟨B, ⟨B1, B2, rfl, rfl, _⟩, hs, _⟩ := (h.perm k.perm).own
  exact (hs.own ⟨g, e, cs, true⟩ (by simp)).blf
theorem Mem.setBk {cs' : List Value} (h : Mem H w0 (bk g e cs :: R) w) (hl : cs'.length = cs.length) : Mem H w0 (bk g e cs' :: R) (w.setRow g cs'.toArray) := by
  obtain ⟨B, ⟨B1, B2, rfl, rfl, h4⟩, hs, hb⟩ := h.own
  have hs' : St w0 (⟨g, e, cs, true⟩ :: B2) w := hs
  have hgg := hb ⟨g, e, cs, true⟩ (by simp)
  refine ⟨⟨_, ⟨[⟨g, e, cs', true⟩], B2, rfl, rfl, h4⟩, hs'.setRow hl, fun b hm => ?_⟩, h.fz.same fun b c hc => setRow_other w g b _ ?_⟩
  · rcases List.mem_cons.1 hm with rfl | hm
    · exact ⟨rfl, hgg.2⟩
    · exact hb b (List.mem_append.2 (.inr hm))
  · rintro rfl
    have := hgg.2
    simp only [hc] at this
    cases this
theorem Mem.allocBk (h : Mem H w0 L w) (e : TypeId) (cs : List Value) : Mem H w0 (bk w.heap.size e cs :: L) (w.alloc (.cells cs.toArray e)) := by
  obtain ⟨B, hl, hs', hb'⟩ := h.own
  refine ⟨⟨⟨w.heap.size, e, cs, true⟩ :: B, ⟨[⟨w.heap.size, e, cs, true⟩], B, rfl, rfl, hl⟩, hs'.alloc e cs, fun b hm => ?_⟩, h.fz.ext ((Only.refl _ w).alloc _)⟩
  rcases List.mem_cons.1 hm with rfl | hm
  · refine ⟨rfl, ?_⟩
    cases hh : H w.heap.size with
    | none => rfl
    | some c => have := h.fz.lt hh; omega
  · exact hb' b hm
theorem run_copy_blf {o dl dc sl sc : Nat} {a : Addr} {vs : List Value} {dT sT ty e2 : TypeId} {ks : List Bool} (hb : Blf w g e cs) (hu : P.underlying dT = some (.slice e2)) (hs : (P.info? e2).map (·.size) = some 1) (hn : vs.length = min sl dl) (hsrc : ∀ j v, vs[j]? = some v → w.cell? (a.add j) = some v) (hle : o + vs.length ≤ cs.length) (h1 : ∀ v ∈ vs, v.oneCell' = true) :
    (o_builtin .copy #[dT, sT] ty ks [.slice (some ⟨g, o, none⟩) dl dc, .slice (some a) sl sc]).run P w = .ok (.value (.int .i64 vs.length)) (w.setRow g (lay cs vs o).toArray) := by
  have hl := run_loadCells_list (P := P) w a vs hsrc
  have hst := run_storeCells_blf (P := P) o vs 0 cs w hb (by omega) h1
  rw [Nat.add_zero] at hst
  have hn' : Nat.min sl dl = vs.length := hn.symm
  cases hq : P.info? e2 with
  | none => simp [hq] at hs
  | some i =>
    have hi : i.size = 1 := by simpa [hq] using hs
    simp [o_builtin, invoke, builtin, Builtin.copy_, run_underlying hu, Builtin.lenOf, Builtin.firstCells, sizeOf, typeInfo, hq, hi, hn', hl, hst, goInt]
/-- copy(row, row) -/
theorem mm_cpk {o dl dc sl sc : Nat} {a : Addr} {vs : List Value} {dT sT ty e2 : TypeId} {ks : List Bool} (h : Mem H w0 L w) [c : SliC P dT e2 1 by_] [k : AtK L g e cs R] (hn : vs.length = min sl dl) (hsrc : ∀ j v, vs[j]? = some v → w.cell? (a.add j) = some v) (hle : o + vs.length ≤ cs.length) (h1 : ∀ v ∈ vs, v.oneCell' = true)
    (hk : ∀ w', Mem H w0 (bk g e (lay cs vs o) :: R) w' → K (.int .i64 vs.length) w') : mop P (o_builtin .copy #[dT, sT] ty ks [.slice (some ⟨g, o, none⟩) dl dc, .slice (some a) sl sc]) w K X := by
  obtain ⟨ht, i, z, hi, -, h3, -⟩ := sli_spec c.ok
  exact mop_run (run_copy_blf h.bkBlf ht (by simp [hi, h3]) hn hsrc hle h1) (hk _ ((h.perm k.perm).setBk (lay_length _ _ _ hle)))
theorem dm_cpk {o dl dc sl sc : Nat} {a : Addr} {vs : List Value} {dT sT ty e2 : TypeId} {ks : List Bool} (h : Mem H w0 L w) [c : SliC P dT e2 1 by_] [k : AtK L g e cs R] (hn : vs.length = min sl dl) (hsrc : ∀ w', Mem H w0 L w' → ∀ j v, vs[j]? = some v → w'.cell? (a.add j) = some v) (hle : o + vs.length ≤ cs.length) (h1 : ∀ v ∈ vs, v.oneCell' = true)
    (hk : ∀ w', Mem H w0 (bk g e (lay cs vs o) :: R) w' → K (.int .i64 vs.length) w') : df P w (o_builtin .copy #[dT, sT] ty ks [.slice (some ⟨g, o, none⟩) dl dc, .slice (some a) sl sc]) false K :=
  df_no h fun w' h' => mm_cpk h' hn (hsrc w' h') hle h1 hk
/-- append(row[:i], make(row, k)...), where there is no room. -/
theorem mm_apz {i k c e2 : Nat} {tn ty : TypeId} {ks : List Bool} {kn : IntKind} {z : Value} (h : Mem H w0 L w) [cc : SliC P t e2 1 by_] (htn : P.underlying tn = some (.int kn)) (hz : ((P.info? e2).bind (·.zero)) = some z) (hz1 : z.cells = #[z]) [a : AtK L g e cs R] (hi : i ≤ cs.length) (hk0 : 0 < k) (hg : c < i + k) (hb : (i + k) ≤ 9223372036854775807 ∧ (i + k) * by_ ≤ 70368744177664)
    (hk : ∀ g' cap' m w', i + k + m = cap' → cap' ≤ maxLen → Mem H w0 (bk g' e2 (cs.take i ++ List.replicate (k + m) z) :: L) w' → K (.slice (some ⟨g', 0, none⟩) (i + k) cap') w') : mop P (o_builtin .append #[t, tn] ty ks [.slice (some ⟨g, 0, none⟩) i c, .int .i64 k]) w K X := by
  obtain ⟨ht, ii, zv, hii, hzz, h3, h4, h5⟩ := sli_spec cc.ok
  obtain rfl : zv = z := by simpa [hii, hzz] using hz
  have hB := h.bkBlf (g := g)
  have hold : (Builtin.firstCells ii.size i (.slice (some ⟨g, 0, none⟩) i c)).run P w.drew = .ok (cs.take i).toArray w.drew := by
    rw [h3]
    exact run_firstCells_some w.drew 1 i ⟨g, 0, none⟩ i c (cs.take i) (by rw [List.length_take]; omega) (fun j v hj => by
      rw [Addr.add_lit, Nat.zero_add]
      show w.cell? ⟨g, j, none⟩ = some v
      rw [hB.cell]
      rw [List.getElem?_take] at hj
      split at hj
      · exact hj
      · cases hj)
  have hr1 := Lib.run_append_grow_zeros w t tn ty e2 ii zv .i64 kn ht htn hii hzz (some ⟨g, 0, none⟩) i c (cs.take i) hold k hk0 (by omega) hg (by omega) (by rw [h4]; have : k * by_ ≤ (i + k) * by_ := Nat.mul_le_mul_right _ (by omega); omega) (by rw [h4]; exact growslice_fits hg (by omega))
  have hge := grownCap_ge w (i + k) c e2
  have hle := grownCap_le_maxLen w (i + k) c e2 (by simp only [maxLen]; omega)
  obtain ⟨m, hm⟩ : ∃ m, i + k + m = grownCap w (i + k) c e2 := ⟨grownCap w (i + k) c e2 - (i + k), by omega⟩
  have hzc : ∀ q, Builtin.zeroCells zv.cells q = (List.replicate q zv).toArray := fun q => by
    rw [hz1]
    refine Array.ext (by simp [Builtin.zeroCells]) fun j h1 h2 => ?_
    simp [Builtin.zeroCells, Nat.mod_one]
  refine mop_run (u := .slice (some ⟨w.heap.size, 0, none⟩) (i + k) (grownCap w (i + k) c e2)) (w' := w.drew.alloc (.cells (cs.take i ++ List.replicate (k + m) zv).toArray e2)) ?_ (hk _ _ m _ hm hle ?_)
  · simp only [o_builtin, invoke, builtin]
    rw [Sem.run_bind, hr1, Result.andThen_ok]
    have e1 : (cs.take i).toArray ++ Builtin.zeroCells zv.cells k ++ Builtin.zeroCells zv.cells (grownCap w (i + k) c e2 - (i + k)) = (cs.take i ++ List.replicate (k + m) zv).toArray := by
      rw [hzc, hzc, ← hm, Nat.add_sub_cancel_left]
      simp
    rw [e1]
    rfl
  · exact (h.drawn ⟨1, rfl⟩).allocBk e2 _
end
end Go.Proofs.Ytopcnkejobomaaa
