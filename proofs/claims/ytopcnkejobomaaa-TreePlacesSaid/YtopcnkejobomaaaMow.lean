/- Arrays among fields by an index; calls that turn one owned thing and nothing else. No program is named here. -/
import Derived.Test.YtopcnkejobomaaaMgp
namespace Go.Proofs.Ytopcnkejobomaaa
open Go.RowKit

section
variable {P : Program} {H : Hp} {w0 w : World} {L : List Res} {g n : Nat} {t t' : TypeId} {fs : List Fd} {put : Res → List Res} {v : Value} {K : Value → World → Prop} {X : List PanicEntry → World → Prop}
theorem SubA.set {o j : Nat} {ls : List Value} {putA : List Value → List Fd} (s : SubA fs o n ls putA) (hf : FOk fs) (hj : j < n) (hv : v.oneCell' = true) : FOk (putA (ls.set j v)) ∧ lay (fl fs) [v] (o + j) = fl (putA (ls.set j v)) ∧ o + j + 1 ≤ (fl fs).length := by
  obtain ⟨a, b, rfl, rfl, h3⟩ := s.ok
  have hls : FdOk (.arr n ls) := hf.ok _ (by simp)
  have hl : ls.length = n := hls.len
  have ha := hf.left.left.len
  refine ⟨?_, ?_, ?_⟩
  · rw [h3]
    refine (hf.left.left.app ⟨fun f hm => ?_⟩).app hf.right
    rw [List.mem_singleton.1 hm]
    refine ⟨by simpa [Fd.cells, Fd.size] using hl, fun u hu => ?_⟩
    rcases List.mem_or_eq_of_mem_set hu with hu | rfl
    · exact hls.one u hu
    · exact hv
  · rw [h3]
    unfold lay
    have e1 : fl (a ++ [.arr n ls] ++ b) = fl a ++ (ls ++ fl b) := by simp [fl_append, fl, Fd.cells]
    have e2 : fl (a ++ [.arr n (ls.set j v)] ++ b) = fl a ++ (ls.set j v ++ fl b) := by simp [fl_append, fl, Fd.cells]
    rw [e1, e2, ← ha, List.take_length_add_append, List.take_append_of_le_length (by omega), List.length_singleton, Nat.add_assoc, List.drop_length_add_append, List.drop_append_of_le_length (by omega)]
    rw [List.set_eq_take_append_cons_drop, if_pos (by omega)]
    simp
  · simp [fl_append, fl, Fd.cells]
    omega
theorem run_msta {o j : Nat} {ls : List Value} {putA : List Value → List Fd} (h : Mem H w0 L w) (cc : ShpC P t false 1) (k : AtB L g t' fs put) (s : SubA fs o n ls putA) (hv : One v) (hj : j < n) : ∃ w', (o_store t (.pointer (some ⟨g, o + j, none⟩)) v).run P w = .ok .skip w' ∧ Mem H w0 (put (fb g t' (putA (ls.set j v)))) w' := by
  obtain ⟨hb, hf⟩ := h.blf k
  obtain ⟨h1, h2, h3⟩ := s.set hf hj hv.ok

  have hl : (fl (putA (ls.set j v))).length = (fl fs).length := by rw [← h2]; exact lay_length _ _ _ (by simpa using h3)
  have hst := run_storeCells_blf (P := P) (o + j) [v] 0 (fl fs) w hb (by simpa using h3) (fun u hu => by rw [List.mem_singleton.1 hu]; exact hv.ok)
  refine ⟨_, ?_, h.setRow k h1 hl⟩
  simp only [Nat.add_zero, h2] at hst
  have e : v.cells.toList = [v] := by have := hv.ok; cases v <;> simp_all [Value.cells, Value.oneCell']
  have e2 : v.cells.size = 1 := by rw [← Array.length_toList, e]; rfl
  simp [o_store, su, Instr.storeAt, Instr.sureAddr, storeVar, run_size (shp_agg (w := w) cc.ok).2, e, hst, e2]
theorem mm_sta {o j : Nat} {ls : List Value} {putA : List Value → List Fd} (h : Mem H w0 L w) [cc : ShpC P t false 1] [k : AtB L g t' fs put] [s : SubA fs o n ls putA] [hv : One v] (hj : j < n) (hk : ∀ w', Mem H w0 (put (fb g t' (putA (ls.set j v)))) w' → K undef w') : mop P (o_store t (.pointer (some ⟨g, o + j, none⟩)) v) w K X := by
  obtain ⟨w', h1, h2⟩ := run_msta h cc k s hv hj
  exact mop_skip h1 (hk w' h2)
theorem dm_sta {o j : Nat} {ls : List Value} {putA : List Value → List Fd} (h : Mem H w0 L w) [cc : ShpC P t false 1] [k : AtB L g t' fs put] [s : SubA fs o n ls putA] [hv : One v] (hj : j < n) (hk : ∀ w', Mem H w0 (put (fb g t' (putA (ls.set j v)))) w' → K undef w') : df P w (o_store t (.pointer (some ⟨g, o + j, none⟩)) v) false K :=
  df_mop fun w1 hd => mm_sta (h.drawn hd) hj fun w' h' => ⟨(fun e => by cases e), hk w' h'⟩
theorem mm_ldj {o j : Nat} {ls : List Value} {putA : List Value → List Fd} (h : Mem H w0 L w) [cc : ShpC P t false 1] [k : AtB L g t' fs put] [s : SubA fs o n ls putA] (hv : ls[j]? = some v) (hk : K v w) : mop P (o_load t (.pointer (some ⟨g, o + j, none⟩))) w K X := mm_lda h hv hk
theorem dm_ldj {o j : Nat} {ls : List Value} {putA : List Value → List Fd} {Kq : Value → Prop} (h : Mem H w0 L w) [cc : ShpC P t false 1] [k : AtB L g t' fs put] [s : SubA fs o n ls putA] (hv : ls[j]? = some v) (hk : Kq v) : dq P w (o_load t (.pointer (some ⟨g, o + j, none⟩))) Kq := dm_lda h hv hk
/-- A call that, if c holds, answers v, turns the owned r into r' and leaves all else. -/
class OwnC (P : Program) (f : Nat) (args : List Value) (r : Res) (c : outParam Prop) (r' : outParam Res) (v : outParam Value) : Prop where
  ok : c → ∀ (H : Hp) (w0 w : World) (L : List Res), Mem H w0 (r :: L) w → Calls P f args.toArray w fun en w' => en = .returned v ∧ Mem H w0 (r' :: L) w'
theorem mm_ownC {f : Nat} {a : List Value} {c : Prop} {r' : Res} (h : Mem H w0 L w) [hf : FunC P f] [k : AtB L g t fs put] [o : OwnC P f (.pointer (some ⟨g, 0, none⟩) :: a) (fb g t fs) c r' v] (hc : c) (hk : ∀ w', Mem H w0 (put r') w' → K v w') : mop P (o_call (fv f) (.pointer (some ⟨g, 0, none⟩) :: a)) w K X := by
  obtain ⟨R, h1, h2⟩ := k.perm
  exact mm_own (Q := fun u w' => u = v ∧ Mem H w0 (put r') w') ((o.ok hc H w0 w R (h.perm h1)).mono fun en w' ⟨e, hm⟩ => ⟨v, e, rfl, hm.perm (h2 r').symm⟩) (fun u w' ⟨e, hm⟩ => by subst e; exact hk w' hm)
theorem dm_ownC {f : Nat} {a : List Value} {c : Prop} {r' : Res} (h : Mem H w0 L w) [hf : FunC P f] [k : AtB L g t fs put] [o : OwnC P f (.pointer (some ⟨g, 0, none⟩) :: a) (fb g t fs) c r' v] (hc : c) (hk : ∀ w', Mem H w0 (put r') w' → K v w') : df P w (o_call (fv f) (.pointer (some ⟨g, 0, none⟩) :: a)) false K :=
  df_mop fun w1 hd => mm_ownC (h.drawn hd) hc fun w' h' => ⟨(fun e => by cases e), hk w' h'⟩
end
end Go.Proofs.Ytopcnkejobomaaa
