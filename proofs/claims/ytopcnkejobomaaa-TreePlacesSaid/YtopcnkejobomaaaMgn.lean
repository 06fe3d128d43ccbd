/- slices.Clone of whatever elements, as its formula has it. No program is named here. -/
import Derived.Test.YtopcnkejobomaaaMse
namespace Go.Proofs.Ytopcnkejobomaaa
open Go.RowKit

/-- A resource with hidden parts. -/
def exR {α : Type} (R : α → List Res) : Res := fun B => ∃ a, Hl (R a) B
theorem Mem.unex {α : Type} {R : α → List Res} {H : Hp} {w0 w : World} {L : List Res} (h : Mem H w0 (exR R :: L) w) : ∃ a, Mem H w0 (R a ++ L) w := by
  obtain ⟨B, ⟨B1, B2, rfl, ⟨a, h1⟩, h2⟩, hs⟩ := h.own
  exact ⟨a, ⟨B1 ++ B2, Hl.app.2 ⟨B1, B2, rfl, h1, h2⟩, hs⟩, h.fz⟩
theorem Mem.toex {α : Type} {R : α → List Res} {H : Hp} {w0 w : World} {L : List Res} (a : α) (h : Mem H w0 (R a ++ L) w) : Mem H w0 (exR R :: L) w := h.fold fun _ hb => ⟨a, hb⟩
instance (priority := 500) (L L' : List Res) (x : Res) [k : SubL L L'] : SubL (x :: L) L' := ⟨by
  obtain ⟨R, h⟩ := k.ok
  exact ⟨x :: R, h.cons x⟩⟩
/-- A closure over a resource that answers f. -/
def Clo {α : Type} (P : Program) (H : Hp) (w0 : World) (r : Res) (c : Value) (enc : α → Value) (f : α → Bool) : Prop :=
  ∀ (y : α) (R : List Res) (w : World) (K : Value → World → Prop) (X : List PanicEntry → World → Prop), Mem H w0 (r :: R) w → (∀ w', Mem H w0 (r :: R) w' → K (.bool (f y)) w') → mop P (o_call c [enc y]) w K X
/-- A function value that works on nothing of one's own. -/
def CloP {α : Type} (P : Program) (c : Value) (enc : α → Value) (f : α → Value) : Prop :=
  ∀ (y : α) (H : Hp) (w0 : World) (L : List Res) (w : World) (K : Value → World → Prop) (X : List PanicEntry → World → Prop), Mem H w0 L w → (∀ w', Mem H w0 L w' → K (f y) w') → mop P (o_call c [enc y]) w K X
section
variable {P : Program} {H : Hp} {w0 w : World} {L : List Res} {n cap e sz by_ : Nat} {t : TypeId} {A : Option Addr} {ps : List (List Fd)} {X X1 X2 X3 : List PanicEntry → World → Prop} {R : Ending → World → Prop}
theorem clone_gen [cc : SliC P t e sz by_] [IsSl P t] (hs : Sl (Hp.of w) sz A ps) (hn : n = ps.length) (hM : Mem H w0 L w) (hb : n ≤ 9223372036854775807 ∧ n * by_ ≤ 140737488355328)
    (hR : ∀ A' cap' w', Ext w w' → Mem H w0 (rowR e sz A' n cap' ps :: L) w' → R (.returned (.slice A' n cap')) w') :
    mop P (o_bin .eql t true (.slice A n cap) (.slice none 0 0)) w (fun x4 w1 => mif x4 (R (.returned (.slice none 0 0)) w1) (mop P (o_buildSlice t 0 []) w1 (fun x5 w2 => mop P (o_builtin .append #[t, t] t [false, false] [x5, .slice A n cap]) w2 (fun x7 w3 => R (.returned x7) w3) X2) X1)) X := by
  refine mop_c trivial ?_
  cases A with
  | none =>
    have : ps = [] := by
      rcases hs.at_ with h | ⟨b, o, c, h, _⟩
      · exact h
      · cases h
    subst this
    subst hn
    exact mif_true (hR none 0 w (Ext.refl w) (hM.row0 e sz))
  | some a =>
    refine mif_false ?_
    have k : Lits P sz 0 [] [] := inferInstance
    have hr := run_buildSlice (P := P) (t := t) (e := e) (sz := sz) (by_ := by_) (w := w) (ps := []) (qs := []) cc k (by simp)
    refine mop_run hr ?_
    have hx : Ext w (w.alloc (.cells (fls []).toArray e)) := (Only.refl _ w).alloc _
    have hM2 : Mem H w0 (rowR e sz (some ⟨w.heap.size, 0, none⟩) 0 0 [] :: L) (w.alloc (.cells (fls []).toArray e)) := by
      obtain ⟨B, hl, hs', hb'⟩ := hM.own
      refine ⟨⟨⟨w.heap.size, e, fls [], true⟩ :: B, ⟨[⟨w.heap.size, e, fls [], true⟩], B, rfl, ⟨Els.nil sz, rfl, .inr ⟨w.heap.size, [], rfl, by simp, by simp [fls], by simp, by simp⟩⟩, hl⟩, hs'.alloc e (fls []), fun b hm => ?_⟩, hM.fz.ext hx⟩
      rcases List.mem_cons.1 hm with rfl | hm
      · refine ⟨rfl, ?_⟩
        cases hh : H w.heap.size with
        | none => rfl
        | some c => have := hM.fz.lt hh; omega
      · exact hb' b hm
    subst hn
    have hsrc : Src P sz t (.slice (some a) ps.length cap) ps.length (fls ps) (w.alloc (.cells (fls []).toArray e)) := hs.src ((Fz.of w).ext hx) cc.und cap
    simp only [List.length_nil]
    refine mm_appX (n := 0) (cap := 0) hM2 ⟨.refl _⟩ hsrc hs.els rfl (by simp only [maxLen]; omega) (by rw [Nat.zero_add]; exact hb.2) fun A' cap' w' ho hM3 => ?_
    rw [Nat.zero_add, List.nil_append] at hM3
    rw [Nat.zero_add]
    have hx2 : Ext w w' := Only.trans hx ho fun i hi hg => by cases hg; omega
    exact hR A' cap' w' hx2 hM3
/-- append in a wide region, of a row that nothing else reads in it. -/
theorem dS_appF {R1 R2 : List Res} {S : Rl} {K : Value → World → Prop} {m capx ex e' tx ty : Nat} {qs : List (List Fd)} {B : Option Addr} {ks : List Bool} (h : Mem H w0 L w) [c : SliC P t e sz by_] [k : AtR L A n cap e sz ps R1] [k' : AtR R1 B m capx ex sz qs R2] [cx : SliC P tx e' sz by_] (hb : n + m ≤ 9223372036854775807 ∧ (n + m) * by_ ≤ 140737488355328)
    (hk : ∀ A' cap' w', Mem H w0 (rowR e sz A' (n + m) cap' (ps ++ qs) :: R2) w' → K (.slice A' (n + m) cap') w') : dfS P S w (o_builtin .append #[t, tx] ty ks [.slice A n cap, .slice B m capx]) false K :=
  ⟨fun _ hd => mop_mono (mm_appo (X := fun _ _ => False) (h.drawn hd) hb hk) (fun _ _ h => ⟨(fun e => by cases e), h⟩) (fun _ _ h => h)⟩
/-- A row's element stored anew. -/
theorem Mem.setElem {R1 : List Res} {g : Nat} {k : Nat} {p : List Fd} (h : Mem H w0 (rowR e sz (some ⟨g, 0, none⟩) n cap ps :: R1) w) (hk : k < n) (hp : FOk p) (hs : fsz p = sz) : ∃ w', (storeCells ⟨g, 0 + k * sz, none⟩ (fl p) 0).run P w = .ok () w' ∧ Mem H w0 (rowR e sz (some ⟨g, 0, none⟩) n cap (ps.set k p) :: R1) w' := by
  obtain ⟨B, ⟨B1, B2, rfl, ⟨h1, h2, h3⟩, h4⟩, hs', hb⟩ := h.own
  rcases h3 with ⟨hA, _⟩ | ⟨g', sp, hA, rfl, h5, h6⟩
  · cases hA
  · cases hA
    have hs' : St w0 (⟨g, e, fls ps ++ sp, true⟩ :: B2) w := hs'
    have hle : k * sz + sz ≤ n * sz := by rw [← Nat.succ_mul]; exact Nat.mul_le_mul_right _ hk
    have hpl : (fl p).length = sz := by rw [hp.len, hs]
    have hfl : (fls ps).length = n * sz := by rw [h1.len, h2]
    have hst := run_storeCells_blf (P := P) (0 + k * sz) (fl p) 0 (fls ps ++ sp) w hs'.head (by rw [List.length_append, hfl, hpl]; omega) hp.one
    have hlay : lay (fls ps ++ sp) (fl p) (0 + k * sz + 0) = fls (ps.set k p) ++ sp := by
      have hk' : k < ps.length := by omega
      have e1 : ps = ps.take k ++ ps[k] :: ps.drop (k + 1) := by rw [List.getElem_cons_drop, List.take_append_drop]
      have ht : (fls (ps.take k)).length = k * sz := by rw [(h1.take k).len, List.length_take, Nat.min_eq_left (by omega)]
      have hx : (fl ps[k]).length = sz := by
        have := h1.ok ps[k] (List.getElem_mem _)
        rw [this.1.len, this.2]
      rw [List.set_eq_take_append_cons_drop, if_pos hk']
      conv => lhs; rw [e1]
      rw [fls_app, fls_app, fls_cons, fls_cons]
      unfold lay
      rw [Nat.zero_add, Nat.add_zero, hpl]
      rw [List.append_assoc, List.append_assoc, List.append_assoc, List.append_assoc, List.append_assoc]
      rw [List.take_left' ht]
      congr 1
      rw [show k * sz + sz = (fls (ps.take k) ++ fl ps[k]).length by rw [List.length_append, ht, hx], ← List.append_assoc (fls (ps.take k)), List.drop_left' rfl]
    refine ⟨_, hst, ?_⟩
    rw [hlay]
    have hl2 : (fls (ps.set k p) ++ sp).length = (fls ps ++ sp).length := by
      rw [← hlay]
      exact lay_length _ _ _ (by rw [List.length_append, hfl, hpl]; omega)
    have hels : Els sz (ps.set k p) := ⟨fun q hq => by
      rcases List.mem_or_eq_of_mem_set hq with hq | rfl
      · exact h1.ok q hq
      · exact ⟨hp, hs⟩⟩
    have hg := hb ⟨g, e, fls ps ++ sp, true⟩ (by simp)
    refine ⟨⟨⟨g, e, fls (ps.set k p) ++ sp, true⟩ :: B2, ⟨[⟨g, e, fls (ps.set k p) ++ sp, true⟩], B2, rfl, ⟨hels, by simpa using h2, .inr ⟨g, sp, rfl, rfl, by rw [hl2]; exact h5, h6⟩⟩, h4⟩, hs'.setRow hl2, fun b hm => ?_⟩, h.fz.same fun b c hc => setRow_other w g b _ ?_⟩
    · rcases List.mem_cons.1 hm with rfl | hm
      · exact ⟨rfl, hg.2⟩
      · exact hb b (List.mem_append.2 (.inr hm))
    · rintro rfl
      have := hg.2
      simp only [hc] at this
      cases this
theorem mm_str {R1 : List Res} {g k : Nat} {tt : TypeId} {q : Bool} {v : Value} {p : List Fd} {K : Value → World → Prop} {X : List PanicEntry → World → Prop} (h : Mem H w0 L w) [c : ShpC P tt q sz] [a : AtA L (some ⟨g, 0, none⟩) n cap e sz ps R1] [f : Vf v sz p] (hk : k < n)
    (hK : ∀ w', Mem H w0 (rowR e sz (some ⟨g, 0, none⟩) n cap (ps.set k p) :: R1) w' → K undef w') : mop P (o_store tt (.pointer (some ⟨g, 0 + k * sz, none⟩)) v) w K X := by
  obtain ⟨ev, hn, hp⟩ := f.ok
  obtain ⟨w', hr, hm⟩ := (h.perm a.perm).setElem (P := P) hk hp hn
  refine mop_skip ?_ (hK w' hm)
  have e2 : v.cells.size = sz := by rw [← Array.length_toList, ev, hp.len, hn]
  simp [o_store, su, Instr.storeAt, Instr.sureAddr, storeVar, run_size (shp_agg (w := w) c.ok).2, ev, e2]
  rw [Nat.zero_add] at hr
  simp [hr]
theorem zeroCells_one {z : Array Value} (h : ∀ u ∈ z.toList, u.oneCell' = true) (n : Nat) : ∀ u ∈ (Builtin.zeroCells z n).toList, u.oneCell' = true := by
  intro u hu
  simp only [Builtin.zeroCells, Array.toList_map, Array.toList_range, List.mem_map, List.mem_range] at hu
  obtain ⟨i, hi, rfl⟩ := hu
  have hz : 0 < z.size := by
    rcases Nat.eq_zero_or_pos z.size with h0 | h0
    · rw [h0] at hi; simp at hi
    · exact h0
  have hlt : i % z.size < z.size := Nat.mod_lt _ hz
  simp only [getElem!_pos, hlt]
  exact h _ (by simp)
/-- clear(row[k:]): the row is k elements long from now on. -/
theorem mm_clear {R1 : List Res} {g k cc ty : Nat} {ks : List Bool} {fs : List Fd} {K : Value → World → Prop} {X : List PanicEntry → World → Prop} (h : Mem H w0 L w) [sc : SliC P t e sz by_] [z : ZerF P e fs] [a : AtA L (some ⟨g, 0, none⟩) n cap e sz ps R1] (hk : k < n)
    (hK : ∀ w', Mem H w0 (rowR e sz (some ⟨g, 0, none⟩) k cap (ps.take k) :: R1) w' → K (.tuple #[]) w') : mop P (o_builtin .clear #[t] ty ks [.slice (some ⟨g, 0 + k * sz, none⟩) (n - k) cc]) w K X := by
  obtain ⟨B, ⟨B1, B2, rfl, ⟨h1, h2, h3⟩, h4⟩, hs', hb⟩ := (h.perm a.perm).own
  obtain ⟨ht, i, zv, hi, hz, h5, h6, h7⟩ := sli_spec sc.ok
  obtain ⟨hzf, hzo⟩ := z.ok
  unfold zer at hzf
  simp [hi, hz] at hzf
  rcases h3 with ⟨hA, _⟩ | ⟨g', sp, hA, rfl, h8, h9, h10⟩
  · cases hA
  · cases hA
    have hs' : St w0 (⟨g, e, fls ps ++ sp, true⟩ :: B2) w := hs'
    have hfl : (fls ps).length = n * sz := by rw [h1.len, h2]
    have hle : k * sz + (n - k) * sz = n * sz := by rw [← Nat.add_mul]; congr 1; omega
    have hzl : (Builtin.zeroCells zv.cells (n - k)).toList.length = (n - k) * sz := by rw [Array.length_toList, size_zeroCells, h7]
    have hone := zeroCells_one (z := zv.cells) (by rw [hzf]; exact hzo.one) (n - k)
    have hst := run_storeCells_blf (P := P) (0 + k * sz) (Builtin.zeroCells zv.cells (n - k)).toList 0 (fls ps ++ sp) w hs'.head (by rw [List.length_append, hfl, hzl]; omega) hone
    have hz0 : (zeroValue e).run P w = .ok zv w := by simp [zeroValue, typeInfo, hi, hz]
    have hlay : lay (fls ps ++ sp) (Builtin.zeroCells zv.cells (n - k)).toList (0 + k * sz + 0) = fls (ps.take k) ++ ((Builtin.zeroCells zv.cells (n - k)).toList ++ sp) := by
      have ht' : (fls (ps.take k)).length = k * sz := by rw [(h1.take k).len, List.length_take, Nat.min_eq_left (by omega)]
      unfold lay
      rw [Nat.zero_add, Nat.add_zero, hzl, hle, ← hfl, List.drop_left' rfl]
      conv => lhs; arg 1; arg 1; rw [← List.take_append_drop k ps, fls_app, List.append_assoc, List.take_left' ht']
      rw [List.append_assoc]
    have hl2 : (fls (ps.take k) ++ ((Builtin.zeroCells zv.cells (n - k)).toList ++ sp)).length = (fls ps ++ sp).length := by
      rw [← hlay]
      exact lay_length _ _ _ (by rw [List.length_append, hfl, hzl]; omega)
    rw [hlay] at hst
    have hg := hb ⟨g, e, fls ps ++ sp, true⟩ (by simp)
    refine mop_run (w' := w.setRow g (fls (ps.take k) ++ ((Builtin.zeroCells zv.cells (n - k)).toList ++ sp)).toArray) (u := .tuple #[]) ?_ (hK _ ?_)
    · have hne : n - k ≠ 0 := by omega
      obtain ⟨m, hm⟩ : ∃ m, n - k = m + 1 := ⟨n - k - 1, by omega⟩
      rw [hm] at hst ⊢
      rw [Nat.zero_add] at hst ⊢
      simp [o_builtin, invoke, builtin, Builtin.clear_, run_underlying ht, hz0, hst]
    · refine ⟨⟨⟨g, e, fls (ps.take k) ++ ((Builtin.zeroCells zv.cells (n - k)).toList ++ sp), true⟩ :: B2, ⟨[_], B2, rfl, ⟨h1.take k, by rw [List.length_take]; omega, .inr ⟨g, (Builtin.zeroCells zv.cells (n - k)).toList ++ sp, rfl, rfl, by rw [hl2]; exact h8, by omega, h10⟩⟩, h4⟩, hs'.setRow hl2, fun b hm => ?_⟩, h.fz.same fun b c hc => setRow_other w g b _ ?_⟩
      · rcases List.mem_cons.1 hm with rfl | hm
        · exact ⟨rfl, hg.2⟩
        · exact hb b (List.mem_append.2 (.inr hm))
      · rintro rfl
        have := hg.2
        simp only [hc] at this
        cases this
end
end Go.Proofs.Ytopcnkejobomaaa
