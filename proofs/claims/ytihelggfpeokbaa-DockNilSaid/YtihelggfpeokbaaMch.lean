/- Channels of one's own, and atomic numbers. No program is named here. -/
import Derived.Test.YtihelggfpeokbaaMgn
import Derived.Conc.LoneSelectN
import Derived.Laws.LoneSync
namespace Go.Proofs.Ytihelggfpeokbaa
open Go.RowKit

/-- A block that is no cells. -/
def obR (g : Nat) (o : Obj) : Res := fun B => Obj.isOther o = true ∧ B = [⟨g, .ob o, [], true⟩]
section
variable {P : Program} {H : Hp} {w0 w w' : World} {L R : List Res} {g : Nat} {o o' : Obj}
theorem St.allocOb {L : List Bk} (h : St w0 L w) (o : Obj) (ho : Obj.isOther o = true) : St w0 (⟨w.heap.size, .ob o, [], true⟩ :: L) (w.alloc o) := by
  refine ⟨fun b hb => ?_, .cons (fun b hb => ?_) h.ne, fun b hb hn => ?_, ?_⟩
  · cases hb with
    | head => exact ⟨rfl, ho, heap_alloc_new w _⟩
    | tail _ hb => exact (h.own b hb).alloc _
  · have := (h.own b hb).lt
    simp only []
    omega
  · cases hb with
    | head => exact h.size
    | tail _ hb => exact h.new b hb hn
  · exact (h.only.alloc _).mono fun i _ ⟨b, hb, hn, hg⟩ => ⟨b, List.mem_cons_of_mem _ hb, hn, hg⟩
def putOb (w : World) (g : Nat) (o : Obj) : World := { w with heap := w.heap.setIfInBounds g o }
theorem putOb_other (w : World) (g k : Nat) (o : Obj) (h : g ≠ k) : (putOb w g o).heap[k]? = w.heap[k]? := by
  simp only [putOb]
  rw [Array.getElem?_setIfInBounds_ne h]
theorem St.setOb {L : List Bk} (h : St w0 (⟨g, .ob o, [], true⟩ :: L) w) (ho : Obj.isOther o' = true) : St w0 (⟨g, .ob o', [], true⟩ :: L) (putOb w g o') := by
  have hne := List.pairwise_cons.1 h.ne
  have hlt := (h.own _ (List.mem_cons_self ..)).lt
  simp only at hlt
  refine ⟨fun b hb => ?_, .cons (fun b hb => hne.1 b hb) hne.2, fun b hb hn => ?_, ?_⟩
  · cases hb with
    | head => exact ⟨rfl, ho, by simp [putOb, hlt]⟩
    | tail _ hb => exact (h.own b (List.mem_cons_of_mem _ hb)).same (putOb_other w g b.g _ (fun e => hne.1 b hb e))
  · cases hb with
    | head => exact h.new ⟨g, .ob o, [], true⟩ (List.mem_cons_self ..) hn
    | tail _ hb => exact h.new b (List.mem_cons_of_mem _ hb) hn
  · have ho' := h.only
    refine ⟨ho'.os, ho'.tape, ho'.output, by simpa [putOb] using ho'.size, fun k hk hn => ?_⟩
    refine (putOb_other w g k _ ?_).trans (ho'.block k hk fun ⟨b, hb, h1, h2⟩ => ?_)
    · rintro rfl
      have := h.new ⟨g, .ob o, [], true⟩ (List.mem_cons_self ..) rfl
      simp only [] at this
      omega
    · cases hb with
      | head => cases h1
      | tail _ hb => exact hn ⟨b, List.mem_cons_of_mem _ hb, h1, h2⟩
theorem Mem.obAt (h : Mem H w0 (obR g o :: L) w) : w.heap[g]? = some o := by
  obtain ⟨B, ⟨B1, B2, rfl, ⟨_, rfl⟩, _⟩, hs, _⟩ := h.own
  exact (hs.own ⟨g, .ob o, [], true⟩ (by simp)).2.2
theorem Mem.allocOb (h : Mem H w0 L w) (o : Obj) (ho : Obj.isOther o = true) : Mem H w0 (obR w.heap.size o :: L) (w.alloc o) := by
  obtain ⟨B, hl, hs, hb⟩ := h.own
  refine ⟨⟨⟨w.heap.size, .ob o, [], true⟩ :: B, ⟨[⟨w.heap.size, .ob o, [], true⟩], B, rfl, ⟨ho, rfl⟩, hl⟩, hs.allocOb o ho, fun b hm => ?_⟩, h.fz.ext ((Only.refl _ w).alloc _)⟩
  rcases List.mem_cons.1 hm with rfl | hm
  · refine ⟨rfl, ?_⟩
    cases hh : H w.heap.size with
    | none => rfl
    | some c => have := h.fz.lt hh; omega
  · exact hb b hm
theorem Mem.setOb (h : Mem H w0 (obR g o :: L) w) (ho : Obj.isOther o' = true) : Mem H w0 (obR g o' :: L) (putOb w g o') := by
  obtain ⟨B, ⟨B1, B2, rfl, ⟨_, rfl⟩, h4⟩, hs, hb⟩ := h.own
  have hs : St w0 (⟨g, .ob o, [], true⟩ :: B2) w := hs
  have hg := hb ⟨g, .ob o, [], true⟩ (by simp)
  refine ⟨⟨⟨g, .ob o', [], true⟩ :: B2, ⟨[⟨g, .ob o', [], true⟩], B2, rfl, ⟨ho, rfl⟩, h4⟩, hs.setOb ho, fun b hm => ?_⟩, h.fz.same fun b c hc => putOb_other w g b _ ?_⟩
  · rcases List.mem_cons.1 hm with rfl | hm
    · exact ⟨rfl, hg.2⟩
    · exact hb b (List.mem_append.2 (.inr hm))
  · rintro rfl
    have := hg.2
    simp only [hc] at this
    cases this
/-! ### Channels -/
/-- A channel. -/
def chR (g cap : Nat) (buf : List Value) (closed : Bool) : Res := fun B => ∃ s r, obR g (.chan cap buf.toArray closed s r false) B
theorem Mem.ch {cap : Nat} {buf : List Value} {closed : Bool} (h : Mem H w0 (chR g cap buf closed :: L) w) : ∃ s r, Mem H w0 (obR g (.chan cap buf.toArray closed s r false) :: L) w := by
  obtain ⟨B, ⟨B1, B2, rfl, ⟨s, r, h1⟩, h4⟩, hs, hb⟩ := h.own
  exact ⟨s, r, ⟨B1 ++ B2, ⟨B1, B2, rfl, h1, h4⟩, hs, hb⟩, h.fz⟩
theorem Mem.toch {cap s r : Nat} {buf : List Value} {closed : Bool} (h : Mem H w0 (obR g (.chan cap buf.toArray closed s r false) :: L) w) : Mem H w0 (chR g cap buf closed :: L) w := by
  obtain ⟨B, ⟨B1, B2, rfl, h1, h4⟩, hs, hb⟩ := h.own
  exact ⟨⟨B1 ++ B2, ⟨B1, B2, rfl, ⟨s, r, h1⟩, h4⟩, hs, hb⟩, h.fz⟩
variable {t e by_ cap n : Nat} {K : Value → World → Prop} {X : List PanicEntry → World → Prop} {Kq : Value → Prop} {buf : List Value} {closed : Bool}
/-- Where a channel stands in the list. -/
class AtC (L : List Res) (g : Nat) (cap : outParam Nat) (buf : outParam (List Value)) (closed : outParam Bool) (put : outParam (Res → List Res)) : Prop where
  perm : ∃ R, L.Perm (chR g cap buf closed :: R) ∧ ∀ r, (put r).Perm (r :: R)
instance (L : List Res) (g cap : Nat) (buf : List Value) (closed : Bool) : AtC (chR g cap buf closed :: L) g cap buf closed (fun r => r :: L) := ⟨⟨L, .refl _, fun _ => .refl _⟩⟩
instance (priority := 900) (L : List Res) (g cap : Nat) (buf : List Value) (closed : Bool) (put : Res → List Res) (x : Res) [h : AtC L g cap buf closed put] : AtC (x :: L) g cap buf closed (fun r => x :: put r) := ⟨by
  obtain ⟨R, h1, h2⟩ := h.perm
  exact ⟨x :: R, (h1.cons x).trans (.swap ..), fun r => ((h2 r).cons x).trans (.swap ..)⟩⟩
variable {put : Res → List Res}
theorem run_mkch (c : ChC P t e by_) (k : IntKind) (i : Int) (h0 : 0 ≤ i) (hb : i ≤ 9223372036854775807 ∧ by_ * i ≤ 281474976710544) : (o_makeChan t (.int k i)).run P w = .ok (.value (.chan (some w.heap.size))) (w.alloc (.chan i.toNat #[] false 0 0 false)) := by
  obtain ⟨⟨d, hu⟩, hi⟩ := c.ok
  obtain ⟨x, hx, hxb⟩ := Option.map_eq_some_iff.1 hi
  have := Conc.run_makeChan (w := w) hu hx k i.toNat (by omega) (by rw [hxb, Int.toNat_of_nonneg h0]; exact hb.2)
  rw [Int.toNat_of_nonneg h0] at this
  simp only [o_makeChan, sv, Sem.run_bind, this, Result.andThen_ok, Sem.run_pure]
theorem mm_mkch {k : IntKind} {i : Int} (h : Mem H w0 L w) [c : ChC P t e by_] (h0 : 0 ≤ i ∧ i ≤ 9223372036854775807 ∧ by_ * i ≤ 281474976710544) (hk : ∀ g w', Mem H w0 (chR g i.toNat [] false :: L) w' → K (.chan (some g)) w') : mop P (o_makeChan t (.int k i)) w K X :=
  mop_run (run_mkch c k i h0.1 h0.2) (hk _ _ (h.allocOb (.chan i.toNat #[] false 0 0 false) rfl).toch)
theorem dm_mkch {ext : Bool} {k : IntKind} {i : Int} (h : Mem H w0 L w) [c : ChC P t e by_] (h0 : 0 ≤ i ∧ i ≤ 9223372036854775807 ∧ by_ * i ≤ 281474976710544) (hk : ∀ g w', Mem H w0 (chR g i.toNat [] false :: L) w' → K (.chan (some g)) w') : df P w (o_makeChan t (.int k i)) ext K :=
  df_mop fun w1 hd => mop_run (run_mkch c k i h0.1 h0.2) ⟨fun _ => hd.ext.trans ((Only.refl _ w1).alloc _), hk _ _ ((h.drawn hd).allocOb (.chan i.toNat #[] false 0 0 false) rfl).toch⟩
theorem run_sel1 {z : Value} {x : Option Value} (hz : (zeroValue e).run P w = .ok z w) : (o_select [(.chan (some g), x, e)] false).run P w = .ok (.comm #[{ chan := .chan (some g), send := x, zero := z }] false .select) w := by
  simp [o_select, hz]
theorem run_zv {z : Value} (c : ZvC P t z) (w : World) : (zeroValue t).run P w = .ok z w := by
  have := c.ok
  cases hi : P.info? t with
  | none => simp [hi] at this
  | some i => simp [hi] at this; simp [zeroValue, typeInfo, hi, this]
theorem mc_send {x z : Value} (h : Mem H w0 L w) [k : AtC L g cap buf false put] [zc : ZvC P e z] (hroom : buf.length < cap) (hk : ∀ w', Mem H w0 (put (chR g cap (buf ++ [x]) false)) w' → K (.tuple #[.int .i64 0, .bool false]) w') : mcom P (o_select [(.chan (some g), some x, e)] false) w K := by
  obtain ⟨R, h1, h2⟩ := k.perm
  obtain ⟨s, r, hM⟩ := (h.perm h1).ch
  refine ⟨_, _, _, _, run_sel1 (run_zv zc w), _, _, hk _ (((hM.setOb (o' := .chan cap (buf ++ [x]).toArray false (s + 1) r false) rfl).toch).perm (h2 _).symm), fun fr cs p0 es hstep => ?_⟩
  have := Conc.step_lone_sel_send_room (k := 0) (c := g) (v := x) (z := z) (cap := cap) (s := s) (r := r) (buf := buf.toArray) (tm := false) hstep rfl (fun m c' hm hc => by
    cases m with
    | zero => exact absurd rfl hm
    | succ m => simp at hc) hM.obAt (by simpa using hroom)
  rw [Conc.lone_eq_solo, Conc.lone_eq_solo]
  simpa [commResult, World.setChan, putOb, goInt] using this
theorem mc_full {x z : Value} (h : Mem H w0 L w) [k : AtC L g cap buf false put] [zc : ZvC P e z] (hfull : cap ≤ buf.length) (hk : K (.tuple #[.int .i64 (-1), .bool false]) w) : mcom P (o_select [(.chan (some g), some x, e)] false) w K := by
  obtain ⟨R, h1, h2⟩ := k.perm
  obtain ⟨s, r, hM⟩ := (h.perm h1).ch
  refine ⟨_, _, _, _, run_sel1 (run_zv zc w), _, _, hk, fun fr cs p0 es hstep => ?_⟩
  have := Conc.step_lone_sel_default hstep (fun cc hc => by
    simp only [List.mem_toArray, List.mem_singleton] at hc
    subst hc
    exact Conc.noWay_send hM.obAt (by simpa using hfull))
  rw [Conc.lone_eq_solo, Conc.lone_eq_solo]
  simpa [commResult, goInt] using this
theorem mc_recv {v z : Value} {rest : List Value} (h : Mem H w0 L w) [k : AtC L g cap (v :: rest) closed put] [zc : ZvC P e z] (hk : ∀ w', Mem H w0 (put (chR g cap rest closed)) w' → K (.tuple #[.int .i64 0, .bool true, v]) w') : mcom P (o_select [(.chan (some g), none, e)] false) w K := by
  obtain ⟨R, h1, h2⟩ := k.perm
  obtain ⟨s, r, hM⟩ := (h.perm h1).ch
  refine ⟨_, _, _, _, run_sel1 (run_zv zc w), _, _, hk _ (((hM.setOb (o' := .chan cap rest.toArray closed s (r + 1) false) rfl).toch).perm (h2 _).symm), fun fr cs p0 es hstep => ?_⟩
  have := Conc.step_lone_sel_recv_buf (k := 0) (c := g) (z := z) (cap := cap) (s := s) (r := r) (buf := (v :: rest).toArray) (closed := closed) (tm := false) hstep rfl (fun m c' hm hc => by
    cases m with
    | zero => exact absurd rfl hm
    | succ m => simp at hc) hM.obAt (by simp)
  rw [Conc.lone_eq_solo, Conc.lone_eq_solo]
  simpa [commResult, World.setChan, putOb, goInt] using this
theorem mc_none {z : Value} (h : Mem H w0 L w) [k : AtC L g cap [] false put] [zc : ZvC P e z] (hk : K (.tuple #[.int .i64 (-1), .bool false, z]) w) : mcom P (o_select [(.chan (some g), none, e)] false) w K := by
  obtain ⟨R, h1, h2⟩ := k.perm
  obtain ⟨s, r, hM⟩ := (h.perm h1).ch
  refine ⟨_, _, _, _, run_sel1 (run_zv zc w), _, _, hk, fun fr cs p0 es hstep => ?_⟩
  have := Conc.step_lone_sel_default hstep (fun cc hc => by
    simp only [List.mem_toArray, List.mem_singleton] at hc
    subst hc
    exact Conc.noWay_recv hM.obAt)
  rw [Conc.lone_eq_solo, Conc.lone_eq_solo]
  simpa [commResult, goInt] using this
theorem mc_shut {z : Value} (h : Mem H w0 L w) [k : AtC L g cap [] true put] [zc : ZvC P e z] (hk : K (.tuple #[.int .i64 0, .bool false, z]) w) : mcom P (o_select [(.chan (some g), none, e)] false) w K := by
  obtain ⟨R, h1, h2⟩ := k.perm
  obtain ⟨s, r, hM⟩ := (h.perm h1).ch
  refine ⟨_, _, _, _, run_sel1 (run_zv zc w), _, _, hk, fun fr cs p0 es hstep => ?_⟩
  have := Conc.step_lone_sel_recv_shut (k := 0) (c := g) (z := z) (cap := cap) (s := s) (r := r) (tm := false) hstep rfl (fun m c' hm hc => by
    cases m with
    | zero => exact absurd rfl hm
    | succ m => simp at hc) hM.obAt
  rw [Conc.lone_eq_solo, Conc.lone_eq_solo]
  simpa [commResult, goInt] using this
theorem mm_lench {ty : TypeId} {ks : List Bool} (h : Mem H w0 L w) [c : ChC P t e by_] [k : AtC L g cap buf closed put] (hk : K (.int .i64 buf.length) w) : mop P (o_builtin .len #[t] ty ks [.chan (some g)]) w K X := by
  obtain ⟨R, h1, h2⟩ := k.perm
  obtain ⟨s, r, hM⟩ := (h.perm h1).ch
  obtain ⟨⟨d, hu⟩, _⟩ := c.ok
  have := Conc.run_len_chan t ty hu hM.obAt
  refine mop_run (w' := w) (u := .int .i64 buf.length) ?_ hk
  simp [o_builtin, invoke, builtin, this, goInt]
theorem mm_capch {ty : TypeId} {ks : List Bool} (h : Mem H w0 L w) [c : ChC P t e by_] [k : AtC L g cap buf closed put] (hk : K (.int .i64 cap) w) : mop P (o_builtin .cap #[t] ty ks [.chan (some g)]) w K X := by
  obtain ⟨R, h1, h2⟩ := k.perm
  obtain ⟨s, r, hM⟩ := (h.perm h1).ch
  obtain ⟨⟨d, hu⟩, _⟩ := c.ok
  have := Conc.run_cap_chan t ty hu hM.obAt
  refine mop_run (w' := w) (u := .int .i64 cap) ?_ hk
  simp [o_builtin, invoke, builtin, this, goInt]
theorem mm_close {ts : Array TypeId} {ty : TypeId} {ks : List Bool} (h : Mem H w0 L w) [k : AtC L g cap buf false put] (hk : ∀ w', Mem H w0 (put (chR g cap buf true)) w' → K (.tuple #[]) w') : mop P (o_builtin .close ts ty ks [.chan (some g)]) w K X := by
  obtain ⟨R, h1, h2⟩ := k.perm
  obtain ⟨s, r, hM⟩ := (h.perm h1).ch
  have := Go.run_close_open (P := P) ts ty hM.obAt
  refine mop_run (w' := putOb w g (.chan cap buf.toArray true s r false)) (u := .tuple #[]) ?_ (hk _ (((hM.setOb (o' := .chan cap buf.toArray true s r false) rfl).toch).perm (h2 _).symm))
  simp [o_builtin, invoke, builtin, this, putOb]
end
end Go.Proofs.Ytihelggfpeokbaa
