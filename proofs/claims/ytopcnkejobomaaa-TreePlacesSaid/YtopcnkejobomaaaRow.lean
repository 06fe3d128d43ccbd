/- Copies, conversions and appends over St. No program is named here. -/
import Derived.Test.YtopcnkejobomaaaStep
import Derived.Deep.AppendSrc
import Derived.Laws.IdiomStrings
import Derived.Laws.StructEq
import Derived.DeepKeys
namespace Go.Proofs.Ytopcnkejobomaaa
open Go.RowKit

def u32s (l : List Int) : List Value := l.map (Value.int .u32)
def u8s (l : List Int) : List Value := l.map (Value.int .u8)
theorem u32s_at (l : List Int) (i : Nat) (h : i < l.length) : (u32s l)[i]? = some (.int .u32 (l.getD i 0)) := by
  simp [u32s, List.getD, h]
theorem u8s_at (l : List Int) (i : Nat) (h : i < l.length) : (u8s l)[i]? = some (.int .u8 (l.getD i 0)) := by
  simp [u8s, List.getD, h]
theorem u8s_one (l : List Int) : ∀ u ∈ u8s l, u.oneCell' = true := by
  intro u hu
  obtain ⟨x, _, rfl⟩ := List.mem_map.1 hu
  rfl
theorem u8s_ints (s : ByteArray) : byteCells s = u8s (ints s) := by
  simp [byteCells, u8s, ints]
section
variable {P : Program} {w w0 : World} {L : List Bk} {g : Nat} {t' : TypeId} {cs : List Value} {n : Bool}
/-- copy(row, text) -/
theorem run_copy_string {o m c : Nat} {s : ByteArray} {dT sT ty e : TypeId} {ks : List Bool} (hs : St w0 (⟨g, t', cs, n⟩ :: L) w) (hd : P.underlying dT = some (.slice e)) (he : (P.info? e).map (·.size) = some 1) (hfit : o + m ≤ cs.length) :
    ∃ w', (o_builtin .copy #[dT, sT] ty ks [.slice (some ⟨g, o, none⟩) m c, .string s]).run P w = .ok (.value (.int .i64 ((min s.size m : Nat) : Int))) w' ∧ St w0 (⟨g, t', lay cs (u8s ((ints s).take (min s.size m))) o, n⟩ :: L) w' := by
  have hl : (u8s ((ints s).take (min s.size m))).length = min s.size m := by simp [u8s, ints_length]
  have hst := run_storeCells_blf (P := P) o (u8s ((ints s).take (min s.size m))) 0 cs w hs.head (by omega) (u8s_one _)
  refine ⟨w.setRow g (lay cs (u8s ((ints s).take (min s.size m))) o).toArray, ?_, hs.setRow (lay_length _ _ _ (by rw [hl]; omega))⟩
  have hx : List.take (min s.size m) (List.map (fun b : UInt8 => Value.int IntKind.u8 b.toNat) s.data.toList) = u8s ((ints s).take (min s.size m)) := by
    simp only [u8s, ints, List.map_take, List.map_map]
    rfl
  have hmin : Nat.min s.size m = min s.size m := rfl
  rw [Nat.add_zero] at hst
  simp [o_builtin, invoke, builtin, Builtin.copy_, run_underlying hd, Builtin.lenOf, run_size he, Builtin.firstCells, goInt, hmin]
  rw [hx, hst]
  rfl
/-- A slice of the call's own, from the head of its block; or nil. Elements of type e, sz cells each. -/
def RowSt (w0 : World) (e sz : Nat) (L : List Bk) (A : Option Addr) (n cap : Nat) (xs : List Value) (w : World) : Prop :=
  xs.length = n * sz ∧ ((A = none ∧ n = 0 ∧ cap = 0 ∧ St w0 L w) ∨ ∃ g sp, A = some ⟨g, 0, none⟩ ∧ St w0 (⟨g, e, xs ++ sp, true⟩ :: L) w ∧ (xs ++ sp).length = cap * sz ∧ n ≤ cap ∧ cap ≤ maxLen)
theorem RowSt.base {e sz : Nat} {A : Option Addr} {n cap : Nat} {xs : List Value} (h : RowSt w0 e sz L A n cap xs w) : St w0 L w := by
  rcases h.2 with ⟨_, _, _, h⟩ | ⟨g, sp, _, h, _⟩
  · exact h
  · exact h.drop
theorem RowSt.drawn {e sz : Nat} {A : Option Addr} {n cap : Nat} {xs : List Value} {w' : World} (h : RowSt w0 e sz L A n cap xs w) (hd : Drawn w w') : RowSt w0 e sz L A n cap xs w' := by
  refine ⟨h.1, ?_⟩
  rcases h.2 with ⟨h1, h2, h3, h⟩ | ⟨g, sp, h1, h, h2⟩
  · exact .inl ⟨h1, h2, h3, h.drawn hd⟩
  · exact .inr ⟨g, sp, h1, h.drawn hd, h2⟩
theorem RowSt.at_ {e sz : Nat} {A : Option Addr} {n cap : Nat} {xs : List Value} (h : RowSt w0 e sz L A n cap xs w) (hn : 0 < n) : ∃ g sp, A = some ⟨g, 0, none⟩ ∧ St w0 (⟨g, e, xs ++ sp, true⟩ :: L) w ∧ (xs ++ sp).length = cap * sz ∧ n ≤ cap := by
  rcases h.2 with ⟨_, h2, _, _⟩ | ⟨g, sp, h1, h, h2, h3, _⟩
  · omega
  · exact ⟨g, sp, h1, h, h2, h3⟩
theorem RowSt.nil (h : St w0 L w) (e sz : Nat) : RowSt w0 e sz L none 0 0 [] w := ⟨by simp, .inl ⟨rfl, rfl, rfl, h⟩⟩
/-- append -/
theorem run_append_st2 (t tx ty e : TypeId) (ks : List Bool) (i : TypeInfo) (z : Value) (size bytes : Nat) (ht : P.underlying t = some (.slice e)) (hi : P.info? e = some i) (hz : i.zero = some z) (hsize : i.size = size) (hby : i.bytes = bytes) (hzs : z.cells.size = size)
    {A : Option Addr} {k cap : Nat} {xs : List Value} (hrow : RowSt w0 e size L A k cap xs w) {x : Value} {m : Nat} {news : List Value} (hs : Src P size tx x m news w)
    (h63 : k + m ≤ maxLen) (hbytes : (k + m) * bytes ≤ 140737488355328) :
    ∃ A' cap' w', (o_builtin .append #[t, tx] ty ks [.slice A k cap, x]).run P w = .ok (.value (.slice A' (k + m) cap')) w' ∧ RowSt w0 e size L A' (k + m) cap' (xs ++ news) w' ∧ Only (fun g => A = some ⟨g, 0, none⟩) w w' ∧ (A' = A ∨ ∃ g, A' = some ⟨g, 0, none⟩ ∧ w.heap.size ≤ g) := by
  subst hsize
  subst hby
  have hl := hs.newsLen
  have hlen : (xs ++ news).length = (k + m) * i.size := by rw [List.length_append, hrow.1, hl, Nat.add_mul]
  have hrun : ∀ v w', (Builtin.append_ #[t, tx] ty #[.slice A k cap, x]).run P w = .ok v w' → (o_builtin .append #[t, tx] ty ks [.slice A k cap, x]).run P w = .ok (.value v) w' := fun v w' h => by
    simp [o_builtin, invoke, builtin, h]
  by_cases hroom : k + m ≤ cap
  · rcases hrow.2 with ⟨rfl, rfl, rfl, hst⟩ | ⟨b, sp, rfl, hst, hcs, hnc, hcm⟩
    · have hm : m = 0 := by omega
      subst hm
      have hn : news = [] := List.eq_nil_of_length_eq_zero (by simpa using hl)
      subst hn
      have hxs : xs = [] := List.eq_nil_of_length_eq_zero (by simpa using hrow.1)
      subst hxs
      refine ⟨none, 0, w, hrun _ _ ?_, RowSt.nil hst e i.size, Only.refl _ w, .inl rfl⟩
      have hc := hs.cells
      rcases hs.kind with ⟨e', hk⟩ | hk <;> simp [Builtin.append_, run_underlying ht, run_underlying hk, sizeOf, typeInfo, hi, hs.len, hc]
    · have hcap : (k + m) * i.size ≤ cap * i.size := Nat.mul_le_mul_right _ hroom
      have hfit : k * i.size + 0 + news.length ≤ (xs ++ sp).length := by rw [hcs, hl]; rw [Nat.add_mul] at hcap; omega
      have hst2 := run_storeCells_blf (P := P) (k * i.size) news 0 (xs ++ sp) w hst.head hfit hs.one
      simp only [Nat.add_zero] at hst2 hfit
      have hsp : m * i.size ≤ sp.length := by
        have h1 := hrow.1
        rw [List.length_append] at hcs
        rw [Nat.add_mul] at hcap
        omega
      have hlay : lay (xs ++ sp) news (k * i.size) = (xs ++ news) ++ sp.drop (m * i.size) := by
        unfold lay
        rw [List.take_append, List.take_of_length_le (by rw [hrow.1]; omega), hrow.1, Nat.sub_self, List.take_zero, List.append_nil, List.drop_append, hrow.1, List.drop_eq_nil_of_le (by rw [hrow.1, hl]; omega), hl]
        rw [show k * i.size + m * i.size - k * i.size = m * i.size by omega]
        rfl
      refine ⟨some ⟨b, 0, none⟩, cap, w.setRow b (lay (xs ++ sp) news (k * i.size)).toArray, hrun _ _ ?_, ⟨hlen, .inr ⟨b, sp.drop (m * i.size), rfl, ?_, ?_, hroom, hcm⟩⟩, ⟨rfl, rfl, rfl, by simp [World.setRow], fun g _ hg => setRow_other w b g _ (fun e => hg (by rw [e]))⟩, .inl rfl⟩
      · rcases hs.kind with ⟨e', hk⟩ | hk <;> simp [Builtin.append_, run_underlying ht, run_underlying hk, sizeOf, typeInfo, hi, hs.len, hroom, hs.cells, Addr.add_lit, hst2]
      · rw [← hlay]
        exact hst.setRow (lay_length _ _ _ hfit)
      · rw [← hlay, lay_length _ _ _ hfit, hcs]
  · have hfx : (Builtin.firstCells i.size k (.slice A k cap)).run P w.drew = .ok xs.toArray w.drew := by
      rcases hrow.2 with ⟨rfl, rfl, rfl, _⟩ | ⟨b, sp, rfl, hst, _, _, _⟩
      · have hxs : xs = [] := List.eq_nil_of_length_eq_zero (by simpa using hrow.1)
        subst hxs
        simp [Builtin.firstCells]
      · exact run_firstCells_some w.drew i.size k ⟨b, 0, none⟩ k cap xs hrow.1 (fun j u hu => by
          rw [Addr.add_lit, Nat.zero_add]
          refine (hst.head.cell j).trans ?_
          rw [List.getElem?_append_left (List.getElem?_eq_some_iff.1 hu).1]
          exact hu)
    have hcm : grownCap w (k + m) cap e ≤ maxLen := grownCap_le_maxLen w (k + m) cap e h63
    have hge := grownCap_ge w (k + m) cap e
    have hd : Drawn w w.drew := ⟨1, rfl⟩
    refine ⟨some ⟨w.heap.size, 0, none⟩, grownCap w (k + m) cap e, w.drew.alloc (.cells ((xs ++ news).toArray ++ Builtin.zeroCells z.cells (grownCap w (k + m) cap e - (k + m))) e), hrun _ _ ?_, ⟨hlen, .inr ⟨w.heap.size, (Builtin.zeroCells z.cells (grownCap w (k + m) cap e - (k + m))).toList, rfl, ?_, ?_, hge, hcm⟩⟩, ((Only.refl _ w).drew).alloc _, .inr ⟨_, rfl, Nat.le_refl _⟩⟩
    · exact run_append_grow_src (P := P) w t tx ty e i z ht hi hz A k cap xs hfx x m news hs (by omega) (by simp only [maxLen] at h63; omega) (growslice_fits (by omega) hbytes)
    · have := (hrow.base.drawn hd).alloc e ((xs ++ news) ++ (Builtin.zeroCells z.cells (grownCap w (k + m) cap e - (k + m))).toList)
      have e1 : (xs ++ news).toArray ++ Builtin.zeroCells z.cells (grownCap w (k + m) cap e - (k + m)) = ((xs ++ news) ++ (Builtin.zeroCells z.cells (grownCap w (k + m) cap e - (k + m))).toList).toArray := by
        apply Array.ext'
        simp
      rw [e1]
      exact this
    · simp only [List.length_append, Array.length_toList, size_zeroCells, hzs] at hlen ⊢
      rw [hlen, ← Nat.add_mul]
      congr 1
      omega
theorem run_append_st (t tx ty e : TypeId) (ks : List Bool) (i : TypeInfo) (z : Value) (size bytes : Nat) (ht : P.underlying t = some (.slice e)) (hi : P.info? e = some i) (hz : i.zero = some z) (hsize : i.size = size) (hby : i.bytes = bytes) (hzs : z.cells.size = size)
    {A : Option Addr} {k cap : Nat} {xs : List Value} (hrow : RowSt w0 e size L A k cap xs w) {x : Value} {m : Nat} {news : List Value} (hs : Src P size tx x m news w)
    (h63 : k + m ≤ maxLen) (hbytes : (k + m) * bytes ≤ 140737488355328) :
    ∃ A' cap' w', (o_builtin .append #[t, tx] ty ks [.slice A k cap, x]).run P w = .ok (.value (.slice A' (k + m) cap')) w' ∧ RowSt w0 e size L A' (k + m) cap' (xs ++ news) w' := by
  obtain ⟨A', cap', w', h1, h2, _⟩ := run_append_st2 (P := P) t tx ty e ks i z size bytes ht hi hz hsize hby hzs hrow hs h63 hbytes
  exact ⟨A', cap', w', h1, h2⟩
/-- []byte(text) -/
theorem run_bytes_of_text (src dst e : TypeId) (s : ByteArray) (hs : P.underlying src = some .string) (hd : P.underlying dst = some (.slice e)) (he : P.underlying e = some (.int .u8)) (hsz : s.size ≤ maxLen) (h : St w0 L w) (h8 : e = 5 := by rfl) :
    ∃ A cap w', (o_conv src dst (.string s)).run P w = .ok (.value (.slice A s.size cap)) w' ∧ RowSt w0 e 1 L A s.size cap (u8s (ints s)) w' := by
  have hr := run_bytes_of_string (P := P) w src dst e s hs hd he
  have hge := grownCap_ge w s.size 0 e
  have hcm : grownCap w s.size 0 e ≤ maxLen := grownCap_le_maxLen w s.size 0 e hsz
  have hl : (u8s (ints s)).length = s.size * 1 := by simp [u8s, ints_length]
  have hC : bytesRow s (grownCap w s.size 0 e) = (u8s (ints s) ++ List.replicate (grownCap w s.size 0 e - s.size) (Value.int .u8 0)).toArray := by
    apply Array.ext'
    simp [bytesRow, u8s, ints]
  refine ⟨_, _, _, by simp only [o_conv, sv, Sem.run_bind, hr, Result.andThen_ok]; rfl, hl, .inr ⟨w.heap.size, List.replicate (grownCap w s.size 0 e - s.size) (Value.int .u8 0), rfl, ?_, ?_, hge, hcm⟩⟩
  · rw [hC]
    exact (h.drawn ⟨1, rfl⟩).allocF e _ _ (.inr ⟨by simp, h8⟩)
  · simp only [List.length_append, hl, List.length_replicate]
    omega
theorem RowSt.allocL {e sz : Nat} {A : Option Addr} {k cap : Nat} {xs : List Value} (h : RowSt w0 e sz L A k cap xs w) (t : TypeId) (cs : List Value) : RowSt w0 e sz (⟨w.heap.size, t, cs, true⟩ :: L) A k cap xs (w.alloc (.cells cs.toArray t)) := by
  refine ⟨h.1, ?_⟩
  rcases h.2 with ⟨h1, h2, h3, h⟩ | ⟨g, sp, h1, h, h2⟩
  · exact .inl ⟨h1, h2, h3, h.alloc t cs⟩
  · exact .inr ⟨g, sp, h1, (h.alloc t cs).swap, h2⟩
theorem RowSt.dropL {e sz : Nat} {A : Option Addr} {k cap : Nat} {xs : List Value} {g0 : Nat} {t : TypeId} {c0 : List Value} (h : RowSt w0 e sz (⟨g0, t, c0, true⟩ :: L) A k cap xs w) : RowSt w0 e sz L A k cap xs w := by
  refine ⟨h.1, ?_⟩
  rcases h.2 with ⟨h1, h2, h3, h⟩ | ⟨g, sp, h1, h, h2⟩
  · exact .inl ⟨h1, h2, h3, h.drop⟩
  · exact .inr ⟨g, sp, h1, h.swap.drop, h2⟩
/-- A slice type: its elements' type, cells and bytes each, and that the zero value has so many cells. -/
def sli (P : Program) (t : TypeId) : Option (TypeId × Nat × Nat) :=
  match P.underlying t with
  | some (.slice e) => (P.info? e).bind fun i => i.zero.bind fun z => bif Nat.beq z.cells.size i.size then some (e, i.size, i.bytes) else none
  | _ => none
class SliC (P : Program) (t : TypeId) (e : outParam TypeId) (sz by_ : outParam Nat) : Prop where
  ok : sli P t = some (e, sz, by_)
theorem sli_spec {t e : TypeId} {sz by_ : Nat} (h : sli P t = some (e, sz, by_)) : P.underlying t = some (.slice e) ∧ ∃ i z, P.info? e = some i ∧ i.zero = some z ∧ i.size = sz ∧ i.bytes = by_ ∧ z.cells.size = sz := by
  unfold sli at h
  split at h
  · rename_i e' hu
    cases hi : P.info? e' with
    | none => simp [hi] at h
    | some i =>
      cases hz : i.zero with
      | none => simp [hi, hz] at h
      | some z =>
        simp only [hi, hz, Option.bind_some] at h
        cases hb : Nat.beq z.cells.size i.size with
        | false => simp [hb] at h
        | true =>
          simp [hb] at h
          obtain ⟨rfl, rfl, rfl⟩ := h
          exact ⟨hu, i, z, hi, hz, rfl, rfl, Nat.eq_of_beq_eq_true hb⟩
  · cases h
theorem mop_append {t tx ty e : TypeId} {ks : List Bool} {sz by_ : Nat} [hc : SliC P t e sz by_] {A : Option Addr} {k cap : Nat} {xs : List Value} {x : Value} {m : Nat} {news : List Value} {K : Value → World → Prop} {X : List PanicEntry → World → Prop}
    (hrow : RowSt w0 e sz L A k cap xs w) (hs : Src P sz tx x m news w) (h63 : k + m ≤ maxLen) (hbytes : (k + m) * by_ ≤ 140737488355328) (hk : ∀ A' cap' w', RowSt w0 e sz L A' (k + m) cap' (xs ++ news) w' → K (.slice A' (k + m) cap') w') :
    mop P (o_builtin .append #[t, tx] ty ks [.slice A k cap, x]) w K X := by
  obtain ⟨ht, i, z, hi, hz, h1, h2, h3⟩ := sli_spec hc.ok
  obtain ⟨A', cap', w', hr, hrow'⟩ := run_append_st t tx ty e ks i z sz by_ ht hi hz h1 h2 h3 hrow hs h63 hbytes
  exact mop_run hr (hk A' cap' w' hrow')
/-- append(row, v) -/
theorem mop_push {t ty e : TypeId} {ks : List Bool} {sz by_ : Nat} [hc : SliC P t e sz by_] {A : Option Addr} {k cap : Nat} {xs : List Value} {v : Value} {K : Value → World → Prop} {X X' : List PanicEntry → World → Prop}
    (hrow : RowSt w0 e sz L A k cap xs w) (hv : v.cells.size = sz) (h1 : ∀ u ∈ v.cells.toList, u.oneCell' = true) (hr : (o_buildSlice t 1 [(0, v)]).run P w = .ok (.value (.slice (some ⟨w.heap.size, 0, none⟩) 1 1)) (w.alloc (.cells v.cells.toList.toArray e)))
    (h63 : k + 1 ≤ maxLen) (hbytes : (k + 1) * by_ ≤ 140737488355328) (hk : ∀ A' cap' w', RowSt w0 e sz L A' (k + 1) cap' (xs ++ v.cells.toList) w' → K (.slice A' (k + 1) cap') w') :
    mop P (o_buildSlice t 1 [(0, v)]) w (fun x w1 => mop P (o_builtin .append #[t, t] ty ks [.slice A k cap, x]) w1 K X) X' := by
  refine mop_run hr ?_
  have h2 := hrow.allocL e v.cells.toList
  have hb := h2.base.head
  obtain ⟨ht, _⟩ := sli_spec hc.ok
  exact mop_append h2 (Src.ofSlice _ ht ⟨w.heap.size, 0, none⟩ 1 1 v.cells.toList (by simp [hv]) (fun j u hu => by rw [Addr.add_lit, Nat.zero_add, hb.cell]; exact hu) h1) h63 hbytes (fun A' cap' w' h => hk A' cap' w' h.dropL)
end
/-! ### Equality of arrays of integers -/
section
variable {P : Program}
theorem run_eqItems_int (d : Nat) {e : TypeId} {k : IntKind} (he : P.underlying e = some (.int k)) (xs ys : Array Value) (f g : Nat → Int) (w : World) : ∀ (is : List Nat), (∀ i ∈ is, xs[i]? = some (.int k (f i)) ∧ ys[i]? = some (.int k (g i))) →
    (Op.eqItems (d + 1) e 1 xs ys is).run P w = .ok (is.all fun i => f i == g i) w
  | [], _ => rfl
  | i :: is, h => by
    obtain ⟨h1, h2⟩ := h i (List.mem_cons_self ..)
    have ih := run_eqItems_int d he xs ys f g w is (fun j hj => h j (List.mem_cons_of_mem _ hj))
    have ha : (isAgg e).run P w = .ok false w := by simp [isAgg, run_underlying he]
    have hp1 : (part e xs (i * 1)).run P w = .ok (.int k (f i)) w := by simp [part, ha, h1]
    have hp2 : (part e ys (i * 1)).run P w = .ok (.int k (g i)) w := by simp [part, ha, h2]
    have heq : (Op.equalIn (d + 1) e (.int k (f i)) (.int k (g i))).run P w = .ok (f i == g i) w := by simp [Op.equalIn, run_underlying he]
    simp only [Op.eqItems, Sem.run_bind, hp1, hp2, heq, Result.andThen_ok, List.all_cons]
    cases hb : (f i == g i) with
    | true => simpa using ih
    | false => simp
theorem run_eq_ints (t e n : Nat) (k : IntKind) (xs ys : List Int) (ht : P.underlying t = some (.array n e)) (he : P.underlying e = some (.int k)) (hs : (P.info? e).map (·.size) = some 1) (hx : xs.length = n) (hy : ys.length = n) (w : World) :
    (Op.equalIn 10000 t (.agg (xs.map (Value.int k)).toArray) (.agg (ys.map (Value.int k)).toArray)).run P w = .ok (decide (xs = ys)) w := by
  cases hi : P.info? e with
  | none => simp [hi] at hs
  | some i =>
    simp [hi] at hs
    have hc : P.cellsOf e = 1 := by simp [Program.cellsOf, hi, hs]
    have h1 := run_equalIn_array (P := P) w 9999 (xs.map (Value.int k)).toArray (ys.map (Value.int k)).toArray ht hi
    have h2 := run_eqItems_int (P := P) 9998 he (xs.map (Value.int k)).toArray (ys.map (Value.int k)).toArray (fun i => xs.getD i 0) (fun i => ys.getD i 0) w (List.range n) (fun i hi => by
      have := List.mem_range.1 hi
      constructor
      · simp [List.getD, show i < xs.length by omega]
      · simp [List.getD, show i < ys.length by omega])
    rw [h1, hc, h2]
    congr 1
    rw [Bool.eq_iff_iff]
    simp only [List.all_eq_true, List.mem_range, beq_iff_eq, decide_eq_true_eq]
    constructor
    · intro h
      refine List.ext_getElem (by omega) fun j h1 h2 => ?_
      have := h j (by omega)
      simpa [List.getD, h1, h2] using this
    · rintro rfl j _; rfl
theorem p_eql_ints (t e n : Nat) (q : Bool) (k : IntKind) (xs ys : List Int) (ht : P.underlying t = some (.array n e)) (he : P.underlying e = some (.int k)) (hs : (P.info? e).map (·.size) = some 1) (hg : P.eqGuardType P.depth t = false) (hx : xs.length = n) (hy : ys.length = n) :
    Pur P (o_bin .eql t q (.agg (xs.map (Value.int k)).toArray) (.agg (ys.map (Value.int k)).toArray)) (.bool (decide (xs = ys))) := fun w => by
  simp only [o_bin, sv, Sem.run_bind, run_eqGuard_agg _ _ _ _ _ _ _ hg, Result.andThen_ok, run_eql_struct, run_eq_ints t e n k xs ys ht he hs hx hy]
  rfl
theorem p_neq_ints (t e n : Nat) (q : Bool) (k : IntKind) (xs ys : List Int) (ht : P.underlying t = some (.array n e)) (he : P.underlying e = some (.int k)) (hs : (P.info? e).map (·.size) = some 1) (hg : P.eqGuardType P.depth t = false) (hx : xs.length = n) (hy : ys.length = n) :
    Pur P (o_bin .neq t q (.agg (xs.map (Value.int k)).toArray) (.agg (ys.map (Value.int k)).toArray)) (.bool (!decide (xs = ys))) := fun w => by
  simp only [o_bin, sv, Sem.run_bind, run_eqGuard_agg _ _ _ _ _ _ _ hg, Result.andThen_ok, run_neq_struct, run_eq_ints t e n k xs ys ht he hs hx hy]
  rfl
end
end Go.Proofs.Ytopcnkejobomaaa
