/- Bytes and texts; parts of slices. No program is named here. -/
import Derived.Test.YtopcnkejobomaaaDfr
import Derived.Test.YtopcnkejobomaaaMgo
namespace Go.Proofs.Ytopcnkejobomaaa
open Go.RowKit

/-- Bytes as elements. -/
def byts (l : List Int) : List (List Fd) := l.map fun x => [.one (.int .u8 x)]
theorem byts_app (a b : List Int) : byts (a ++ b) = byts a ++ byts b := by simp [byts]
theorem byts_length (l : List Int) : (byts l).length = l.length := by simp [byts]
theorem fls_byts (l : List Int) : fls (byts l) = u8s l := by
  induction l with
  | nil => rfl
  | cons x l ih =>
    show fl [.one (.int .u8 x)] ++ fls (byts l) = _
    rw [ih]
    rfl
theorem els_byts (l : List Int) : Els 1 (byts l) := Els.map (f := fun x => [.one (.int .u8 x)]) l fun _ => ⟨inferInstance, rfl⟩
/-- A conversion of bytes to a text. -/
class StrC (P : Program) (s d : TypeId) : Prop where
  ok : (∃ e, P.underlying s = some (.slice e) ∧ P.underlying e = some (.int .u8)) ∧ P.underlying d = some .string
section
variable {P : Program} {H H' : Hp} {w0 w w' : World} {L R R' : List Res} {g i : Nat} {t t' tx ty : TypeId} {fs gs : List Fd} {put : Res → List Res} {n m c cap e e' sz by_ : Nat} {K : Value → World → Prop} {X : List PanicEntry → World → Prop} {Kq : Value → Prop} {A : Option Addr} {l l' : List Int} {ps : List (List Fd)} {ks : List Bool}
theorem pw_str {s d : TypeId} (h : StrC P s d) {b o : Nat} (hl : l.length = n) (hc : ∀ j u, (u8s l)[j]? = some u → w.cell? ⟨b, o + j, none⟩ = some u) : PurW P w (o_conv s d (.slice (some ⟨b, o, none⟩) n c)) (.string (strOfNums l)) := by
  obtain ⟨⟨e, h1, h2⟩, h3⟩ := h.ok
  exact pw_conv_bytes s d e b o n c l h1 h2 h3 hl fun j hj => hc j _ (u8s_at l j (by omega))
theorem Mem.bytesF (h : Mem H w0 L w) (k : AtB L g t' fs put) (s : Sub fs i n [.arr n (u8s l)]) : l.length = n ∧ ∀ j u, (u8s l)[j]? = some u → w.cell? ⟨g, i + j, none⟩ = some u := by
  obtain ⟨h1, h2, h3⟩ := h.field k s
  have := (h1.ok _ (List.mem_singleton.2 rfl)).len
  refine ⟨by simpa [Fd.cells, Fd.size, u8s] using this, fun j u hu => h3 j u (by simpa [fl, Fd.cells] using hu)⟩
theorem mm_cvb {s d : TypeId} (h : Mem H w0 L w) [st : StrC P s d] [k : AtB L g t' fs put] [q : Sub fs i n [.arr n (u8s l)]] (hk : K (.string (strOfNums l)) w) : mop P (o_conv s d (.slice (some ⟨g, i, none⟩) n c)) w K X := by
  obtain ⟨h1, h2⟩ := h.bytesF k q
  exact mop_purW (pw_str st h1 h2) hk
theorem dm_cvb {s d : TypeId} (h : Mem H w0 L w) [st : StrC P s d] [k : AtB L g t' fs put] [q : Sub fs i n [.arr n (u8s l)]] (hk : Kq (.string (strOfNums l))) : dq P w (o_conv s d (.slice (some ⟨g, i, none⟩) n c)) Kq := by
  obtain ⟨h1, h2⟩ := h.bytesF k q
  exact dq_pur (fun _ hw => pw_str st h1 fun j u hu => hw.cell (h2 j u hu)) hk
/-- The cells of a row of one's own. -/
theorem Mem.rd (h : Mem H w0 L w) (k : AtA L A n cap e sz ps R) : Rd w A (fls ps) := by
  rcases Nat.eq_zero_or_pos n with hn | hn
  · have := (h.rowLen (A := A) (n := n) ⟨k.perm⟩).1
    have : ps = [] := List.eq_nil_of_length_eq_zero (by omega)
    subst this
    exact .inl rfl
  · obtain ⟨g, rfl⟩ := h.rowAt (n := n) ⟨k.perm⟩ hn
    have hc := (h.perm k.perm).rowCells (put := fun r => r :: R) ⟨⟨R, .refl _, fun _ => .refl _⟩⟩
    have hlt : g < w.heap.size := by
      obtain ⟨B, ⟨B1, B2, rfl, ⟨_, _, h3⟩, _⟩, hs, _⟩ := (h.perm k.perm).own
      rcases h3 with ⟨hA, _⟩ | ⟨g', sp, hA, rfl, _⟩
      · cases hA
      · cases hA
        exact (hs.own ⟨g, e, fls ps ++ sp, true⟩ (by simp)).lt
    exact .inr ⟨g, 0, rfl, hlt, fun j u hu => by rw [Nat.zero_add]; exact hc.2.2 j u hu⟩
/-- A text of a beginning of a row of one's own. -/
theorem mm_cvr {s d : TypeId} {k : Nat} (h : Mem H w0 L w) [st : StrC P s d] [a : AtA L A n cap e 1 (byts l) R] (hk' : k ≤ l.length) (hk : K (.string (strOfNums (l.take k))) w) : mop P (o_conv s d (.slice A k c)) w K X := by
  have hr := h.rd a
  rw [fls_byts] at hr
  rcases Nat.eq_zero_or_pos k with h0 | h0
  · subst h0
    obtain ⟨⟨e, h1, h2⟩, h3⟩ := st.ok
    refine mop_purW ?_ hk
    cases A with
    | none =>
      have : (convert s d (.slice none 0 c)).run P w = .ok (.string (strOfNums [])) w := by
        rw [run_convert_bytes_string w s d e none 0 c h1 h2 h3]
        rfl
      simp only [PurW, o_conv, sv, Sem.run_bind, this, Result.andThen_ok]
      rfl
    | some a' =>
      have := run_convert_bytes_back (P := P) w s d e a' c [] h1 h2 h3 (fun j hj => by simp at hj)
      simp only [PurW, o_conv, sv, Sem.run_bind]
      rw [show ([] : List UInt8).length = 0 from rfl] at this
      rw [this]
      rfl
  · rcases hr with hr | ⟨b, o, rfl, _, hc⟩
    · have : l = [] := by simpa [u8s] using hr
      subst this
      simp at hk'
      omega
    · refine mop_purW (pw_str st (by simp; omega) fun j u hu => hc j u ?_) hk
      have hj : j < k := by have := (List.getElem?_eq_some_iff.1 hu).1; simp [u8s] at this; omega
      rw [show u8s (l.take k) = (u8s l).take k by simp [u8s, List.map_take], List.getElem?_take] at hu
      simpa [hj] using hu
/-- An array among the fields, from the cell o on. -/
class SubA (fs : List Fd) (o : Nat) (n : outParam Nat) (ls : outParam (List Value)) (put : outParam (List Value → List Fd)) : Prop where
  ok : ∃ a b, fs = a ++ [.arr n ls] ++ b ∧ fsz a = o ∧ ∀ l', put l' = a ++ [.arr n l'] ++ b
instance (fs : List Fd) (n : Nat) (ls : List Value) : SubA (.arr n ls :: fs) 0 n ls (fun l' => .arr n l' :: fs) := ⟨⟨[], fs, rfl, rfl, fun _ => rfl⟩⟩
instance (fs : List Fd) (o n : Nat) (ls : List Value) (v : Value) (put : List Value → List Fd) [h : SubA fs o n ls put] : SubA (.one v :: fs) (o + 1) n ls (fun l' => .one v :: put l') := ⟨by
  obtain ⟨a, b, rfl, rfl, h3⟩ := h.ok
  exact ⟨.one v :: a, b, rfl, by simp [fsz, Fd.size]; omega, fun l' => by rw [h3]; rfl⟩⟩
instance (fs : List Fd) (o n : Nat) (ls l : List Value) (put : List Value → List Fd) [h : SubA fs o n ls put] : SubA (.arr 32 l :: fs) (o + 32) n ls (fun l' => .arr 32 l :: put l') := ⟨by
  obtain ⟨a, b, rfl, rfl, h3⟩ := h.ok
  exact ⟨.arr 32 l :: a, b, rfl, by simp [fsz, Fd.size]; omega, fun l' => by rw [h3]; rfl⟩⟩
theorem SubA.cell {fs : List Fd} {o : Nat} {ls : List Value} {putA : List Value → List Fd} (s : SubA fs o n ls putA) (hf : FOk fs) {j : Nat} {v : Value} (hv : ls[j]? = some v) : (fl fs)[o + j]? = some v := by
  obtain ⟨a, b, rfl, rfl, _⟩ := s.ok
  have h1 := hf.left.left.len
  rw [fl_append, fl_append, List.append_assoc, List.getElem?_append_right (by omega), h1, show fsz a + j - fsz a = j by omega]
  rw [List.getElem?_append_left (by have := (List.getElem?_eq_some_iff.1 hv).1; simpa [fl, Fd.cells] using this)]
  simpa [fl, Fd.cells] using hv
theorem mm_lda {o j : Nat} {ls : List Value} {v : Value} {putA : List Value → List Fd} (h : Mem H w0 L w) [cc : ShpC P t false 1] [k : AtB L g t' fs put] [s : SubA fs o n ls putA] (hv : ls[j]? = some v) (hk : K v w) : mop P (o_load t (.pointer (some ⟨g, o + j, none⟩))) w K X := by
  obtain ⟨hb, hf⟩ := h.blf k
  exact mop_purW (pw_load1 cc.ok (by rw [hb.cell]; exact s.cell hf hv)) hk
theorem dm_lda {o j : Nat} {ls : List Value} {v : Value} {putA : List Value → List Fd} (h : Mem H w0 L w) [cc : ShpC P t false 1] [k : AtB L g t' fs put] [s : SubA fs o n ls putA] (hv : ls[j]? = some v) (hk : Kq v) : dq P w (o_load t (.pointer (some ⟨g, o + j, none⟩))) Kq := by
  obtain ⟨hb, hf⟩ := h.blf k
  exact dq_pur (fun _ hw => pw_load1 cc.ok (hw.cell (by rw [hb.cell]; exact s.cell hf hv))) hk
/-- append(row, block[..]...) of bytes. -/
theorem mm_appb (h : Mem H w0 L w) [cc : SliC P t e 1 by_] [k : AtR L A n cap e 1 (byts l) R] [cx : SliC P tx e' 1 by_] [b : AtB L g t' fs put] [q : Sub fs i m [.arr m (u8s l')]] (hb : n + m ≤ 9223372036854775807 ∧ (n + m) * by_ ≤ 140737488355328)
    (hk : ∀ A' cap' w', Mem H w0 (rowR e 1 A' (n + m) cap' (byts (l ++ l')) :: R) w' → K (.slice A' (n + m) cap') w') : mop P (o_builtin .append #[t, tx] ty ks [.slice A n cap, .slice (some ⟨g, i, none⟩) m c]) w K X := by
  obtain ⟨h1, h2⟩ := h.bytesF b q
  have hs : Src P 1 tx (.slice (some ⟨g, i, none⟩) m c) m (fls (byts l')) w := by
    rw [fls_byts]
    exact Src.ofSlice w cx.und ⟨g, i, none⟩ m c (u8s l') (by simp [u8s, h1]) (fun j u hu => by rw [Addr.add_lit]; exact h2 j u hu) (u8s_one l')
  refine mm_app h k hs (els_byts l') (by rw [byts_length, h1]) hb.1 hb.2 fun A' cap' w' h3 => hk A' cap' w' (by rwa [byts_app])
/-- append(row, text...) of bytes. -/
theorem mm_appt {s : ByteArray} (h : Mem H w0 L w) [cc : SliC P t e 1 by_] [k : AtR L A n cap e 1 (byts l) R] (hx : P.underlying tx = some .string) (hb : n + s.size ≤ 9223372036854775807 ∧ (n + s.size) * by_ ≤ 140737488355328)
    (hk : ∀ A' cap' w', Mem H w0 (rowR e 1 A' (n + s.size) cap' (byts (l ++ ints s)) :: R) w' → K (.slice A' (n + s.size) cap') w') : mop P (o_builtin .append #[t, tx] ty ks [.slice A n cap, .string s]) w K X := by
  have hs : Src P 1 tx (.string s) s.size (fls (byts (ints s))) w := by
    rw [fls_byts, ← u8s_ints]
    exact Src.ofString w hx s
  refine mm_app h k hs (els_byts (ints s)) (by rw [byts_length, ints_length]) hb.1 hb.2 fun A' cap' w' h3 => hk A' cap' w' (by rwa [byts_app])
theorem addr_add0 (a : Option Addr) : a.map (·.add 0) = a := by
  cases a with
  | none => rfl
  | some a => obtain ⟨b, o, s⟩ := a; rfl
/-- row[:h] -/
instance (a : Option Addr) (n cap : Nat) (kk : IntKind) (hh : Int) [cs : SliS P t sz] : StepC P (o_slice t (.slice a n cap) none (some (.int kk hh)) none) (0 ≤ hh ∧ hh ≤ cap) (.slice a hh.toNat cap) := ⟨fun ⟨h0, h1⟩ w => by
  have h2 := run_slice_h (P := P) w t a n cap cs.ok.1 kk hh h0 h1
  have h3 : (sizeOf (P.elem t)).run P w = .ok sz w := run_size cs.ok.2 w
  simp only [o_slice, sv, Sem.run_bind, run_sliceAt_slice w t _ _ _ _ cs.ok.1, h2, h3, Result.andThen_ok, sliced, Nat.zero_mul, addr_add0, ite_self, Nat.sub_zero]
  rfl⟩
/-- row[l:] -/
instance (b o n cap : Nat) (kk : IntKind) (ll : Int) [cs : SliS P t sz] : StepC P (o_slice t (.slice (some ⟨b, o, none⟩) n cap) (some (.int kk ll)) none none) (0 ≤ ll ∧ ll ≤ n ∧ ll < cap) (.slice (some ⟨b, o + ll.toNat * sz, none⟩) (n - ll.toNat) (cap - ll.toNat)) := ⟨fun ⟨h0, h1, h4⟩ w => by
  have h2 := run_slice_l (P := P) w t (some ⟨b, o, none⟩) n cap cs.ok.1 kk ll h0 h1
  have h3 : (sizeOf (P.elem t)).run P w = .ok sz w := run_size cs.ok.2 w
  have h5 : ¬ cap = ll.toNat := by omega
  simp only [o_slice, sv, Sem.run_bind, run_sliceAt_slice w t _ _ _ _ cs.ok.1, h2, h3, Result.andThen_ok, sliced, if_neg h5, Option.map_some, Addr.add_lit]
  rfl⟩
/-- row[:h:m] -/
instance (a : Option Addr) (n cap : Nat) (kk k2 : IntKind) (hh mx : Int) [cs : SliS P t sz] : StepC P (o_slice t (.slice a n cap) none (some (.int kk hh)) (some (.int k2 mx))) (0 ≤ hh ∧ hh ≤ mx ∧ mx ≤ cap) (.slice a hh.toNat mx.toNat) := ⟨fun ⟨h0, h1, h4⟩ w => by
  have h2 := run_slice_hm (P := P) w t a n cap cs.ok.1 kk k2 hh mx h0 h1 h4
  have h3 : (sizeOf (P.elem t)).run P w = .ok sz w := run_size cs.ok.2 w
  simp only [o_slice, sv, Sem.run_bind, run_sliceAt_slice w t _ _ _ _ cs.ok.1, h2, h3, Result.andThen_ok, sliced, Nat.zero_mul, addr_add0, ite_self, Nat.sub_zero]
  rfl⟩
end
/-- A channel's type; its elements' bytes. -/
class ChC (P : Program) (t : TypeId) (e : outParam TypeId) (by_ : outParam Nat) : Prop where
  ok : (∃ d, P.underlying t = some (.chan d e)) ∧ (P.info? e).map (·.bytes) = some by_
theorem chC_of {P : Program} {t e by_ : Nat} (h : (match P.underlying t with
    | some (.chan _ x) => Nat.beq x e
    | _ => false) = true) (h2 : (P.info? e).map (·.bytes) = some by_) : ChC P t e by_ := by
  refine ⟨?_, h2⟩
  split at h
  · rename_i d x hu
    rw [hu, Nat.eq_of_beq_eq_true h]
    exact ⟨d, rfl⟩
  · cases h
/-- A type's zero value. -/
class ZvC (P : Program) (t : TypeId) (z : outParam Value) : Prop where
  ok : (P.info? t).bind (·.zero) = some z
end Go.Proofs.Ytopcnkejobomaaa
