/- Regions in a drawn order whose effects turn what is owned, while other blocks are only read; rows from the middle of a block. No program is named here. -/
import Derived.Test.YtopcnkejobomaaaMgn
import Derived.LaidEql
namespace Go.Proofs.Ytopcnkejobomaaa
open Go.RowKit

/-- What is known of cells stays known. -/
def Rl.fz (K : Hp) : Rl := ⟨fun a b => Fz K a → Fz K b, fun _ h => h, fun h k x => k (h x), fun h x => x.ext h.ext⟩
/-- A block's cells beside what is frozen. -/
def hadd (H : Hp) (g : Nat) (cs : List Value) : Hp := fun k => if k = g then some cs.toArray else H k
section
variable {P : Program} {H H' K : Hp} {w0 w w' : World} {L L' R R' : List Res} {g i : Nat} {t t' : TypeId} {fs gs fs' : List Fd} {put : Res → List Res} {q : Bool} {n m cap e e' sz by_ : Nat} {v : Value} {Kt : Value → World → Prop} {X : List PanicEntry → World → Prop} {Kq : Value → Prop} {A : Option Addr} {ps qs : List (List Fd)}
theorem Fz.hadd {cs : List Value} (h : Fz H w) (b : Blf w g t cs) : Fz (hadd H g cs) w := fun k c hk => by
  unfold Go.Proofs.Ytopcnkejobomaaa.hadd at hk
  split at hk
  · rename_i e
    subst e
    cases hk
    obtain ⟨fr, hb, _⟩ := b
    exact ⟨t, fr, hb⟩
  · exact h k c hk
theorem hadd_le {cs : List Value} (h : H g = none) : H.le (hadd H g cs) := fun k c hk => by
  unfold hadd
  split
  · rename_i e
    subst e
    rw [h] at hk
    cases hk
  · exact hk
/-- A block of one's own beside what is frozen. -/
theorem Mem.free (h : Mem H w0 L w) [k : AtF L g t' fs R] : H g = none := by
  obtain ⟨B, ⟨B1, B2, rfl, ⟨_, rfl⟩, _⟩, _, hb⟩ := (h.perm k.perm).own
  exact (hb ⟨g, t', fl fs, true⟩ (by simp)).2
theorem Mem.fzAdd (h : Mem H w0 L w) (hK : Fz K w) (g : Nat) [k : AtF L g t' fs R] : Fz (hadd K g (fl fs)) w := by
  obtain ⟨B, ⟨B1, B2, rfl, ⟨_, rfl⟩, _⟩, hs, _⟩ := (h.perm k.perm).own
  exact hK.hadd (t := t') (hs.own ⟨g, t', fl fs, true⟩ (by simp)).blf
theorem FbF.add {fs : List Fd} (h : FOk fs) : FbF (hadd K g (fl fs)) g fs := ⟨h, (fl fs).toArray, by simp [hadd], fun j u hu => by simpa using hu⟩
theorem Fz.mono {w : World} (h : Fz H' w) (k : H.le H') : Fz H w := fun b c hb => h b c (k b c hb)
/-- What is frozen, and two blocks of one's own. -/
def K2 (H : Hp) (g : Nat) (fs : List Fd) (g2 : Nat) (fs2 : List Fd) : Hp := hadd (hadd H g (fl fs)) g2 (fl fs2)
theorem Mem.fz2 {t2 : Nat} {fs2 : List Fd} (h : Mem H' w0 L w) (hl : H.le H') (g g2 : Nat) [k : AtF L g t' fs R] [k2 : AtF R g2 t2 fs2 R'] : Fz (K2 H g fs g2 fs2) w := by
  obtain ⟨B, ⟨B1, B2, rfl, ⟨_, rfl⟩, B3, B4, rfl, ⟨_, rfl⟩, _⟩, hs, _⟩ := (h.perm (k.perm.trans (k2.perm.cons _))).own
  exact ((h.fz.mono hl).hadd (t := t') (hs.own ⟨g, t', fl fs, true⟩ (by simp)).blf).hadd (t := t2) (hs.own ⟨g2, t2, fl fs2, true⟩ (by simp)).blf
theorem Mem.fb2 {t2 : Nat} {fs2 : List Fd} (h : Mem H w0 L w) (g g2 : Nat) [k : AtF L g t' fs R] [k2 : AtF R g2 t2 fs2 R'] : FbF (K2 H g fs g2 fs2) g fs ∧ FbF (K2 H g fs g2 fs2) g2 fs2 ∧ H.le (K2 H g fs g2 fs2) := by
  obtain ⟨B, ⟨B1, B2, rfl, ⟨h1, rfl⟩, B3, B4, rfl, ⟨h2, rfl⟩, _⟩, hs, hb⟩ := (h.perm (k.perm.trans (k2.perm.cons _))).own
  have hne : g ≠ g2 := (List.pairwise_cons.1 hs.ne).1 ⟨g2, t2, fl fs2, true⟩ (by simp)
  have n1 : H g = none := (hb ⟨g, t', fl fs, true⟩ (by simp)).2
  have n2 : H g2 = none := (hb ⟨g2, t2, fl fs2, true⟩ (by simp)).2
  have n3 : (hadd H g (fl fs)) g2 = none := by
    unfold hadd
    rw [if_neg (fun e => hne e.symm)]
    exact n2
  exact ⟨(FbF.add h1).mono (hadd_le n3), FbF.add h2, (hadd_le n1).trans (hadd_le n3)⟩
theorem dK_ldf (hF : Fz K w) (h : FbF K g fs) [c : ShpC P t q n] [s : Sub fs i n gs] [f : Fv q gs v] (hk : Kq v) : dqS P (Rl.fz K) w (o_load t (.pointer (some ⟨g, i, none⟩))) Kq :=
  ⟨v, fun w' hw => by
    have := h.load (P := P) (t := t) (q := q) (hw hF) c s f
    unfold opq
    rw [this]
    exact ⟨rfl, Drawn.refl w'⟩, hk⟩
theorem dK_lds {b o k off : Nat} (hF : Fz K w) (a : Sl K sz (some ⟨b, o, none⟩) ps) [c : ShpC P t q n] (hp : ps[k]? = some fs) [s : Sub fs off n gs] [f : Fv q gs v] (hk : Kq v) : dqS P (Rl.fz K) w (o_load t (.pointer (some ⟨b, o + k * sz + off, none⟩))) Kq :=
  ⟨v, fun w' hw => by
    have := pw_elem (P := P) (w := w') a.els hp c s f (fun _ _ hu => a.cell (hw hF) hu)
    unfold opq
    rw [this]
    exact ⟨rfl, Drawn.refl w'⟩, hk⟩
theorem dK_lds0 {b o k : Nat} (hF : Fz K w) (a : Sl K sz (some ⟨b, o, none⟩) ps) [c : ShpC P t q n] (hp : ps[k]? = some fs) [s : Sub fs 0 n gs] [f : Fv q gs v] (hk : Kq v) : dqS P (Rl.fz K) w (o_load t (.pointer (some ⟨b, o + k * sz, none⟩))) Kq := dK_lds (off := 0) hF a hp hk
/-- A call on what is owned, while K is only read. -/
theorem dK_own {f : Nat} {args : List Value} {ext : Bool} {Q : Value → World → Prop} (h : Mem H w0 L w) [hf : FunC P f] (hc : ∀ w, Mem H w0 L w → Calls P f args.toArray w fun en w' => ∃ v, en = .returned v ∧ Q v w') (hk : ∀ v w', Q v w' → Fz K w' ∧ Kt v w') : dfS P (Rl.fz K) w (o_call (fv f) args) ext Kt :=
  ⟨fun w1 hd => mop_to (hc w1 (h.drawn hd)) fun en w' ⟨v, he, hq⟩ => by
    subst he
    exact ⟨fun _ _ => (hk v w' hq).1, (hk v w' hq).2⟩⟩
theorem dK_same {f : Nat} {args : List Value} {ext : Bool} (h : Mem H w0 L w) [hf : FunC P f] (hc : ∀ w, Mem H w0 L w → Calls P f args.toArray w fun en w' => en = .returned v ∧ w = w') (hF : Fz K w) (hk : ∀ w', Mem H w0 L w' → Fz K w' → Kt v w') : dfS P (Rl.fz K) w (o_call (fv f) args) ext Kt :=
  ⟨fun w1 hd => mop_to (hc w1 (h.drawn hd)) fun en w' ⟨he, hw⟩ => by
    subst he; subst hw
    exact ⟨fun _ _ => hF.ext hd.ext, hk w1 (h.drawn hd) (hF.ext hd.ext)⟩⟩
/-- A call that answers and makes memory. -/
theorem dK_call {f : Nat} {args : List Value} {ext : Bool} {Q : Hp → Value → Prop} (h : Mem H w0 L w) [hf : FunC P f] (hc : ∀ w, Mem H w0 L w → Calls P f args.toArray w (Outp H w Q)) (hF : Fz K w) (hk : ∀ H' v w', Le w0 H H' → Mem H' w0 L w' → Fz K w' → Q H' v → Kt v w') : dfS P (Rl.fz K) w (o_call (fv f) args) ext Kt :=
  ⟨fun w1 hd => mop_to (hc w1 (h.drawn hd)) fun en w' ⟨v, H', he, hl, hm, hq⟩ => by
    subst he
    have hx := hd.ext.trans hm.ext
    exact ⟨fun _ _ => hF.ext hx, hk H' v w' (hl.old (h.drawn hd).ext.size) ((h.drawn hd).call hm hl.new) (hF.ext hx) hq⟩⟩
theorem dK_pure {f : Nat} {args : List Value} {ext : Bool} (h : Mem H w0 L w) [hf : FunC P f] (hc : ∀ w, Mem H w0 L w → Calls P f args.toArray w fun en w' => en = .returned v ∧ St w [] w') (hF : Fz K w) (hk : ∀ w', Mem H w0 L w' → Fz K w' → Kt v w') : dfS P (Rl.fz K) w (o_call (fv f) args) ext Kt :=
  ⟨fun w1 hd => mop_to (hc w1 (h.drawn hd)) fun en w' ⟨he, hs⟩ => by
    subst he
    have hx : Ext w w' := hd.ext.trans (hs.only.mono fun _ _ ⟨_, hm, _⟩ => by cases hm)
    exact ⟨fun _ _ => hF.ext hx, hk w' ((h.drawn hd).call0 hs) (hF.ext hx)⟩⟩
/-- A block's fields told otherwise. -/
theorem Mem.refd {fs' : List Fd} (h : Mem H w0 (fb g t fs :: L) w) (he : fl fs = fl fs') (hf : FOk fs') : Mem H w0 (fb g t fs' :: L) w := by
  have : Mem H w0 ([fb g t fs'] ++ L) w := h.imp fun B ⟨_, hb⟩ => ⟨B, [], by simp, ⟨hf, by rw [hb, he]⟩, rfl⟩
  exact this
/-! ### Pointers to different blocks -/
theorem sameAddr_ne {a b : Nat} {ta tb : TypeId} {ca cb : List Value} (hne : a ≠ b) (ha : Blf w a ta ca) (hb : Blf w b tb cb) (h8 : ta ≠ 5 ∧ tb ≠ 5) : (sameAddr ⟨a, 0, none⟩ ⟨b, 0, none⟩).run P w = .ok false w := by
  obtain ⟨fa, ha, ha'⟩ := ha
  obtain ⟨fb, hb, hb'⟩ := hb
  obtain rfl : fa = (0, 0) := ha'.resolve_right fun h => h8.1 h.2
  obtain rfl : fb = (0, 0) := hb'.resolve_right fun h => h8.2 h.2
  exact run_sameAddr_other w (fun h => hne (congrArg Addr.block h)) ha hb
theorem Mem.neF {g2 : Nat} {t2 : TypeId} {fs2 : List Fd} (h : Mem H w0 L w) (k : AtF L g t fs R) (k2 : AtF R g2 t2 fs2 R') : g ≠ g2 ∧ Blf w g t (fl fs) ∧ Blf w g2 t2 (fl fs2) := by
  obtain ⟨B, ⟨B1, B2, rfl, ⟨_, rfl⟩, B3, B4, rfl, ⟨_, rfl⟩, _⟩, hs, _⟩ := (h.perm (k.perm.trans (k2.perm.cons _))).own
  refine ⟨?_, (hs.own ⟨g, t, fl fs, true⟩ (by simp)).blf, (hs.own ⟨g2, t2, fl fs2, true⟩ (by simp)).blf⟩
  have := (List.pairwise_cons.1 hs.ne).1 ⟨g2, t2, fl fs2, true⟩ (by simp)
  exact this
theorem run_equalIn_ptr (d : Nat) {tt e : TypeId} {a b : Addr} {r : Bool} {i : TypeInfo} (ht : P.underlying tt = some (.pointer e)) (hi : P.info? e = some i) (hz : i.size ≠ 0) (hs : (sameAddr a b).run P w = .ok r w) : (Op.equalIn (d + 1) tt (.pointer (some a)) (.pointer (some b))).run P w = .ok r w := by
  simp [Op.equalIn, run_underlying ht, sizeOf, typeInfo, hi, hz, hs]
theorem mop_pne {g2 tt e : Nat} {t2 : TypeId} {fs2 : List Fd} {cc : Bool} (h : Mem H w0 L w) [k : AtF L g t fs R] [k2 : AtF R g2 t2 fs2 R'] (ht : P.underlying tt = some (.pointer e)) (hz : ((P.info? e).map fun i => Nat.beq i.size 0) = some false) (h8 : t ≠ 5 ∧ t2 ≠ 5) (hk : Kt (.bool false) w) :
    mop P (o_bin .eql tt cc (.pointer (some ⟨g, 0, none⟩)) (.pointer (some ⟨g2, 0, none⟩))) w Kt X := by
  obtain ⟨h1, h2, h3⟩ := h.neF k k2
  have hs := sameAddr_ne (P := P) h1 h2 h3 h8
  obtain ⟨i, hi, hz⟩ := Option.map_eq_some_iff.1 hz
  have hz : i.size ≠ 0 := fun e => by rw [e] at hz; cases hz
  refine mop_run (run_o_eql (b := false) (fun _ _ => by simp only [eqGuard]; rfl) (by simp only [binOp]) (run_equalIn_ptr 9999 ht hi hz hs)) hk
/-! ### Rows from the middle of a block -/
/-- A slice of the call's own, from wherever in its block; or nil. -/
def rowO (e sz : Nat) (A : Option Addr) (n cap : Nat) (ps : List (List Fd)) : Res := fun B => Els sz ps ∧ ps.length = n ∧
  ((A = none ∧ n = 0 ∧ cap = 0 ∧ B = []) ∨ ∃ g pre sp, A = some ⟨g, pre.length, none⟩ ∧ B = [⟨g, e, pre ++ (fls ps ++ sp), true⟩] ∧ cap * sz ≤ (fls ps ++ sp).length ∧ n ≤ cap ∧ cap ≤ maxLen)
class AtO (L : List Res) (A : Option Addr) (n cap : Nat) (e sz : outParam Nat) (ps : outParam (List (List Fd))) (R : outParam (List Res)) : Prop where
  perm : L.Perm (rowO e sz A n cap ps :: R)
instance (L : List Res) (A : Option Addr) (n cap e sz : Nat) (ps : List (List Fd)) : AtO (rowO e sz A n cap ps :: L) A n cap e sz ps L := ⟨.refl _⟩
instance (priority := 900) (L R : List Res) (A : Option Addr) (n cap e sz : Nat) (ps : List (List Fd)) (x : Res) [h : AtO L A n cap e sz ps R] : AtO (x :: L) A n cap e sz ps (x :: R) := ⟨(h.perm.cons x).trans (.swap ..)⟩
theorem Mem.toO (h : Mem H w0 (rowR e sz A n cap ps :: R) w) : Mem H w0 (rowO e sz A n cap ps :: R) w := by
  have : Mem H w0 ([rowO e sz A n cap ps] ++ R) w := h.imp fun B ⟨h1, h2, h3⟩ => ⟨B, [], by simp, ⟨h1, h2, by
    rcases h3 with h3 | ⟨g, sp, h4, h5, h6, h7⟩
    · exact .inl h3
    · exact .inr ⟨g, [], sp, h4, by simpa using h5, by omega, h7⟩⟩, rfl⟩
  exact this
theorem Mem.rowO0 (h : Mem H w0 L w) (e sz : Nat) : Mem H w0 (rowO e sz none 0 0 [] :: L) w := (h.row0 e sz).toO
theorem Mem.oLen (h : Mem H w0 L w) (k : AtO L A n cap e sz ps R) : ps.length = n ∧ n ≤ cap ∧ cap ≤ maxLen ∧ Els sz ps := by
  obtain ⟨B, ⟨B1, B2, rfl, ⟨h1, h2, h3⟩, _⟩, _⟩ := (h.perm k.perm).own
  rcases h3 with ⟨_, rfl, rfl, _⟩ | ⟨g, pre, sp, _, _, _, h4, h5⟩
  · exact ⟨h2, by simp, by simp, h1⟩
  · exact ⟨h2, h4, h5, h1⟩
theorem Mem.oAt (h : Mem H w0 L w) (k : AtO L A n cap e sz ps R) (hn : 0 < n) : ∃ g o, A = some ⟨g, o, none⟩ := by
  obtain ⟨B, ⟨B1, B2, rfl, ⟨_, _, h3⟩, _⟩, _⟩ := (h.perm k.perm).own
  rcases h3 with ⟨_, rfl, _⟩ | ⟨g, pre, sp, hA, _⟩
  · omega
  · exact ⟨g, _, hA⟩
theorem Mem.oCells {o : Nat} (h : Mem H w0 L w) (k : AtO L (some ⟨g, o, none⟩) n cap e sz ps R) : Els sz ps ∧ ps.length = n ∧ ∀ j u, (fls ps)[j]? = some u → w.cell? ⟨g, o + j, none⟩ = some u := by
  obtain ⟨B, ⟨B1, B2, rfl, ⟨h2, h3, h4⟩, _⟩, hs, _⟩ := (h.perm k.perm).own
  rcases h4 with ⟨hA, _⟩ | ⟨g', pre, sp, hA, rfl, h5, _⟩
  · cases hA
  · cases hA
    refine ⟨h2, h3, fun j u hu => ?_⟩
    have := hs.own ⟨g, e, pre ++ (fls ps ++ sp), true⟩ (by simp)
    rw [this.cell]
    simp only
    rw [List.getElem?_append_right (by omega), show pre.length + j - pre.length = j by omega, List.getElem?_append_left (List.getElem?_eq_some_iff.1 hu).1]
    exact hu
class AtOA (L : List Res) (A : Option Addr) (n cap e sz : outParam Nat) (ps : outParam (List (List Fd))) (R : outParam (List Res)) : Prop where
  perm : L.Perm (rowO e sz A n cap ps :: R)
instance (L : List Res) (A : Option Addr) (n cap e sz : Nat) (ps : List (List Fd)) : AtOA (rowO e sz A n cap ps :: L) A n cap e sz ps L := ⟨.refl _⟩
instance (priority := 900) (L R : List Res) (A : Option Addr) (n cap e sz : Nat) (ps : List (List Fd)) (x : Res) [h : AtOA L A n cap e sz ps R] : AtOA (x :: L) A n cap e sz ps (x :: R) := ⟨(h.perm.cons x).trans (.swap ..)⟩
theorem mm_ldo {o k off : Nat} (h : Mem H w0 L w) [a : AtOA L (some ⟨g, o, none⟩) m cap e sz ps R] [c : ShpC P t q n] (hp : ps[k]? = some fs) [s : Sub fs off n gs] [f : Fv q gs v] (hk : Kt v w) : mop P (o_load t (.pointer (some ⟨g, o + k * sz + off, none⟩))) w Kt X := by
  obtain ⟨h1, h2, h3⟩ := h.oCells ⟨a.perm⟩
  exact mop_purW (pw_elem h1 hp c s f h3) hk
theorem mm_ldo0 {o k : Nat} (h : Mem H w0 L w) [a : AtOA L (some ⟨g, o, none⟩) m cap e sz ps R] [c : ShpC P t q n] (hp : ps[k]? = some fs) [s : Sub fs 0 n gs] [f : Fv q gs v] (hk : Kt v w) : mop P (o_load t (.pointer (some ⟨g, o + k * sz, none⟩))) w Kt X := mm_ldo (off := 0) h hp hk
theorem mm_ixo {ii : Int} {kk : IntKind} (h : Mem H w0 L w) [c : SliS P t sz] [k : AtO L A n cap e sz ps R] (hi : 0 ≤ ii ∧ ii < n) (hk : ∀ g o, A = some ⟨g, o, none⟩ → Kt (.pointer (some ⟨g, o + ii.toNat * sz, none⟩)) w) : mop P (o_indexAddr t (.slice A n cap) (.int kk ii)) w Kt X := by
  obtain ⟨g, o, rfl⟩ := h.oAt k (by omega)
  exact mop_pur (p_indexAddr_slice t g o n cap kk ii sz c.ok.1 c.ok.2 hi.1 hi.2) (hk g o rfl)
/-- row[1:] -/
theorem mm_tlo {kk : IntKind} {p : List Fd} (h : Mem H w0 L w) [c : SliS P t sz] [k : AtO L A n cap e sz (p :: ps) R] (hn : n = ps.length + 1) (hk : ∀ A' cap', Mem H w0 (rowO e sz A' ps.length cap' ps :: R) w → Kt (.slice A' ps.length cap') w) : mop P (o_slice t (.slice A n cap) (some (.int kk 1)) none none) w Kt X := by
  subst hn
  obtain ⟨h1, h2, h3, h4⟩ := h.oLen k
  obtain ⟨g, o, rfl⟩ := h.oAt k (by omega)
  have hp := h4.ok p (by simp)
  have hpl : (fl p).length = sz := by rw [hp.1.len, hp.2]
  have h5 := run_slice_l (P := P) w t (some ⟨g, o, none⟩) (ps.length + 1) cap c.ok.1 kk 1 (by omega) (by omega)
  have h6 : (sizeOf (P.elem t)).run P w = .ok sz w := run_size c.ok.2 w
  obtain ⟨B, ⟨B1, B2, rfl, ⟨k1, k2, k3⟩, k4⟩, hs, hb⟩ := (h.perm k.perm).own
  rcases k3 with ⟨hA, _⟩ | ⟨g', pre, sp, hA, rfl, k5, k6, k7⟩
  · cases hA
  cases hA
  have k1' : Els sz ps := ⟨fun x hx => k1.ok x (List.mem_cons_of_mem _ hx)⟩
  rw [fls_cons, List.append_assoc, List.length_append, hpl] at k5
  by_cases hc : cap = 1
  · subst hc
    refine mop_run (w' := w) (u := .slice (some ⟨g, pre.length, none⟩) ps.length 0) ?_ (hk _ _ ⟨⟨⟨g, e, pre ++ (fls (p :: ps) ++ sp), true⟩ :: B2, ⟨[_], B2, rfl, ⟨k1', rfl, .inr ⟨g, pre, fl p ++ sp, rfl, ?_, by simp, by omega, by simp⟩⟩, k4⟩, hs, hb⟩, h.fz⟩)
    · simp only [o_slice, sv, Sem.run_bind, run_sliceAt_slice w t _ _ _ _ c.ok.1, h5, h6, Result.andThen_ok, sliced]
      simp
    · have : ps = [] := List.eq_nil_of_length_eq_zero (by omega)
      subst this
      simp [fls_cons, fls_nil]
  · refine mop_run (w' := w) (u := .slice (some ⟨g, pre.length + sz, none⟩) ps.length (cap - 1)) ?_ (hk _ _ ⟨⟨⟨g, e, pre ++ (fls (p :: ps) ++ sp), true⟩ :: B2, ⟨[_], B2, rfl, ⟨k1', rfl, .inr ⟨g, pre ++ fl p, sp, by rw [List.length_append, hpl], ?_, ?_, by omega, by omega⟩⟩, k4⟩, hs, hb⟩, h.fz⟩)
    · have h7 : ¬ cap = (1 : Int).toNat := by simpa using hc
      simp only [o_slice, sv, Sem.run_bind, run_sliceAt_slice w t _ _ _ _ c.ok.1, h5, h6, Result.andThen_ok, sliced, if_neg h7, Option.map_some, Addr.add_lit]
      simp
    · rw [fls_cons, List.append_assoc, List.append_assoc]
    · obtain ⟨c', rfl⟩ : ∃ c', cap = c' + 1 := ⟨cap - 1, by omega⟩
      rw [Nat.add_mul] at k5
      simp only [Nat.add_sub_cancel]
      omega
/-- append(row, other...): the other one's own; it is dropped. -/
theorem mm_appO {capx ex tx ty : Nat} {B : Option Addr} {ks : List Bool} (h : Mem H w0 L w) [c : SliC P t e sz by_] [k : AtO L A n cap e sz ps R] [k' : AtR R B m capx ex sz qs R'] [cx : SliC P tx e' sz by_] (hb : n + m ≤ 9223372036854775807 ∧ (n + m) * by_ ≤ 140737488355328)
    (hk : ∀ A' cap' w', Mem H w0 (rowO e sz A' (n + m) cap' (ps ++ qs) :: R') w' → Kt (.slice A' (n + m) cap') w') : mop P (o_builtin .append #[t, tx] ty ks [.slice A n cap, .slice B m capx]) w Kt X := by
  have h2 := h.perm k.perm
  have kx : AtR (rowO e sz A n cap ps :: R) B m capx ex sz qs (rowO e sz A n cap ps :: R') := ⟨(k'.perm.cons _).trans (.swap ..)⟩
  obtain ⟨hqm, _, _, hq⟩ := h2.rowLen kx
  have hs := h2.src kx cx.und capx
  have h3 : Mem H w0 (rowO e sz A n cap ps :: R') w := (h2.perm kx.perm).drop
  obtain ⟨ht, i, z, hi, hz, z1, z2, z3⟩ := sli_spec c.ok
  subst z1
  subst z2
  obtain ⟨hn, hnc, hcm, he⟩ := h3.oLen ⟨.refl _⟩
  have hfl : (fls ps).length = n * i.size := by rw [he.len, hn]
  have hql : (fls qs).length = m * i.size := by rw [hq.len, hqm]
  have hrun : ∀ v w', (Builtin.append_ #[t, tx] ty #[.slice A n cap, .slice B m capx]).run P w = .ok v w' → (o_builtin .append #[t, tx] ty ks [.slice A n cap, .slice B m capx]).run P w = .ok (.value v) w' := fun v w' h => by
    simp [o_builtin, invoke, builtin, h]
  obtain ⟨Bs, ⟨B1, B2, rfl, ⟨k1, k2, k3⟩, k4⟩, hst, hbn⟩ := h3.own
  by_cases hroom : n + m ≤ cap
  · rcases k3 with ⟨rfl, rfl, rfl, rfl⟩ | ⟨g, pre, sp, rfl, rfl, k5, k6, k7⟩
    · have hm : m = 0 := by omega
      subst hm
      have hq0 : qs = [] := List.eq_nil_of_length_eq_zero hqm
      subst hq0
      refine mop_run (hrun (.slice none 0 0) w ?_) (hk none 0 w (by simpa using h3))
      have hc := hs.cells
      rcases hs.kind with ⟨e', hk⟩ | hk <;> simp [Builtin.append_, run_underlying ht, run_underlying hk, sizeOf, typeInfo, hi, hs.len, hc, fls]
    · have hst : St w0 (⟨g, e, pre ++ (fls ps ++ sp), true⟩ :: B2) w := hst
      have hcap : (n + m) * i.size ≤ cap * i.size := Nat.mul_le_mul_right _ hroom
      rw [Nat.add_mul] at hcap
      rw [List.length_append, hfl] at k5
      have hfit : pre.length + n * i.size + (fls qs).length ≤ (pre ++ (fls ps ++ sp)).length := by simp only [List.length_append, hfl, hql]; omega
      have hst2 := run_storeCells_blf (P := P) (pre.length + n * i.size) (fls qs) 0 (pre ++ (fls ps ++ sp)) w hst.head hfit hq.one
      simp only [Nat.add_zero] at hst2
      have hlay : lay (pre ++ (fls ps ++ sp)) (fls qs) (pre.length + n * i.size) = pre ++ (fls (ps ++ qs) ++ sp.drop (m * i.size)) := by
        unfold lay
        rw [fls_app, ← hfl, ← List.append_assoc pre, ← List.length_append, List.take_left' rfl, List.drop_append, List.length_append, hql]
        rw [List.drop_eq_nil_of_le (by simp), List.nil_append]
        rw [show (pre.length + (fls ps).length + m * i.size - (pre.length + (fls ps).length)) = m * i.size by omega]
        simp
      have hg := hbn ⟨g, e, pre ++ (fls ps ++ sp), true⟩ (by simp)
      have hl2 : (pre ++ (fls (ps ++ qs) ++ sp.drop (m * i.size))).length = (pre ++ (fls ps ++ sp)).length := by rw [← hlay]; exact lay_length _ _ _ hfit
      refine mop_run (hrun (.slice (some ⟨g, pre.length, none⟩) (n + m) cap) (w.setRow g (pre ++ (fls (ps ++ qs) ++ sp.drop (m * i.size))).toArray) ?_) (hk _ _ _ ⟨⟨⟨g, e, pre ++ (fls (ps ++ qs) ++ sp.drop (m * i.size)), true⟩ :: B2, ⟨[_], B2, rfl, ⟨k1.app hq, by simp [k2, hqm], .inr ⟨g, pre, sp.drop (m * i.size), rfl, rfl, ?_, hroom, k7⟩⟩, k4⟩, hst.setRow hl2, fun b hm => ?_⟩, h.fz.same fun b c hc => setRow_other w g b _ ?_⟩)
      · rw [← hlay]
        rcases hs.kind with ⟨e', hk⟩ | hk <;> simp [Builtin.append_, run_underlying ht, run_underlying hk, sizeOf, typeInfo, hi, hs.len, hroom, hs.cells, Addr.add_lit, hst2]
      · rw [List.length_append, fls_app, List.length_append, hfl, hql, List.length_drop]
        omega
      · rcases List.mem_cons.1 hm with rfl | hm
        · exact ⟨rfl, hg.2⟩
        · exact hbn b (List.mem_append.2 (.inr hm))
      · rintro rfl
        have := hg.2
        simp only [hc] at this
        cases this
  · have hfx : (Builtin.firstCells i.size n (.slice A n cap)).run P w.drew = .ok (fls ps).toArray w.drew := by
      rcases k3 with ⟨rfl, rfl, rfl, _⟩ | ⟨b, pre, sp, rfl, rfl, _⟩
      · have : ps = [] := List.eq_nil_of_length_eq_zero k2
        subst this
        simp [Builtin.firstCells, fls]
      · exact run_firstCells_some w.drew i.size n ⟨b, pre.length, none⟩ n cap (fls ps) hfl (fun j u hu => by
          rw [Addr.add_lit]
          exact (h3.oCells (g := b) (o := pre.length) ⟨.refl _⟩).2.2 j u hu)
    have hgm : grownCap w (n + m) cap e ≤ maxLen := grownCap_le_maxLen w (n + m) cap e (by simp only [maxLen]; omega)
    have hge := grownCap_ge w (n + m) cap e
    have hd : Drawn w w.drew := ⟨1, rfl⟩
    have h4 := (h3.drop).drawn hd
    have e1 : (fls ps ++ fls qs).toArray ++ Builtin.zeroCells z.cells (grownCap w (n + m) cap e - (n + m)) = (fls (ps ++ qs) ++ (Builtin.zeroCells z.cells (grownCap w (n + m) cap e - (n + m))).toList).toArray := by
      apply Array.ext'
      simp [fls_app]
    obtain ⟨B, hl, hs4, hb4⟩ := h4.own
    refine mop_run (hrun (.slice (some ⟨w.heap.size, 0, none⟩) (n + m) (grownCap w (n + m) cap e)) (w.drew.alloc (.cells ((fls ps ++ fls qs).toArray ++ Builtin.zeroCells z.cells (grownCap w (n + m) cap e - (n + m))) e)) ?_) (hk _ _ _ ?_)
    · exact run_append_grow_src (P := P) w t tx ty e i z ht hi hz A n cap (fls ps) hfx _ m (fls qs) hs (by omega) (by omega) (growslice_fits (by omega) hb.2)
    · rw [e1]
      refine ⟨⟨⟨w.heap.size, e, fls (ps ++ qs) ++ (Builtin.zeroCells z.cells (grownCap w (n + m) cap e - (n + m))).toList, true⟩ :: B, ⟨[_], B, rfl, ⟨k1.app hq, by simp [k2, hqm], .inr ⟨w.heap.size, [], (Builtin.zeroCells z.cells (grownCap w (n + m) cap e - (n + m))).toList, rfl, by simp, ?_, hge, hgm⟩⟩, hl⟩, hs4.alloc e _, fun b hm => ?_⟩, h4.fz.ext ((Only.refl _ _).alloc _)⟩
      · simp only [List.length_append, Array.length_toList, size_zeroCells, z3, fls_app, hfl, hql]
        rw [← Nat.add_mul, ← Nat.add_mul]
        exact Nat.mul_le_mul_right _ (by omega)
      · rcases List.mem_cons.1 hm with rfl | hm
        · refine ⟨rfl, ?_⟩
          cases hh : H w.heap.size with
          | none => rfl
          | some c => have := h.fz.lt hh; omega
        · exact hb4 b hm
end
end Go.Proofs.Ytopcnkejobomaaa
