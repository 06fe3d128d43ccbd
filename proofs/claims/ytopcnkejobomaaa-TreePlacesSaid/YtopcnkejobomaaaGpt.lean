/- New keys above a leaf, plainly. -/
import Derived.Test.YtopcnkejobomaaaGhs
namespace Go.Proofs.Ytopcnkejobomaaa
open Go.RowKit Go.Lib

abbrev sabove : List Int := [97, 98, 111, 118, 101]
/-- The nodes from which the way goes on: the leaf, and all on the way. -/
def wNode (pl : Int) (way : List Int) : Nat → Int
  | 0 => 2 * pl
  | m + 1 => way.getD m 0
/-- What is said at a step of the way; f: so many steps to the root. -/
def sdR (t : Tr) (pl : Int) (way : List Int) (keys : List H32) : Nat → Nat → H32
  | 0, _ => hzero
  | f + 1, m => shaH (sabove ++ ((keys.getD m hzero).1 ++ (sdR t pl way keys f (m + 1)).1 ++ (hAt 8 t (bs t.size (wNode pl way m))).1))
def sd (t : Tr) (pl : Int) (way : List Int) (keys : List H32) (m : Nat) : H32 := sdR t pl way keys (way.length - m) m
theorem sd_end {t : Tr} {pl : Int} {way : List Int} {keys : List H32} : sd t pl way keys way.length = hzero := by
  unfold sd
  rw [Nat.sub_self]
  rfl
theorem sd_step {t : Tr} {pl : Int} {way : List Int} {keys : List H32} {m : Nat} (h : m < way.length) : sd t pl way keys m = shaH (sabove ++ ((keys.getD m hzero).1 ++ (sd t pl way keys (m + 1)).1 ++ (hAt 8 t (bs t.size (wNode pl way m))).1)) := by
  unfold sd
  obtain ⟨f, hf⟩ : ∃ f, way.length - m = f + 1 := ⟨way.length - m - 1, by omega⟩
  have hf2 : way.length - (m + 1) = f := by omega
  rw [hf, hf2]
  rfl
def newP (t : Tr) (pl : Int) (way : List Int) (keys : List H32) (i : Nat) : Pn := ⟨true, keys.getD i hzero, sd t pl way keys (i + 1), []⟩
def wIdx (way : List Int) (k : Nat) : Nat := way.findIdx fun x => decide (x = 2 * (k : Int) + 1)
def pthPs (way : List Int) (nw : Nat → Pn) (D : Nat → Bool) (ps : List Pn) : List Pn := ps.mapIdx fun k p => if wIdx way k < way.length ∧ D (wIdx way k) = true then nw (wIdx way k) else p
theorem wIdx_at {way : List Int} (hn : way.Nodup) {i : Nat} (hi : i < way.length) {k : Nat} (hk : way[i] = 2 * (k : Int) + 1) : wIdx way k = i :=
  findIdx_at hi (fun j hj hji => decide_eq_false fun e => by
    have := (List.getElem_inj hn).1 (e.trans hk.symm)
    omega) (decide_eq_true hk)
theorem wIdx_get {way : List Int} {k : Nat} (h : wIdx way k < way.length) : way[wIdx way k] = 2 * (k : Int) + 1 := by
  have := List.findIdx_getElem (p := fun x => decide (x = 2 * (k : Int) + 1)) (xs := way) (w := h)
  simp only [decide_eq_true_eq] at this
  exact this
theorem pthPs_set {way : List Int} {nw : Nat → Pn} {D D' : Nat → Bool} {ps : List Pn} (hn : way.Nodup) {i : Nat} (hi : i < way.length) (hw : way[i] = 2 * (way[i] / 2) + 1 ∧ 0 ≤ way[i] / 2) (hD : ∀ j, j < way.length → (D' j = true ↔ D j = true ∨ j = i)) :
    (pthPs way nw D ps).set (way[i] / 2).toNat (nw i) = pthPs way nw D' ps := by
  unfold pthPs
  refine List.ext_getElem (by simp) fun k h1 h2 => ?_
  simp only [List.getElem_set, List.getElem_mapIdx]
  by_cases e : (way[i] / 2).toNat = k
  · have hk : way[i] = 2 * (k : Int) + 1 := by omega
    have hx := wIdx_at hn hi hk
    rw [if_pos e, hx, if_pos ⟨hi, (hD i hi).2 (.inr rfl)⟩]
  · rw [if_neg e]
    by_cases h : wIdx way k < way.length
    · have hne : wIdx way k ≠ i := fun h3 => by
        have := wIdx_get h
        simp only [h3] at this
        omega
      have := hD _ h
      by_cases h4 : D (wIdx way k) = true
      · rw [if_pos ⟨h, h4⟩, if_pos ⟨h, this.2 (.inl h4)⟩]
      · rw [if_neg fun h5 => h4 h5.2, if_neg fun h5 => (this.1 h5.2).elim h4 hne]
    · rw [if_neg fun h3 => h h3.1, if_neg fun h3 => h h3.1]
theorem pthPs_none {way : List Int} {nw : Nat → Pn} {D : Nat → Bool} {ps : List Pn} (hD : ∀ j, j < way.length → D j = false) : pthPs way nw D ps = ps := by
  unfold pthPs
  refine List.ext_getElem (by simp) fun k h1 h2 => ?_
  simp only [List.getElem_mapIdx]
  rw [if_neg]
  intro h
  rw [hD _ h.1] at h
  cases h.2
/-- A tree with new keys above a leaf, and an error's number. -/
def Tr.pathR (t : Tr) (pl : Int) (pub : H32) (keys : List H32) : Tr × Int :=
  if t.nobody pl then (Tr.none, 7) else if (dirL t.size pl).length ≠ keys.length then (Tr.none, 16) else
  (⟨t.ls.modify pl.toNat (·.key pub (sd t pl (dirL t.size pl) keys 0)), pthPs (dirL t.size pl) (newP t pl (dirL t.size pl) keys) (fun _ => true) t.ps⟩, 0)
def Tr.pathP (t : Tr) (pl : Int) (pub : H32) (keys : List H32) : Tr × Int := if ¬ t.right = true then (Tr.none, 1) else t.pathR pl pub keys
end Go.Proofs.Ytopcnkejobomaaa
/- What a hash hangs on; trees with new keys stay right. -/
namespace Go.Proofs.Ytopcnkejobomaaa
open Go.RowKit Go.Lib

theorem fro_til {n x : Int} (h : thr n x) : fro n x < til n x := by
  have := fd_eq h
  have h1 : fro n x = (fd n x).1 := if_pos h
  have h2 : til n x = (fd n x).1 + (fd n x).2.1 := if_pos h
  omega
theorem hld_kids {n x p : Int} (h : thr n x) (ho : x % 2 = 1) : hld n x p ↔ hld n (lf n x) p ∨ hld n (rt n x) p := by
  obtain ⟨⟨t1, t2⟩, -, ⟨e1, e2, e3⟩, -⟩ := lr_eq h ho
  have := fro_til t1
  have := fro_til t2
  unfold hld
  omega
theorem hAt_same {t t' : Tr} {p : Int} (hl : t'.ls = t.ls) (hp : ∀ i : Nat, ¬ hld t.size (2 * i + 1) p → t'.ps[i]? = t.ps[i]?) : ∀ (f : Nat) (x : Int), thr t.size x → ¬ hld t.size x p → hAt f t' x = hAt f t x := by
  have hsz : t'.size = t.size := by unfold Tr.size; rw [hl]
  have hla : ∀ i, leafAt t' i = leafAt t i := fun i => by unfold leafAt; rw [hl]
  intro f
  induction f with
  | zero =>
    intro x _ _
    rw [hAt, hAt, hla]
  | succ f ih =>
    intro x ht hx
    rw [hAt, hAt, hla, hsz]
    by_cases he : x % 2 = 0
    · rw [if_pos he, if_pos he]
    · rw [if_neg he, if_neg he]
      have ho : x % 2 = 1 := by omega
      obtain ⟨⟨t1, t2⟩, -⟩ := lr_eq ht ho
      have hk := mt (hld_kids (p := p) ht ho).2 hx
      rw [not_or] at hk
      have hpa : parAt t' (x / 2) = parAt t (x / 2) := by
        have hx0 := ht.2.1
        have e : 2 * (((x / 2).toNat : Nat) : Int) + 1 = x := by omega
        have := hp (x / 2).toNat (by rw [e]; exact hx)
        unfold parAt
        rw [List.getD_eq_getElem?_getD, List.getD_eq_getElem?_getD, this]
      rw [hpa, ih _ t1 hk.1, ih _ t2 hk.2]
theorem side_ok {n z p : Int} (h : thr n z) (hh : hld n z p) (ha : 0 ≤ ab n z) : thr n (bs n z) ∧ ¬ hld n (bs n z) p := by
  obtain ⟨ho, hz⟩ := up_lr h ha
  have hta : thr n (ab n z) := ab_thr h (by omega)
  obtain ⟨⟨t1, t2⟩, -, ⟨e1, e2, e3⟩, b1, b2⟩ := lr_eq hta ho
  have := fro_til t1
  have := fro_til t2
  rcases hz with hz | hz
  · have hb : bs n z = rt n (ab n z) := by
      conv => lhs; rw [hz]
      exact b1
    rw [hb]
    refine ⟨t2, fun hr => ?_⟩
    rw [hz] at hh
    unfold hld at hh hr
    omega
  · have hb : bs n z = lf n (ab n z) := by
      conv => lhs; rw [hz]
      exact b2
    rw [hb]
    refine ⟨t1, fun hr => ?_⟩
    rw [hz] at hh
    unfold hld at hh hr
    omega
theorem dirF_nth {n : Int} : ∀ (f : Nat) (x : Int) (m : Nat) (h : m < (dirF f n x).length), (dirF f n x)[m] = ab n ((x :: dirF f n x)[m]'(by simp; omega)) ∧ 0 ≤ (dirF f n x)[m]
  | 0, x, m, h => by simp [dirF] at h
  | f + 1, x, m, h => by
    by_cases ha : ab n x < 0
    · simp [dirF, ha] at h
    · have e : dirF (f + 1) n x = ab n x :: dirF f n (ab n x) := by rw [dirF, if_neg ha]
      cases m with
      | zero =>
        simp only [e, List.getElem_cons_zero]
        exact ⟨trivial, by omega⟩
      | succ m =>
        have h' : m < (dirF f n (ab n x)).length := by rw [e] at h; simpa using h
        obtain ⟨h1, h2⟩ := dirF_nth f (ab n x) m h'
        simp only [e, List.getElem_cons_succ]
        exact ⟨h1, h2⟩
theorem wNode_eq {pl : Int} {way : List Int} {m : Nat} (h : m ≤ way.length) : wNode pl way m = (2 * pl :: way)[m]'(by simp; omega) := by
  cases m with
  | zero => rfl
  | succ m =>
    rw [wNode, List.getElem_cons_succ, List.getD_eq_getElem?_getD, List.getElem?_eq_getElem (by omega)]
    rfl
/-- The nodes on the way: they are there, hold the leaf, and what is beside them does not. -/
theorem way_ok {n pl : Int} (h : 0 ≤ pl ∧ pl < n ∧ n ≤ 64) {m : Nat} (hm : m < (dirL n pl).length) : thr n (wNode pl (dirL n pl) m) ∧ hld n (wNode pl (dirL n pl) m) pl ∧ thr n (bs n (wNode pl (dirL n pl) m)) ∧ ¬ hld n (bs n (wNode pl (dirL n pl) m)) pl := by
  have hd : dirL n pl = dirF 8 n (2 * pl) := if_pos ⟨h.1, h.2.1⟩
  have ht0 : thr n (2 * pl) := ⟨by omega, by omega, by omega⟩
  have hA : thr n (wNode pl (dirL n pl) m) ∧ hld n (wNode pl (dirL n pl) m) pl := by
    cases m with
    | zero =>
      obtain ⟨-, e1, e2⟩ := even_eq ht0 (by omega)
      refine ⟨ht0, ?_⟩
      show hld n (2 * pl) pl
      unfold hld
      omega
    | succ m =>
      have hw : wNode pl (dirL n pl) (m + 1) = (dirL n pl)[m] := by
        rw [wNode_eq (by omega), List.getElem_cons_succ]
      have hmem : (dirL n pl)[m] ∈ dirL n pl := List.getElem_mem _
      obtain ⟨-, h2, h3, h4⟩ := dir_mem h.2.2 hmem
      rw [hw]
      refine ⟨⟨by omega, by omega, by omega⟩, ?_⟩
      have e : (dirL n pl)[m] = 2 * ((((dirL n pl)[m] / 2).toNat : Nat) : Int) + 1 := by omega
      rw [e] at hmem ⊢
      exact (mem_dir h (by omega)).1 hmem
  have hab : 0 ≤ ab n (wNode pl (dirL n pl) m) := by
    have hm' : m < (dirF 8 n (2 * pl)).length := by rw [← hd]; exact hm
    obtain ⟨h1, h2⟩ := dirF_nth 8 (2 * pl) m hm'
    rw [wNode_eq (by omega)]
    simp only [hd]
    rw [← h1]
    exact h2
  exact ⟨hA.1, hA.2, side_ok hA.1 hA.2 hab⟩
theorem parB_of {n : Int} {ls : List Lf} : ∀ {x : Int} {ps : List Pn}, (∀ i (hi : i < ps.length), (ps[i].set = true ∨ ps[i].isZero) ∧ looseB n ls (x + 2 * i) none ps[i].loose = true) → parB n ls x ps = true
  | _, [], _ => rfl
  | x, p :: r, h => by
    have h0 := h 0 (by simp)
    have ih := parB_of (n := n) (ls := ls) (x := x + 2) (ps := r) fun i hi => by
      have := h (i + 1) (by simpa using hi)
      have e : x + 2 * ((i + 1 : Nat) : Int) = x + 2 + 2 * (i : Int) := by omega
      rw [e] at this
      simpa using this
    simp only [parB, Bool.and_eq_true, Bool.or_eq_true, decide_eq_true_eq]
    exact ⟨by simpa using h0, ih⟩
theorem Tr.Rt.par_new {t : Tr} (h : t.Rt) {ps : List Pn} (hl : ps.length = t.ps.length) (hp : ∀ i (hi : i < ps.length), ps[i] = t.ps[i]'(by omega) ∨ (ps[i].set = true ∧ ps[i].loose = [])) : Tr.Rt ⟨t.ls, ps⟩ := by
  refine ⟨⟨h.len.1, by rw [hl]; exact h.len.2⟩, h.leaves, parB_of fun i hi => ?_, h.last⟩
  have hi2 : i < ps.length := hi
  rcases hp i hi with e | ⟨e1, e2⟩
  · rw [e]
    exact parB_spec h.par i (by rw [← hl]; exact hi2)
  · rw [e2]
    exact ⟨.inl e1, rfl⟩
theorem pthPs_get {way : List Int} {nw : Nat → Pn} {D : Nat → Bool} {ps : List Pn} {i : Nat} (hi : i < (pthPs way nw D ps).length) : (pthPs way nw D ps)[i] = ps[i]'(by simpa [pthPs] using hi) ∨ ∃ j, j < way.length ∧ way[j]? = some (2 * (i : Int) + 1) ∧ (pthPs way nw D ps)[i] = nw j := by
  have e : (pthPs way nw D ps)[i]'hi = (if wIdx way i < way.length ∧ D (wIdx way i) = true then nw (wIdx way i) else ps[i]'(by simpa [pthPs] using hi)) := List.getElem_mapIdx ..
  rw [e]
  split
  · rename_i hc
    exact .inr ⟨wIdx way i, hc.1, by rw [List.getElem?_eq_getElem hc.1, wIdx_get hc.1], rfl⟩
  · exact .inl rfl
theorem pthPs_len {way : List Int} {nw : Nat → Pn} {D : Nat → Bool} {ps : List Pn} : (pthPs way nw D ps).length = ps.length := by simp [pthPs]
theorem Tr.Rt.pth {t : Tr} (h : t.Rt) {way : List Int} {nw : Nat → Pn} {D : Nat → Bool} (hn : ∀ j, (nw j).set = true ∧ (nw j).loose = []) : Tr.Rt ⟨t.ls, pthPs way nw D t.ps⟩ :=
  h.par_new pthPs_len fun i hi => (pthPs_get hi).imp id fun ⟨j, _, _, e⟩ => by rw [e]; exact hn j
/-- The hash beside the way is the old tree's. -/
theorem Tr.Rt.side_hash {t : Tr} (h : t.Rt) {pl : Int} (hb : 0 ≤ pl ∧ pl < t.size) {nw : Nat → Pn} {D : Nat → Bool} {m : Nat} (hm : m < (dirL t.size pl).length) :
    hAt 8 ⟨t.ls, pthPs (dirL t.size pl) nw D t.ps⟩ (bs t.size (wNode pl (dirL t.size pl) m)) = hAt 8 t (bs t.size (wNode pl (dirL t.size pl) m)) := by
  have hlen := h.len
  have hts : t.size = t.ls.length := rfl
  obtain ⟨-, -, h3, h4⟩ := way_ok (n := t.size) ⟨hb.1, hb.2, by omega⟩ hm
  refine hAt_same (t := t) (t' := ⟨t.ls, pthPs (dirL t.size pl) nw D t.ps⟩) rfl (fun i hi => ?_) 8 _ h3 h4
  show (pthPs (dirL t.size pl) nw D t.ps)[i]? = t.ps[i]?
  by_cases hi2 : i < t.ps.length
  · rw [List.getElem?_eq_getElem hi2, List.getElem?_eq_getElem (by rw [pthPs_len]; exact hi2)]
    rcases pthPs_get (way := dirL t.size pl) (nw := nw) (D := D) (ps := t.ps) (i := i) (by rw [pthPs_len]; exact hi2) with e | ⟨j, hj, hw, -⟩
    · rw [e]
    · exfalso
      have hmem : 2 * (i : Int) + 1 ∈ dirL t.size pl := List.mem_of_getElem? hw
      exact hi ((mem_dir ⟨hb.1, hb.2, by omega⟩ (by omega)).1 hmem)
  · rw [List.getElem?_eq_none (l := t.ps) (by omega), List.getElem?_eq_none (l := pthPs (dirL t.size pl) nw D t.ps) (by rw [pthPs_len]; omega)]
end Go.Proofs.Ytopcnkejobomaaa
/- New keys above a leaf: the program's walk. -/
namespace Go.Proofs.Ytopcnkejobomaaa
open Go.RowKit Go.Lib

abbrev babove : ByteArray := ByteArray.mk #[97, 98, 111, 118, 101]
theorem cat4 (a b c d : ByteArray) : cat [a, b, c, d] = ints a ++ (ints b ++ ints c ++ ints d) := by simp [cat]
section
variable {P : Program} {H : Hp} {w0 w : World} {L R : List Res} {n cap e sz : Nat} {A B : Option Addr} {a b : Nat} {t : Tr} {qs ps : List (List Fd)} {X : List Xp}
/-- A field of a row's element stored, in any order beside loads of other blocks. -/
theorem dS_stf {ext : Bool} {S : Nat → Prop} {R1 : List Res} {g k off m : Nat} {tt : TypeId} {q : Bool} {v : Value} {fs gs fs' : List Fd} {K : Value → World → Prop} (hg0 : S g) (h : Mem H w0 L w) [c : ShpC P tt q m] [a : AtA L (some ⟨g, 0, none⟩) n cap e sz ps R1] (hk : ps[k]? = some fs) [f : Vf v m gs] [p : Put fs off gs fs']
    (hK : ∀ w', Mem H w0 (rowR e sz (some ⟨g, 0, none⟩) n cap (ps.set k fs') :: R1) w' → K undef w') : dfS P (Rl.only S) w (o_store tt (.pointer (some ⟨g, 0 + k * sz + off, none⟩)) v) ext K := ⟨fun w1 hd => by
  have h := h.drawn hd
  obtain ⟨w', h1, h2⟩ := run_msf (P := P) h c a hk f p
  obtain ⟨sp, h5, h6, h7, hE, hl, hraw⟩ := h.raw (g := g)
  have hb := hraw.bkBlf (g := g)
  obtain ⟨ev, hn, hg⟩ := f.ok
  obtain ⟨hk', hke⟩ := List.getElem?_eq_some_iff.1 hk
  obtain ⟨hxo, hxs⟩ := hE.ok fs (hke ▸ List.getElem_mem _)
  obtain ⟨_, _, k3⟩ := p.cells hxo hg
  have e2 : v.cells.size = m := by rw [← Array.length_toList, ev, hg.len, hn]
  have hle : k * sz + sz ≤ cap * sz := by
    rw [← Nat.succ_mul]
    exact Nat.mul_le_mul_right _ (by omega)
  obtain ⟨w2, h3, h4⟩ := run_storeN (P := P) (i := 0 + k * sz + off) (v := v) c.ok (St.oneF hb) e2 (by rw [ev]; exact hg.one) (by rw [hg.len, hn, hxo.len, hxs] at k3; omega)
  rw [h1] at h3
  cases h3
  exact mop_skip h1 ⟨fun _ => (hd.onlyS _).trans1 (h4.only.mono fun j _ ⟨b, hm, _, hj⟩ => by
    rw [List.mem_singleton] at hm
    subst hm
    have hj : g = j := hj
    exact hj ▸ hg0), hK w' h2⟩⟩
/-- A frozen element's bytes as a text. -/
theorem dm_cvs {s d : TypeId} {b o k c m : Nat} {l : List Int} {Kq : Value → Prop} (hM : Mem H w0 L w) [st : StrC P s d] (a : Sl H sz (some ⟨b, o, none⟩) ps) (hk : ps[k]? = some [.arr m (u8s l)]) (hl : l.length = m) (hK : Kq (.string (strOfNums l))) : dq P w (o_conv s d (.slice (some ⟨b, o + k * sz, none⟩) m c)) Kq :=
  dq_pur (fun w' hx => pw_str st hl fun j u hu => by
    have h1 := a.els.at_ hk j u (by simpa [fl, Fd.cells] using hu)
    have h2 := a.cell (hM.fz.ext hx) h1
    rw [Nat.add_assoc]
    exact h2) hK
theorem Mem.readsX : ∀ {X : List Xp} {L : List Res}, Mem H w0 (allR X :: L) w → ∀ x ∈ X, Sl (Hp.of w) 1 x.2.1 (ints8 x.1.loose)
  | [], _, _, _, h => by cases h
  | y :: X, L, hM, x, h => by
    have h1 := hM.unk
    rcases List.mem_cons.1 h with rfl | h
    · exact h1.reads (A := x.2.1)
    · have h2 : Mem H w0 (allR X :: xres y :: L) w := h1.perm (.swap ..)
      exact Mem.readsX h2 x h
theorem Mem.readsT {ls : List Lf} (h : Mem H w0 (rowR 36 97 A ls.length a (ls.map Lf.fds) :: rowR 96 66 B X.length b (X.map xrow) :: allR X :: L) w) (hb : ∀ x ∈ X, x.1.loose.length ≤ maxLen) : TrF (Hp.of w) (tv A ls.length a B X.length b) ⟨ls, X.map (·.1)⟩ := by
  obtain ⟨-, k1, k2, -⟩ := h.rowLen ⟨.refl _⟩
  have h2 : Mem H w0 (rowR 96 66 B X.length b (X.map xrow) :: rowR 36 97 A ls.length a (ls.map Lf.fds) :: allR X :: L) w := h.perm (.swap ..)
  obtain ⟨-, k3, k4, -⟩ := h2.rowLen ⟨.refl _⟩
  have h3 : Mem H w0 (allR X :: L) w := h.drop.drop
  exact ⟨⟨A, a, B, b, X.map xrow, by simp, h.reads (A := A) (k := ⟨.refl _⟩), h2.reads (A := B) (k := ⟨.refl _⟩), all2_rows fun x hx => ⟨h3.readsX x hx, hb x hx⟩⟩, by simp only; omega, by simp only [List.length_map]; omega⟩
theorem sum4_ok {A : Option Addr} {e : Nat} (a b c d : ByteArray) (hs : a.size + b.size + c.size + d.size < 1000000000000) (hM : Mem H w0 L w) [k : AtA L A 4 4 e 1 [[.one (.string a)], [.one (.string b)], [.one (.string c)], [.one (.string d)]] R] :
    Calls Try.prog 53 #[.slice A 4 4] w fun en w' => en = .returned (.agg (u8s (shaH (ints a ++ (ints b ++ ints c ++ ints d))).1).toArray) ∧ St w [] w' := by
  have h := sum_ok A [a, b, c, d] 4 w (hM.rd k) (by simp) (by rw [cat4]; simp only [List.length_append, ints_length]; omega)
  rw [cat4] at h
  exact h
theorem hashAtT_ok (x : Int) {v : Value} (h : TrF H v t) (hf : Fz H w) : Calls Try.prog 62 #[v, .int .i64 x] w fun en w' => en = .returned (ha (if t.right = true ∧ 0 ≤ x ∧ x ≤ 2 * t.size - 2 then hAt 8 t x else hzero)) ∧ St w [] w' := by
  obtain ⟨A, a, B, b, qs, rfl, h1, h2, h3⟩ := h.ex
  have hM := Mem.start hf
  refine C_tree_HashAt ?_
  unfold F_tree_HashAt
  ((with_reducible (refine mm_box hM ?_; clear hM; intro _ _ hM; refine mm_new hM ?_; clear hM; intro _ _ hM; refine mm_ld hM ?_)))
  refine mm_pure hM (sound_ok h1 h2 h3 h.len.1 h.len.2 hM.fz) (fun w hM => ?_)
  cases hr : t.right
  · rw [if_neg (by simp), if_neg (by simp)]
    ((with_reducible (refine mm_st hM ?_; clear hM; intro _ hM)))
    refine ⟨fun v w' => v = .bool true ∧ hM.now w', ?_, ?_⟩
    · ((with_reducible (refine mop_cS trivial ?_ ?_)))
      · intro hx
        ((with_reducible ((iterate 7 refine mguard_n1 ?_); refine mop_c trivial ?_)))
        exact ⟨rfl, hM⟩
      · intro hx
        ((with_reducible (refine mguard_yes ?_; refine mop_c trivial ?_; refine mguard_yes ?_; refine mop_c trivial ?_; refine mguard_yes ?_; refine mm_ld hM ?_; refine mguard_yes ?_; refine mop_c trivial ?_; refine mguard_yes ?_; refine mop_c ?_ ?_)); (focus omega); (with_reducible (refine mguard_yes ?_; refine mop_c ?_ ?_)); (focus omega); (with_reducible (refine mguard_yes ?_; refine mop_cT trivial ?_ ?_)); (focus (first | assumption | omega | with_reducible rfl | exact fun h => Bool.noConfusion h)); (with_reducible (refine mop_c trivial ?_)))
        exact ⟨rfl, hM⟩
    rintro v u w3 ⟨rfl, hM⟩
    ((with_reducible (refine mif_true ?_; refine mop_c trivial ?_; refine mm_st hM ?_; clear hM; intro _ hM; refine rm_ld hM ?_)))
    exact ⟨rfl, hM.st⟩
  · have hR := Tr.rt.1 hr
    have hlen := hR.len
    have hts : t.size = t.ls.length := rfl
    rw [if_pos rfl]
    ((with_reducible (refine mm_st hM ?_; clear hM; intro _ hM)))
    refine ⟨fun v w' => v = .bool (decide (¬ (0 ≤ x ∧ x ≤ 2 * t.size - 2))) ∧ hM.now w', ?_, ?_⟩
    · ((with_reducible (refine mop_cS trivial ?_ ?_)))
      · intro hx
        ((with_reducible ((iterate 7 refine mguard_n1 ?_); refine mop_c trivial ?_)))
        exact ⟨by rw [decide_eq_true (by omega)], hM⟩
      · intro hx
        ((with_reducible (refine mguard_yes ?_; refine mop_c trivial ?_; refine mguard_yes ?_; refine mop_c trivial ?_; refine mguard_yes ?_; refine mm_ld hM ?_; refine mguard_yes ?_; refine mop_c trivial ?_; refine mguard_yes ?_; refine mop_c ?_ ?_)); (focus omega); (with_reducible (refine mguard_yes ?_; refine mop_c ?_ ?_)); (focus omega); (with_reducible (refine mguard_yes ?_)))
        ((with_reducible (refine mop_cS trivial ?_ ?_)))
        · intro hx2
          ((with_reducible (refine mop_c trivial ?_)))
          exact ⟨by rw [decide_eq_true (by omega)], hM⟩
        · intro hx2
          ((with_reducible (refine mop_c trivial ?_)))
          exact ⟨by rw [decide_eq_false (by omega)], hM⟩
    rintro v u w3 ⟨rfl, hM⟩
    by_cases hc : 0 ≤ x ∧ x ≤ 2 * t.size - 2
    · rw [decide_eq_false (by simpa using hc), if_pos ⟨rfl, hc⟩]
      ((with_reducible (refine mif_false ?_; refine mm_ld hM ?_)))
      have hne : t.ls ≠ [] := fun e => by rw [hts, e] at hc; simp at hc; omega
      refine mm_pure hM (hashAt_ok (hR.gd hne) h1 h2 h3 8 x (by have := (up_eq (x := x) (by omega)).2.2.2.2; omega) ⟨by omega, hc.1, hc.2⟩ _ hM.fz) (fun w hM => ?_)
      ((with_reducible (refine mm_st hM ?_; clear hM; intro _ hM; refine rm_ld hM ?_)))
      exact ⟨rfl, hM.st⟩
    · rw [decide_eq_true hc, if_neg (fun h => hc h.2)]
      ((with_reducible (refine mif_true ?_; refine mop_c trivial ?_; refine mm_st hM ?_; clear hM; intro _ hM; refine rm_ld hM ?_)))
      exact ⟨rfl, hM.st⟩
abbrev kfds (keys : List H32) : List (List Fd) := keys.map fun h => [Fd.arr 32 (u8s h.1)]
theorem pathT_rt (hR : t.Rt) {way : List Int} {pl : Int} {keys : List H32} {D : Nat → Bool} : Tr.Rt ⟨t.ls, pthPs way (newP t pl way keys) D t.ps⟩ := hR.pth fun _ => ⟨rfl, rfl⟩
theorem path_q {Q : Hp → Value → Prop} (pl : Int) (pub : H32) (keys : List H32) {K : Option Addr} {kc : Nat} (hq : ∀ H' v1 r, t.pathP pl pub keys = r → TrF H' v1 r.1 → Q H' (.tuple #[v1, .int .i64 r.2])) (hkl : keys.length ≤ 1000000) (hK : Sl H 32 K (kfds keys))
    (h1 : Sl H 97 A (t.ls.map Lf.fds)) (h2 : Sl H 66 B qs) (h3 : All2 (PnF H) qs t.ps) (hl : t.ls.length ≤ maxLen) (hp : t.ps.length ≤ maxLen) (hf : Fz H w) :
    Calls Try.prog 23 #[tv A t.ls.length a B t.ps.length b, .int .i64 pl, ha pub, .slice K keys.length kc] w (Outp H w Q) := by
  obtain ⟨w1, hw1⟩ : ∃ w1, w1 = w := ⟨_, rfl⟩
  rw [← hw1]
  rw [← hw1] at hf
  have hM := Mem.start hf
  refine C_tree_Path ?_
  unfold F_tree_Path
  unfold Tr.pathP Tr.pathR at hq
  ((with_reducible (refine mm_box hM ?_; clear hM; intro _ _ hM; refine mm_box hM ?_; clear hM; intro _ _ hM; refine mm_new hM ?_; clear hM; intro _ _ hM; refine mm_ld hM ?_)))
  rename_i g1 _ g5 _ g2 _
  refine mm_pure hM (right_ok h1 h2 h3 hl hp hM.fz) (fun w hM => ?_)
  ((with_reducible (refine mop_c trivial ?_)))
  cases hr : t.right
  · rw [if_pos (by rw [hr]; simp)] at hq
    rw [Bool.not_false]
    ((with_reducible (refine mif_true ?_; refine mop_c trivial ?_; refine mm_st hM ?_; clear hM; intro _ hM; refine rm_ld hM ?_)))
    exact hM.out (Le.refl _ _) (hq _ _ _ rfl (trF_none H))
  rw [if_neg (by rw [hr]; simp)] at hq
  have hR := Tr.rt.1 hr
  have hlen := hR.len
  have hts : t.size = t.ls.length := rfl
  rw [Bool.not_true]
  ((with_reducible (refine mif_false ?_; refine mm_ld hM ?_)))
  refine mm_pure hM (none_ok pl h1 hl hM.fz) (fun w hM => ?_)
  by_cases hn : t.nobody pl
  · rw [if_pos hn] at hq
    rw [decide_eq_true hn]
    ((with_reducible (refine mif_true ?_; refine mop_c trivial ?_; refine mm_st hM ?_; clear hM; intro _ hM; refine rm_ld hM ?_)))
    exact hM.out (Le.refl _ _) (hq _ _ _ rfl (trF_none H))
  rw [if_neg hn] at hq
  rw [decide_eq_false hn]
  obtain ⟨hb0, hb1, hb2⟩ := Tr.body hn
  ((with_reducible (refine mif_false ?_; refine mop_c trivial ?_; refine mm_ld hM ?_; refine mop_c trivial ?_)))
  refine mm_call hM (bdirect_ok t.ls.length pl (by omega) hM.fz) ?_
  rintro H1 v w5 l1 hM ⟨D, c, rfl, hD⟩
  have hdl := dirL_len t.size pl
  have hnd := dir_nodup (n := t.size) (l := pl) (by omega)
  have hdm := fun x hx => dir_mem (n := t.size) (l := pl) (x := x) (by omega) hx
  have hside := fun (D : Nat → Bool) (m : Nat) (hm : m < (dirL t.size pl).length) => hR.side_hash (pl := pl) ⟨hb0, hb2⟩ (nw := newP t pl (dirL t.size pl) keys) (D := D) hm
  have hwok := fun (m : Nat) (hm : m < (dirL t.size pl).length) => way_ok (n := t.size) (pl := pl) ⟨hb0, hb2, by omega⟩ hm
  rw [← hts] at hD ⊢
  generalize hDL : dirL t.size pl = DL at *
  ((with_reducible (refine mop_c trivial ?_; refine mop_c trivial ?_)))
  ((with_reducible (refine mop_cS trivial ?_ ?_)))
  · intro hne
    rw [if_pos (by omega)] at hq
    ((with_reducible (refine mif_true ?_; refine mop_c trivial ?_; refine mm_st hM ?_; clear hM; intro _ hM; refine rm_ld hM ?_)))
    exact hM.out l1 (hq _ _ _ rfl (trF_none H1))
  intro hne
  have hkd : DL.length = keys.length := by omega
  rw [if_neg (by omega)] at hq
  have hK := hK.mono l1.le
  ((with_reducible (refine mif_false ?_; refine mm_ld hM ?_)))
  refine mm_own (clone_ok (h1.mono l1.le) (h2.mono l1.le) (h3.mono fun _ _ h => h.mono l1.le) (by omega) (by omega) (fun p hp => by have := (hR.loose p hp).1; omega) hM) ?_
  rintro v w' ⟨A', a', B', b', X, rfl, hX, hM⟩
  have hXl : X.length = t.ps.length := by rw [← hX, List.length_map]
  obtain ⟨g4, rfl⟩ := hM.rowAt ⟨.refl _⟩ (by omega)
  ((with_reducible (refine mm_st hM ?_; clear hM; intro _ hM; refine mop_c trivial ?_; refine mm_new hM ?_; clear hM; intro _ _ hM; refine mm_st hM ?_; clear hM; intro _ hM; refine mop_c trivial ?_; refine mop_c ?_ ?_)); (focus omega))
  rename_i g12 _ _
  have hdone : ∀ m, m = DL.length → pthPs DL (newP t pl DL keys) (fun j => decide (m ≤ j)) t.ps = t.ps := fun m hm => pthPs_none fun j hj => decide_eq_false (by omega)
  refine ⟨fun v w' => ∃ (m : Nat) (Y : List Xp), v = .int .i64 ((m : Int) - 1) ∧ m ≤ DL.length ∧ Y.map (·.1) = pthPs DL (newP t pl DL keys) (fun j => decide (m ≤ j)) t.ps ∧ Y.length = t.ps.length ∧ Mem H1 w1 [fb g12 34 [.arr 32 (u8s (sd t pl DL keys m).1)], fb g1 27 (tfd (some ⟨g4, 0, none⟩) t.ls.length a' B' t.ps.length b'), fb g5 34 [.arr 32 (u8s pub.1)], fb g2 27 (tfd none 0 0 none 0 0), rowR 36 97 (some ⟨g4, 0, none⟩) t.ls.length a' (t.ls.map Lf.fds), rowR 96 66 B' t.ps.length b' (Y.map xrow), allR Y] w', fun v _ => match v with | .int _ k => (k + 1).toNat | _ => 0, ⟨DL.length, X, rfl, by omega, by rw [hX, hdone _ rfl], hXl, ?_⟩, ?_⟩
  · rw [sd_end]
    exact hM.same
  clear hM
  rintro v u w6 ⟨m, Y, rfl, hm, hY, hYl, hM⟩
  cases m with
  | zero =>
    have hY : Y.map (·.1) = pthPs DL (newP t pl DL keys) (fun _ => true) t.ps := hY.trans (by
      unfold pthPs
      refine List.ext_getElem (by simp) fun k e1 e2 => ?_
      simp)
    have hRt : Tr.Rt ⟨t.ls, Y.map (·.1)⟩ := by
      rw [hY]
      exact pathT_rt hR
    obtain ⟨l0, hl0⟩ : ∃ l0, t.ls[pl.toNat] = l0 := ⟨_, rfl⟩
    have hk0 : (t.ls.map Lf.fds)[pl.toNat]? = some l0.fds := by rw [← hl0]; exact map_at hb1
    ((with_reducible (refine mop_cF trivial ?_ ?_)); (focus (first | assumption | omega | with_reducible rfl | exact fun h => Bool.noConfusion h)); (with_reducible (refine mif_false ?_)))
    refine ⟨Rl.only fun k => (some ⟨g4, 0, none⟩ : Option Addr) = some ⟨k, 0, none⟩, ?_⟩
    ((with_reducible (refine dp_c trivial ?_; refine dS_ld hM hM.neA ?_; refine dp_c trivial ?_; (iterate 3 refine dS_ld hM hM.neA ?_); refine dp_ixr hM ?_ ?_)); (focus omega); (with_reducible (intro _ hA)); (cases hA); (with_reducible (refine dp_c trivial ?_)))
    refine dS_stf rfl hM hk0 (fun w' hM => ?_)
    have hz : [Fd.one (.int .i64 l0.name), .arr 32 (u8s pub.1), .arr 32 (u8s l0.ver.1), .arr 32 (u8s l0.abv.1)] = (l0.key pub l0.abv).fds := rfl
    rw [hz] at hM
    have hk1 : ((t.ls.map Lf.fds).set pl.toNat (l0.key pub l0.abv).fds)[pl.toNat]? = some (l0.key pub l0.abv).fds := by
      rw [List.getElem?_set_self (by simpa using hb1)]
    ((with_reducible (refine dp_ixr hM ?_ ?_)); (focus omega); (with_reducible (intro _ hA)); (cases hA); (with_reducible (refine dp_c trivial ?_)))
    refine dS_stf rfl hM hk1 (fun w' hM => ?_)
    have hz3 : [Fd.one (.int .i64 (l0.key pub l0.abv).name), .arr 32 (u8s (l0.key pub l0.abv).pub.1), .arr 32 (u8s (l0.key pub l0.abv).ver.1), .arr 32 (u8s (sd t pl DL keys 0).1)] = (l0.key pub (sd t pl DL keys 0)).fds := rfl
    rw [hz3, List.set_set, ← List.map_set] at hM
    have hmod : t.ls.set pl.toNat (l0.key pub (sd t pl DL keys 0)) = t.ls.modify pl.toNat (·.key pub (sd t pl DL keys 0)) := by
      refine List.ext_getElem (by simp) fun i k1 k2 => ?_
      simp only [List.getElem_modify, List.getElem_set]
      split
      · rename_i e
        subst e
        rw [hl0]
      · rfl
    rw [hmod] at hM
    have hsl : (t.ls.modify pl.toNat (·.key pub (sd t pl DL keys 0))).length = t.ls.length := List.length_modify ..
    obtain ⟨ls2, hls⟩ : ∃ ls2, t.ls.modify pl.toNat (·.key pub (sd t pl DL keys 0)) = ls2 := ⟨_, rfl⟩
    rw [hls] at hM hsl hq
    rw [← hsl, ← hYl] at hM
    ((with_reducible (refine mm_end hM ?_; clear hM; intro _ hM; refine mm_ld hM ?_; refine mm_st hM ?_; clear hM; intro _ hM; refine rm_ld hM ?_)))
    have hM : Mem H1 w1 [rowR 36 97 (some ⟨g4, 0, none⟩) ls2.length a' (ls2.map Lf.fds), rowR 96 66 B' Y.length b' (Y.map xrow), allR Y] _ := hM.sub
    obtain ⟨H4, l4, hM, hT⟩ := hM.frzT (fun x hx => by have := (hRt.loose x.1 (List.mem_map_of_mem hx)).1; simp only [maxLen]; omega)
    refine hM.out (l1.trans l4) (hq _ _ _ rfl ?_)
    rw [hY] at hT
    exact hT
  | succ i =>
    rw [show (((i + 1 : Nat) : Int) - 1) = (i : Int) by omega]
    have hi : i < DL.length := by omega
    have hik : i < keys.length := by omega
    have hxm := hdm DL[i] (List.getElem_mem _)
    have hkx : (DL[i] / 2).toNat < Y.length := by omega
    obtain ⟨gB, rfl⟩ := (hM.up B').rowAt ⟨.refl _⟩ (by omega)
    obtain ⟨kb, ko, rfl⟩ := hK.some_ (by simp [kfds]; omega)
    obtain ⟨db, dd, rfl⟩ := hD.some_ (by simp [ints8]; omega)
    have hnew : newP t pl DL keys i = ⟨true, keys[i], sd t pl DL keys (i + 1), []⟩ := by
      unfold newP
      rw [List.getD_eq_getElem?_getD, List.getElem?_eq_getElem hik]
      rfl
    have hrow : xrow (newP t pl DL keys i, none, 0) = [Fd.one (.bool true), .arr 32 (u8s keys[i].1), .arr 32 (u8s (sd t pl DL keys (i + 1)).1), .one (.slice none 0 0)] := by
      rw [hnew]
      rfl
    ((with_reducible (refine mop_cT trivial ?_ ?_)); (focus (first | assumption | omega | with_reducible rfl | exact fun h => Bool.noConfusion h)); (with_reducible (refine mif_true ?_; refine dp_c trivial ?_; refine dm_ld hM ?_)); (with_reducible refine dp_ixs ‹_› ?_ ?_ ?_); (focus (simp only [List.length_map]; omega)); (focus (simp only [List.length_map]; first | done | omega)); (with_reducible (intro _ _ hA)); (cases hA); (with_reducible refine dm_lds0 hM ‹_› (map_atI ?_) ?_); (focus omega); (with_reducible (refine dp_c ?_ ?_)); (focus omega); (with_reducible refine dp_ixs ‹_› ?_ ?_ ?_); (focus (simp only [List.length_map]; omega)); (focus (simp only [List.length_map]; first | done | omega)); (with_reducible (intro _ _ hA)); (cases hA); (with_reducible refine dm_lds0 hM ‹_› (map_atI ?_) ?_); (focus omega); (with_reducible (refine dm_ld hM ?_; refine dp_c trivial ?_; refine dp_ixr hM ?_ ?_)); (focus omega); (with_reducible (intro _ hA)); (cases hA))
    refine df_no hM (fun w' hM => ?_)
    refine mm_str hM (by omega) (fun w' hM => ?_)
    rw [← hrow, ← List.map_set] at hM
    have hM := ((hM.at_ (allR Y)).outk hkx).drop
    have h0 : Mem H1 w1 (xres (newP t pl DL keys i, none, 0) :: restR Y (DL[i] / 2).toNat :: _) _ := hM.row0 3 1
    have hM := h0.ink hkx
    have hY2 : (Y.set (DL[i] / 2).toNat (newP t pl DL keys i, none, 0)).map (·.1) = pthPs DL (newP t pl DL keys) (fun j => decide (i ≤ j)) t.ps := by
      rw [List.map_set, hY]
      exact pthPs_set hnd hi ⟨hxm.2.1, hxm.2.2.1⟩ fun j hj => by simp only [decide_eq_true_eq]; omega
    have hYl2 : (Y.set (DL[i] / 2).toNat (newP t pl DL keys i, none, 0)).length = t.ps.length := by rw [List.length_set]; exact hYl
    clear hY hYl hrow h0
    generalize Y.set (DL[i] / 2).toNat (newP t pl DL keys i, none, 0) = Z at *
    have hM : Mem H1 w1 [fb g12 34 [.arr 32 (u8s (sd t pl DL keys (i + 1)).1)], fb g1 27 (tfd (some ⟨g4, 0, none⟩) t.ls.length a' (some ⟨gB, 0, none⟩) t.ps.length b'), fb g5 34 [.arr 32 (u8s pub.1)], fb g2 27 (tfd none 0 0 none 0 0), rowR 36 97 (some ⟨g4, 0, none⟩) t.ls.length a' (t.ls.map Lf.fds), rowR 96 66 (some ⟨gB, 0, none⟩) t.ps.length b' (Z.map xrow), allR Z] _ := hM.same
    have hRt : Tr.Rt ⟨t.ls, Z.map (·.1)⟩ := by
      rw [hY2]
      exact pathT_rt hR
    obtain ⟨k1, k2, k3, k4⟩ := hwok i hi
    have hHash : ∀ w, Mem H1 w1 [rowR 36 97 (some ⟨g4, 0, none⟩) t.ls.length a' (t.ls.map Lf.fds), rowR 96 66 (some ⟨gB, 0, none⟩) t.ps.length b' (Z.map xrow), allR Z] w → Calls Try.prog 62 #[tv (some ⟨g4, 0, none⟩) t.ls.length a' (some ⟨gB, 0, none⟩) t.ps.length b', .int .i64 (bs t.size (wNode pl DL i))] w fun en w' => en = .returned (ha (hAt 8 t (bs t.size (wNode pl DL i)))) ∧ St w [] w' := fun w hM => by
      rw [← hYl2] at hM ⊢
      have h := hashAtT_ok (t := ⟨t.ls, Z.map (·.1)⟩) (bs t.size (wNode pl DL i)) (hM.readsT fun x hx => by have := (hRt.loose x.1 (List.mem_map_of_mem hx)).1; simp only [maxLen]; omega) (Fz.of w)
      rw [if_pos ⟨Tr.rt.2 hRt, k3.2.1, k3.2.2⟩, hY2, hside _ i hi] at h
      exact h
    ((with_reducible (refine mm_end hM ?_; clear hM; intro _ hM; refine mop_c ?_ ?_)); (focus omega))
    refine ⟨fun v w' => v = .int .i64 (wNode pl DL i) ∧ hM.now w', ?_, ?_⟩
    · ((with_reducible (refine mop_cS trivial ?_ ?_)))
      · intro hpos
        ((with_reducible (refine mif_true ?_; refine mop_c ?_ ?_)); (focus omega); (with_reducible refine mm_ixs ‹_› ?_ ?_ ?_); (focus (simp only [List.length_map]; omega)); (focus (simp only [List.length_map]; first | done | omega)); (with_reducible (intro _ _ hA)); (cases hA); (with_reducible refine mm_lds0 hM ‹_› (map_at ?_) ?_); (focus omega))
        refine ⟨?_, hM⟩
        congr 1
        rw [wNode_eq (by omega)]
        cases i with
        | zero => omega
        | succ i =>
          rw [List.getElem_cons_succ]
          congr 1
          omega
      · intro hz
        obtain rfl : i = 0 := by omega
        ((with_reducible (refine mif_false ?_)))
        exact ⟨rfl, hM⟩
    rintro v u7 w7 ⟨rfl, hM⟩
    refine ⟨fun v w' => ∃ g15, v = .pointer (some ⟨g15, 0, none⟩) ∧ Mem H1 w1 [fb g15 34 [.arr 32 (u8s (hAt 8 t (bs t.size (wNode pl DL i))).1)], fb g12 34 [.arr 32 (u8s (sd t pl DL keys (i + 1)).1)], fb g1 27 (tfd (some ⟨g4, 0, none⟩) t.ls.length a' (some ⟨gB, 0, none⟩) t.ps.length b'), fb g5 34 [.arr 32 (u8s pub.1)], fb g2 27 (tfd none 0 0 none 0 0), rowR 36 97 (some ⟨g4, 0, none⟩) t.ls.length a' (t.ls.map Lf.fds), rowR 96 66 (some ⟨gB, 0, none⟩) t.ps.length b' (Z.map xrow), allR Z] w', ⟨?_, ?_, ?_⟩, ?_⟩
    · ((with_reducible (refine dm_ld hM ?_; refine dm_purC hM ?_ (fun _ _ hM => ?_))); (focus (first | exact trivial | assumption | omega)))
      refine dm_pure hM (fun w hM => hHash w hM.sub) (fun w' hx hM => ?_)
      ((with_reducible (refine dm_new hM ?_; clear hM; intro _ _ hM; refine dS_st hM ?_; clear hM; intro _ hM; refine mm_end hM ?_; clear hM; intro _ hM)))
      exact ⟨_, rfl, hM.same⟩
    · ((with_reducible (refine dm_ld hM ?_; refine dm_purC hM ?_ (fun _ _ hM => ?_))); (focus (first | exact trivial | assumption | omega)); (with_reducible (refine dm_new hM ?_; clear hM; intro _ _ hM)))
      refine dm_pure hM (fun w hM => hHash w hM.sub) (fun w' hx hM => ?_)
      ((with_reducible (refine dS_st hM ?_; clear hM; intro _ hM; refine mm_end hM ?_; clear hM; intro _ hM)))
      exact ⟨_, rfl, hM.same⟩
    · ((with_reducible (refine dm_ld hM ?_; refine dm_new hM ?_; clear hM; intro _ _ hM; refine dm_purC hM ?_ (fun _ _ hM => ?_))); (focus (first | exact trivial | assumption | omega)))
      refine dm_pure hM (fun w hM => hHash w hM.sub) (fun w' hx hM => ?_)
      ((with_reducible (refine dS_st hM ?_; clear hM; intro _ hM; refine mm_end hM ?_; clear hM; intro _ hM)))
      exact ⟨_, rfl, hM.same⟩
    clear hM
    rintro v u8 w8 ⟨g15, rfl, hM⟩
    ((with_reducible refine dp_ixs ‹_› ?_ ?_ ?_); (focus (simp only [List.length_map]; omega)); (focus (simp only [List.length_map]; first | done | omega)); (with_reducible (intro _ _ hA)); (cases hA); (with_reducible (refine dp_c trivial ?_)))
    rw [Int.toNat_natCast]
    refine dm_cvs hM hK (map_at hik) keys[i].2.1 ?_
    ((with_reducible (refine dp_c trivial ?_; refine dm_cvb hM ?_; refine dp_c trivial ?_; refine dm_cvb hM ?_; refine dS_bsl hM ?_ ?_ ?_)); (focus rfl); (focus (constructor <;> simp)); (with_reducible (clear hM; intro _ _ hM)))
    refine dm_pure hM (fun w hM => sum4_ok babove (strOfNums keys[i].1) (strOfNums (sd t pl DL keys (i + 1)).1) (strOfNums (hAt 8 t (bs t.size (wNode pl DL i))).1) (by rw [strOfNums_size, strOfNums_size, strOfNums_size, keys[i].2.1, (sd t pl DL keys (i + 1)).2.1, (hAt 8 t (bs t.size (wNode pl DL i))).2.1]; decide) hM) (fun w' hx hM => ?_)
    rw [ints_h, ints_h, ints_h]
    have hsd : shaH (ints babove ++ (keys[i].1 ++ (sd t pl DL keys (i + 1)).1 ++ (hAt 8 t (bs t.size (wNode pl DL i))).1)) = sd t pl DL keys i := by
      rw [sd_step hi, List.getD_eq_getElem?_getD, List.getElem?_eq_getElem hik]
      rfl
    rw [hsd]
    ((with_reducible (refine dS_st hM ?_; clear hM; intro _ hM; refine mm_end hM ?_; clear hM; intro _ hM; refine mop_c ?_ ?_)); (focus omega))
    exact ⟨⟨i, Z, rfl, by omega, hY2, hYl2, hM.sub⟩, by simp only; omega⟩
end
end Go.Proofs.Ytopcnkejobomaaa
/- New keys above a leaf: the document's. -/
namespace Go.Proofs.Ytopcnkejobomaaa
open Go.RowKit Go.Lib

section
variable {H : Hp} {w0 w : World} {L R : List Res} {A B K D : Option Addr} {a b c kc : Nat} {t : Tr} {qs ps : List (List Fd)}
theorem rdirect_any (n l : Int) (hn : n ≤ 1000000) (hf : Fz H w) : Calls Try.prog 58 #[.int .i64 n, .int .i64 l] w (Outp H w (fun H' v => ∃ A cap, v = .slice A (dirL n l).length cap ∧ Sl H' 1 A (ints8 (dirL n l)))) := by
  by_cases hl : 0 ≤ l ∧ l < n
  · exact rdirect_out n l (by omega) hf
  · have hM := Mem.start hf
    have he : dirL n l = [] := if_neg hl
    rw [he]
    refine C_bevyref07_Direct ?_
    unfold F_bevyref07_Direct
    refine ⟨fun v w' => v = .bool true ∧ hM.now w', ?_, ?_⟩
    · ((with_reducible (refine mop_cS trivial ?_ ?_)))
      · intro h
        ((with_reducible ((iterate 3 refine mguard_n1 ?_); refine mop_c trivial ?_; (iterate 3 refine mguard_n1 ?_); refine mop_c trivial ?_)))
        exact ⟨rfl, hM⟩
      · intro h
        ((with_reducible (refine mguard_yes ?_; refine mop_c trivial ?_; refine mguard_yes ?_; refine mop_c trivial ?_; refine mguard_yes ?_; refine mop_cT trivial ?_ ?_)); (focus (first | assumption | omega | with_reducible rfl | exact fun h => Bool.noConfusion h)); (with_reducible (refine mop_c trivial ?_; (iterate 3 refine mguard_n1 ?_); refine mop_c trivial ?_)))
        exact ⟨rfl, hM⟩
    rintro v u w2 ⟨rfl, hM⟩
    ((with_reducible (refine mif_true ?_)))
    exact hM.out (Le.refl _ _) ⟨none, 0, rfl, Sl.nil _ _ _⟩
theorem said_ok (hR : t.Rt) (h1 : Sl H 97 A (t.ls.map Lf.fds)) (h2 : Sl H 66 B qs) (h3 : All2 (PnF H) qs t.ps) (pl : Int) (hpl : 0 ≤ pl ∧ pl < t.size) (keys : List H32) (hK : Sl H 32 K (kfds keys)) (hD : Sl H 1 D (ints8 (dirL t.size pl))) (hlk : (dirL t.size pl).length = keys.length) :
    ∀ (f m : Nat), m + f = (dirL t.size pl).length → ∀ w, Fz H w → Calls Try.prog 66 #[tv A t.ls.length a B t.ps.length b, .int .i64 pl, .slice D (dirL t.size pl).length c, .slice K keys.length kc, .int .i64 ((m : Int) - 1)] w fun en w' => en = .returned (ha (sd t pl (dirL t.size pl) keys m)) ∧ St w [] w' := by
  have hlen := hR.len
  have hts : t.size = t.ls.length := rfl
  have hne : t.ls ≠ [] := fun e => by rw [hts, e] at hpl; simp at hpl; omega
  have hwok := fun (m : Nat) (hm : m < (dirL t.size pl).length) => way_ok (n := t.size) (pl := pl) ⟨hpl.1, hpl.2, by omega⟩ hm
  have hdl := dirL_len t.size pl
  generalize hDL : dirL t.size pl = DL at *
  intro f
  induction f with
  | zero =>
    intro m hm w hf
    obtain rfl : m = DL.length := by omega
    have hM := Mem.start hf
    refine C_bevyref08_Said ?_
    unfold F_bevyref08_Said
    ((with_reducible (refine mm_box hM ?_; clear hM; intro _ _ hM; refine mm_new hM ?_; clear hM; intro _ _ hM; refine mop_c trivial ?_; refine mop_c ?_ ?_)); (focus omega); (with_reducible (refine mop_cT trivial ?_ ?_)); (focus (first | assumption | omega | with_reducible rfl | exact fun h => Bool.noConfusion h)); (with_reducible (refine mif_true ?_; refine mop_c trivial ?_; refine mm_st hM ?_; clear hM; intro _ hM; refine rm_ld hM ?_)))
    rw [sd_end]
    exact ⟨rfl, hM.st⟩
  | succ f ih =>
    intro m hm w hf
    have hi : m < DL.length := by omega
    have hik : m < keys.length := by omega
    obtain ⟨k1, k2, k3, k4⟩ := hwok m hi
    have hM := Mem.start hf
    obtain ⟨kb, ko, rfl⟩ := hK.some_ (by simp [kfds]; omega)
    obtain ⟨db, dd, rfl⟩ := hD.some_ (by simp [ints8]; omega)
    have hlv : level (bs t.size (wNode pl DL m)) ≤ 8 := by
      have := (up_eq (x := bs t.size (wNode pl DL m)) (by have := k3.2; omega)).2.2.2.2
      omega
    have hHash := fun (w : World) (hf : Fz H w) => rhashAt_ok (a := a) (b := b) (hR.gd hne) h1 h2 h3 8 (bs t.size (wNode pl DL m)) hlv k3 w hf
    have hih : ∀ w, Fz H w → Calls Try.prog 66 #[tv A t.ls.length a B t.ps.length b, .int .i64 pl, .slice (some ⟨db, dd, none⟩) DL.length c, .slice (some ⟨kb, ko, none⟩) keys.length kc, .int .i64 ((m : Int) - 1 + 1)] w fun en w' => en = .returned (ha (sd t pl DL keys (m + 1))) ∧ St w [] w' := fun w hf => by
      have h := ih (m + 1) (by omega) w hf
      rw [show (((m + 1 : Nat) : Int) - 1) = (m : Int) - 1 + 1 by omega] at h
      exact h
    refine C_bevyref08_Said ?_
    unfold F_bevyref08_Said
    ((with_reducible (refine mm_box hM ?_; clear hM; intro _ _ hM; refine mm_new hM ?_; clear hM; intro _ _ hM; refine mop_c trivial ?_; refine mop_c ?_ ?_)); (focus omega); (with_reducible (refine mop_cF trivial ?_ ?_)); (focus (first | assumption | omega | with_reducible rfl | exact fun h => Bool.noConfusion h)); (with_reducible (refine mif_false ?_; refine mop_c ?_ ?_)); (focus omega))
    rename_i g1 _ g2 _
    refine ⟨fun v w' => v = .int .i64 (wNode pl DL m) ∧ hM.now w', ?_, ?_⟩
    · cases m with
      | zero =>
        ((with_reducible (refine mop_cF trivial ?_ ?_)); (focus (first | assumption | omega | with_reducible rfl | exact fun h => Bool.noConfusion h)); (with_reducible (refine mif_false ?_)))
        exact ⟨rfl, hM⟩
      | succ m =>
        rw [show (((m + 1 : Nat) : Int) - 1) = (m : Int) by omega]
        ((with_reducible (refine mop_cT trivial ?_ ?_)); (focus (first | assumption | omega | with_reducible rfl | exact fun h => Bool.noConfusion h)); (with_reducible (refine mif_true ?_)); (with_reducible refine mm_ixs ‹_› ?_ ?_ ?_); (focus (simp only [List.length_map]; omega)); (focus (simp only [List.length_map]; first | done | omega)); (with_reducible (intro _ _ hA)); (cases hA); (with_reducible refine mm_lds0 hM ‹_› (map_atI ?_) ?_); (focus omega))
        refine ⟨?_, hM⟩
        rw [wNode_eq (by omega), List.getElem_cons_succ]
    rintro v u7 w7 ⟨rfl, hM⟩
    refine ⟨fun v w' => ∃ g15, v = .pointer (some ⟨g15, 0, none⟩) ∧ Mem H w [fb g15 33 [.arr 32 (u8s (hAt 8 t (bs t.size (wNode pl DL m))).1)], fb g1 27 (tfd A t.ls.length a B t.ps.length b), fb g2 33 [.arr 32 (u8s hzero.1)]] w', ⟨?_, ?_, ?_⟩, ?_⟩
    · ((with_reducible (refine dm_ld hM ?_; refine dp_c trivial ?_; refine dm_ld hM ?_; refine dp_c trivial ?_; refine dm_purC hM ?_ (fun _ _ hM => ?_))); (focus (first | exact trivial | assumption | omega)))
      refine dm_pure hM (fun w hM => hHash w hM.fz) (fun w' hx hM => ?_)
      ((with_reducible (refine dm_new hM ?_; clear hM; intro _ _ hM; refine dS_st hM ?_; clear hM; intro _ hM; refine mm_end hM ?_; clear hM; intro _ hM)))
      exact ⟨_, rfl, hM.same⟩
    · ((with_reducible (refine dm_ld hM ?_; refine dp_c trivial ?_; refine dm_ld hM ?_; refine dp_c trivial ?_; refine dm_purC hM ?_ (fun _ _ hM => ?_))); (focus (first | exact trivial | assumption | omega)); (with_reducible (refine dm_new hM ?_; clear hM; intro _ _ hM)))
      refine dm_pure hM (fun w hM => hHash w hM.fz) (fun w' hx hM => ?_)
      ((with_reducible (refine dS_st hM ?_; clear hM; intro _ hM; refine mm_end hM ?_; clear hM; intro _ hM)))
      exact ⟨_, rfl, hM.same⟩
    · ((with_reducible (refine dm_ld hM ?_; refine dp_c trivial ?_; refine dm_ld hM ?_; refine dp_c trivial ?_; refine dm_new hM ?_; clear hM; intro _ _ hM; refine dm_purC hM ?_ (fun _ _ hM => ?_))); (focus (first | exact trivial | assumption | omega)))
      refine dm_pure hM (fun w hM => hHash w hM.fz) (fun w' hx hM => ?_)
      ((with_reducible (refine dS_st hM ?_; clear hM; intro _ hM; refine mm_end hM ?_; clear hM; intro _ hM)))
      exact ⟨_, rfl, hM.same⟩
    clear hM
    rintro v u8 w8 ⟨g15, rfl, hM⟩
    ((with_reducible (refine dp_c ?_ ?_)); (focus omega); (with_reducible refine dp_ixs ‹_› ?_ ?_ ?_); (focus (simp only [List.length_map]; omega)); (focus (simp only [List.length_map]; first | done | omega)); (with_reducible (intro _ _ hA)); (cases hA); (with_reducible refine dm_lds0 hM ‹_› (map_at ?_) ?_); (focus omega); (with_reducible (refine dm_purC hM ?_ (fun _ _ hM => ?_))); (focus (first | exact trivial | assumption | omega)))
    have e0 : ((m : Int) - 1 + 1).toNat = m := by omega
    simp only [e0]
    rw [show (ByteArray.mk #[97, 98, 111, 118, 101]) = strOfNums sabove from rfl]
    refine dp_cat _ _ (by simp [keys[m].2.1]) ?_
    ((with_reducible refine dm_ld ‹Mem _ _ _ _› ?_); (with_reducible (refine dp_c ?_ ?_)); (focus omega))
    refine dm_pure hM (fun w hM => hih w hM.fz) (fun w' hx hM => ?_)
    ((with_reducible (refine dm_purC hM ?_ (fun _ _ hM => ?_))); (focus (first | exact trivial | assumption | omega)))
    refine dp_cat _ _ (by simp [keys[m].2.1, (sd t pl DL keys (m + 1)).2.1]) ?_
    ((with_reducible refine dm_ld ‹Mem _ _ _ _› ?_); (with_reducible (refine dm_purC hM ?_ (fun _ _ hM => ?_))); (focus (first | exact trivial | assumption | omega)))
    refine dp_cat _ _ (by simp [keys[m].2.1, (sd t pl DL keys (m + 1)).2.1, (hAt 8 t (bs t.size (wNode pl DL m))).2.1]) ?_
    have hbl : ∀ y ∈ sabove ++ keys[m].1 ++ (sd t pl DL keys (m + 1)).1 ++ (hAt 8 t (bs t.size (wNode pl DL m))).1, 0 ≤ y ∧ y < 256 := fun y hy => by
      simp only [List.mem_append] at hy
      rcases hy with ((hy | hy) | hy) | hy
      · simp at hy
        omega
      · exact keys[m].2.2 y hy
      · exact (sd t pl DL keys (m + 1)).2.2 y hy
      · exact (hAt 8 t (bs t.size (wNode pl DL m))).2.2 y hy
    refine dm_pure hM (fun w hM => rsum_ok _ hbl (by simp [keys[m].2.1, (sd t pl DL keys (m + 1)).2.1, (hAt 8 t (bs t.size (wNode pl DL m))).2.1]) w) (fun w' hx hM => ?_)
    ((with_reducible (refine dS_st hM ?_; clear hM; intro _ hM; refine mm_end hM ?_; clear hM; intro _ hM; refine rm_ld hM ?_)))
    refine ⟨?_, hM.st⟩
    rw [sd_step hi, List.getD_eq_getElem?_getD, List.getElem?_eq_getElem hik]
    simp only [List.append_assoc]
    rfl
theorem rpath_q {Q : Hp → Value → Prop} (pl : Int) (pub : H32) (keys : List H32) (hq : ∀ H' v1 r, t.pathR pl pub keys = r → TrF H' v1 r.1 → Q H' (.tuple #[v1, .int .i64 r.2])) (hR : t.Rt) (hkl : keys.length ≤ 1000000) (hK : Sl H 32 K (kfds keys))
    (h1 : Sl H 97 A (t.ls.map Lf.fds)) (h2 : Sl H 66 B qs) (h3 : All2 (PnF H) qs t.ps) (hf : Fz H w) :
    Calls Try.prog 24 #[tv A t.ls.length a B t.ps.length b, .int .i64 pl, ha pub, .slice K keys.length kc] w (Outp H w Q) := by
  obtain ⟨w1, hw1⟩ : ∃ w1, w1 = w := ⟨_, rfl⟩
  rw [← hw1]
  rw [← hw1] at hf
  have hM := Mem.start hf
  have hlen := hR.len
  have hts : t.size = t.ls.length := rfl
  refine C_bevyref08_Path ?_
  unfold F_bevyref08_Path
  unfold Tr.pathR at hq
  ((with_reducible (refine mm_box hM ?_; clear hM; intro _ _ hM; refine mm_box hM ?_; clear hM; intro _ _ hM; refine mm_new hM ?_; clear hM; intro _ _ hM; refine mm_ld hM ?_)))
  rename_i g1 _ g5 _ g2 _
  refine mm_pure hM (rnone_ok pl h1 (by simp only [maxLen]; omega) hM.fz) (fun w hM => ?_)
  by_cases hn : t.nobody pl
  · rw [if_pos hn] at hq
    rw [decide_eq_true hn]
    ((with_reducible (refine mif_true ?_; refine mop_c trivial ?_; refine mm_st hM ?_; clear hM; intro _ hM; refine rm_ld hM ?_)))
    exact hM.out (Le.refl _ _) (hq _ _ _ rfl (trF_none H))
  rw [if_neg hn] at hq
  rw [decide_eq_false hn]
  obtain ⟨hb0, hb1, hb2⟩ := Tr.body hn
  ((with_reducible (refine mif_false ?_; refine mop_c trivial ?_; refine mm_ld hM ?_; refine mop_c trivial ?_)))
  refine mm_call hM (rdirect_any t.ls.length pl (by omega) hM.fz) ?_
  rintro H1 v w5 l1 hM ⟨D, c, rfl, hD⟩
  have hK := hK.mono l1.le
  have h1 := h1.mono l1.le
  have h2 := h2.mono l1.le
  have h3 : All2 (PnF H1) qs t.ps := h3.mono fun _ _ h => h.mono l1.le
  rw [← hts] at hD
  have hsaid := fun (hlk : (dirL t.size pl).length = keys.length) => said_ok (a := a) (b := b) (c := c) (kc := kc) hR h1 h2 h3 pl ⟨hb0, hb2⟩ keys hK hD hlk
  have hdl := dirL_len t.size pl
  have hnd := dir_nodup (n := t.size) (l := pl) (by omega)
  have hdm := fun x hx => dir_mem (n := t.size) (l := pl) (x := x) (by omega) hx
  rw [← hts]
  generalize hDL : dirL t.size pl = DL at *
  ((with_reducible (refine mop_c trivial ?_; refine mop_c trivial ?_)))
  ((with_reducible (refine mop_cS trivial ?_ ?_)))
  · intro hne
    rw [if_pos (by omega)] at hq
    ((with_reducible (refine mif_true ?_; refine mop_c trivial ?_; refine mm_st hM ?_; clear hM; intro _ hM; refine rm_ld hM ?_)))
    exact hM.out l1 (hq _ _ _ rfl (trF_none H1))
  intro hne
  have hkd : DL.length = keys.length := by omega
  have hsaid := hsaid hkd
  rw [if_neg (by omega)] at hq
  ((with_reducible (refine mif_false ?_; refine mm_ld hM ?_)))
  refine mm_own (rcopy_ok h1 h2 h3 (by omega) (by omega) (fun p hp => by have := (hR.loose p hp).1; omega) hM) ?_
  rintro v w' ⟨A', a', B', b', X, rfl, hX, hM⟩
  have hXl : X.length = t.ps.length := by rw [← hX, List.length_map]
  obtain ⟨g4, rfl⟩ := hM.rowAt ⟨.refl _⟩ (by omega)
  obtain ⟨l0, hl0⟩ : ∃ l0, t.ls[pl.toNat] = l0 := ⟨_, rfl⟩
  have hk0 : (t.ls.map Lf.fds)[pl.toNat]? = some l0.fds := by rw [← hl0]; exact map_at hb1
  ((with_reducible (refine mm_new hM ?_; clear hM; intro _ _ hM; refine mm_st hM ?_; clear hM; intro _ hM; refine mop_c trivial ?_; refine mm_ld hM ?_; refine mm_ld hM ?_; refine mm_ixr hM ?_ ?_)); (focus omega); (with_reducible (intro _ hA)); (cases hA); (with_reducible (refine mop_c trivial ?_)))
  rename_i g11 _ _
  refine mm_stf hM hk0 (fun w' hM => ?_)
  have hz : [Fd.one (.int .i64 l0.name), .arr 32 (u8s pub.1), .arr 32 (u8s l0.ver.1), .arr 32 (u8s l0.abv.1)] = (l0.key pub l0.abv).fds := rfl
  rw [hz] at hM
  have hk1 : ((t.ls.map Lf.fds).set pl.toNat (l0.key pub l0.abv).fds)[pl.toNat]? = some (l0.key pub l0.abv).fds := by
    rw [List.getElem?_set_self (by simpa using hb1)]
  ((with_reducible (refine dp_c trivial ?_; refine dm_ld hM ?_; refine dm_ld hM ?_)))
  refine dm_pure hM (fun w hM => hsaid DL.length 0 (by omega) w hM.fz) (fun w' hx hM => ?_)
  ((with_reducible (refine dp_ixr hM ?_ ?_)); (focus omega); (with_reducible (intro _ hA)); (cases hA); (with_reducible (refine dp_c trivial ?_)))
  refine dm_stf hM hk1 (fun w' hM => ?_)
  have hz3 : [Fd.one (.int .i64 (l0.key pub l0.abv).name), .arr 32 (u8s (l0.key pub l0.abv).pub.1), .arr 32 (u8s (l0.key pub l0.abv).ver.1), .arr 32 (u8s (sd t pl DL keys 0).1)] = (l0.key pub (sd t pl DL keys 0)).fds := rfl
  rw [hz3, List.set_set, ← List.map_set] at hM
  have hmod : t.ls.set pl.toNat (l0.key pub (sd t pl DL keys 0)) = t.ls.modify pl.toNat (·.key pub (sd t pl DL keys 0)) := by
    refine List.ext_getElem (by simp) fun i k1 k2 => ?_
    simp only [List.getElem_modify, List.getElem_set]
    split
    · rename_i e
      subst e
      rw [hl0]
    · rfl
  rw [hmod] at hM
  have hsl : (t.ls.modify pl.toNat (·.key pub (sd t pl DL keys 0))).length = t.ls.length := List.length_modify ..
  obtain ⟨ls2, hls⟩ : ∃ ls2, t.ls.modify pl.toNat (·.key pub (sd t pl DL keys 0)) = ls2 := ⟨_, rfl⟩
  rw [hls] at hM hsl hq
  ((with_reducible (refine mm_end hM ?_; clear hM; intro _ hM)))
  have hgo : ∀ k, k = 0 → pthPs DL (newP t pl DL keys) (fun j => decide (j < k)) t.ps = t.ps := fun k hk => pthPs_none fun j hj => decide_eq_false (by omega)
  refine ⟨fun v w' => ∃ (k : Nat) (Y : List Xp), v = .int .i64 k ∧ k ≤ DL.length ∧ Y.map (·.1) = pthPs DL (newP t pl DL keys) (fun j => decide (j < k)) t.ps ∧ Y.length = t.ps.length ∧ Mem H1 w1 [fb g11 27 (tfd (some ⟨g4, 0, none⟩) t.ls.length a' B' t.ps.length b'), fb g2 27 (tfd none 0 0 none 0 0), fb g1 27 (tfd A t.ls.length a B t.ps.length b), rowR 36 97 (some ⟨g4, 0, none⟩) t.ls.length a' (ls2.map Lf.fds), rowR 96 66 B' t.ps.length b' (Y.map xrow), allR Y] w', fun v _ => match v with | .int _ k => DL.length - k.toNat | _ => 0, ⟨0, X, rfl, by omega, by rw [hX, hgo _ rfl], hXl, hM.sub⟩, ?_⟩
  clear hM
  rintro v u w6 ⟨i, Y, rfl, hi', hY, hYl, hM⟩
  ((with_reducible (refine mop_c trivial ?_)))
  ((with_reducible (refine mop_cS trivial ?_ ?_)))
  · intro hlt
    have hi : i < DL.length := by omega
    have hik : i < keys.length := by omega
    have hxm := hdm DL[i] (List.getElem_mem _)
    have hkx : (DL[i] / 2).toNat < Y.length := by omega
    obtain ⟨gB, rfl⟩ := (hM.up B').rowAt ⟨.refl _⟩ (by omega)
    have hnew : newP t pl DL keys i = ⟨true, keys[i], sd t pl DL keys (i + 1), []⟩ := by
      unfold newP
      rw [List.getD_eq_getElem?_getD, List.getElem?_eq_getElem hik]
      rfl
    have hrow : xrow (newP t pl DL keys i, none, 0) = [Fd.one (.bool true), .arr 32 (u8s keys[i].1), .arr 32 (u8s (sd t pl DL keys (i + 1)).1), .one (.slice none 0 0)] := by
      rw [hnew]
      rfl
    have hih : ∀ w, Fz H1 w → Calls Try.prog 66 #[tv A t.ls.length a B t.ps.length b, .int .i64 pl, .slice D DL.length c, .slice K keys.length kc, .int .i64 i] w fun en w' => en = .returned (ha (sd t pl DL keys (i + 1))) ∧ St w [] w' := fun w hf => by
      have h := hsaid (DL.length - (i + 1)) (i + 1) (by omega) w hf
      rw [show (((i + 1 : Nat) : Int) - 1) = (i : Int) by omega] at h
      exact h
    obtain ⟨kb, ko, rfl⟩ := hK.some_ (by simp [kfds]; omega)
    obtain ⟨db, dd, rfl⟩ := hD.some_ (by simp [ints8]; omega)
    ((with_reducible (refine mif_true ?_; refine dp_c trivial ?_; refine dm_ld hM ?_)); (with_reducible refine dp_ixs ‹_› ?_ ?_ ?_); (focus (simp only [List.length_map]; omega)); (focus (simp only [List.length_map]; first | done | omega)); (with_reducible (intro _ _ hA)); (cases hA); (with_reducible refine dm_lds0 hM ‹_› (map_atI ?_) ?_); (focus omega); (with_reducible (refine dp_c ?_ ?_)); (focus omega); (with_reducible refine dp_ixs ‹_› ?_ ?_ ?_); (focus (simp only [List.length_map]; omega)); (focus (simp only [List.length_map]; first | done | omega)); (with_reducible (intro _ _ hA)); (cases hA); (with_reducible refine dm_lds0 hM ‹_› (map_atI ?_) ?_); (focus omega); (with_reducible (refine dm_ld hM ?_)))
    refine dm_pure hM (fun w hM => hih w hM.fz) (fun w' hx hM => ?_)
    ((with_reducible (refine dp_c trivial ?_; refine dp_ixr hM ?_ ?_)); (focus omega); (with_reducible (intro _ hA)); (cases hA))
    refine df_no hM (fun w' hM => ?_)
    refine mm_str hM (by omega) (fun w' hM => ?_)
    rw [← hrow, ← List.map_set] at hM
    have hM := ((hM.at_ (allR Y)).outk hkx).drop
    have h0 : Mem H1 w1 (xres (newP t pl DL keys i, none, 0) :: restR Y (DL[i] / 2).toNat :: _) _ := hM.row0 3 1
    have hM := h0.ink hkx
    have hY2 : (Y.set (DL[i] / 2).toNat (newP t pl DL keys i, none, 0)).map (·.1) = pthPs DL (newP t pl DL keys) (fun j => decide (j < i + 1)) t.ps := by
      rw [List.map_set, hY]
      exact pthPs_set hnd hi ⟨hxm.2.1, hxm.2.2.1⟩ fun j hj => by simp only [decide_eq_true_eq]; omega
    have hYl2 : (Y.set (DL[i] / 2).toNat (newP t pl DL keys i, none, 0)).length = t.ps.length := by rw [List.length_set]; exact hYl
    clear hY hYl hrow h0
    generalize Y.set (DL[i] / 2).toNat (newP t pl DL keys i, none, 0) = Z at *
    ((with_reducible (refine mm_end hM ?_; clear hM; intro _ hM; refine mop_c ?_ ?_)); (focus omega))
    exact ⟨⟨i + 1, Z, rfl, by omega, hY2, hYl2, hM.same⟩, by simp only; omega⟩
  · intro hge
    obtain rfl : i = DL.length := by omega
    have hY : Y.map (·.1) = pthPs DL (newP t pl DL keys) (fun _ => true) t.ps := hY.trans (by
      unfold pthPs
      refine List.ext_getElem (by simp) fun k e1 e2 => ?_
      simp only [List.getElem_mapIdx]
      by_cases hw : wIdx DL k < DL.length
      · rw [if_pos ⟨hw, decide_eq_true hw⟩, if_pos ⟨hw, trivial⟩]
      · rw [if_neg fun h => hw h.1, if_neg fun h => hw h.1])
    have hRt : Tr.Rt ⟨t.ls, Y.map (·.1)⟩ := by
      rw [hY]
      exact pathT_rt hR
    ((with_reducible (refine mif_false ?_; refine mm_ld hM ?_; refine mm_st hM ?_; clear hM; intro _ hM; refine rm_ld hM ?_)))
    rw [← hsl, ← hYl] at hM ⊢
    have hM : Mem H1 w1 [rowR 36 97 (some ⟨g4, 0, none⟩) ls2.length a' (ls2.map Lf.fds), rowR 96 66 B' Y.length b' (Y.map xrow), allR Y] _ := hM.sub
    obtain ⟨H4, l4, hM, hT⟩ := hM.frzT (fun x hx => by have := (hRt.loose x.1 (List.mem_map_of_mem hx)).1; simp only [maxLen]; omega)
    refine hM.out (l1.trans l4) (hq _ _ _ rfl ?_)
    rw [hY] at hT
    rw [hYl]
    rw [hYl] at hT
    exact hT
end
end Go.Proofs.Ytopcnkejobomaaa
/- New keys above a leaf make the document's tree. -/
namespace Go.Proofs.Ytopcnkejobomaaa
open Go.RowKit Go.Lib

/-- A key made of a byte, and of its number. -/
abbrev keyH (b : Int) (i : Nat) : H32 := hset (hset hzero 0 b) 1 ((i : Int) % 256)
def keyL (n : Nat) (b : Int) : List H32 := (List.range n).map (keyH b) ++ if 200 ≤ b then [hset hzero 0 b] else []
theorem keyL_len (n : Nat) (b : Int) : (keyL n b).length ≤ n + 1 := by
  unfold keyL
  split <;> simp
section
variable {H : Hp} {w0 w : World} {L R : List Res} {A B : Option Addr} {a b : Nat} {t : Tr} {v : Value}
theorem path_c (pl : Int) (pub : H32) (keys : List H32) {K : Option Addr} {kc : Nat} (hkl : keys.length ≤ 1000000) (hK : Sl H 32 K (kfds keys)) (h : TrF H v t) (hf : Fz H w) : Calls Try.prog 23 #[v, .int .i64 pl, ha pub, .slice K keys.length kc] w (Outp H w fun H' r => ∃ v1, r = .tuple #[v1, .int .i64 (t.pathP pl pub keys).2] ∧ TrF H' v1 (t.pathP pl pub keys).1) := by
  obtain ⟨A, a, B, b, q, rfl, h1, h2, h3⟩ := h.ex
  exact path_q pl pub keys (fun H' v1 r e k => by rw [e]; exact ⟨v1, rfl, k⟩) hkl hK h1 h2 h3 h.len.1 h.len.2 hf
theorem rpath_c (pl : Int) (pub : H32) (keys : List H32) {K : Option Addr} {kc : Nat} (hkl : keys.length ≤ 1000000) (hK : Sl H 32 K (kfds keys)) (hR : t.Rt) (h : TrF H v t) (hf : Fz H w) : Calls Try.prog 24 #[v, .int .i64 pl, ha pub, .slice K keys.length kc] w (Outp H w fun H' r => ∃ v1, r = .tuple #[v1, .int .i64 (t.pathR pl pub keys).2] ∧ TrF H' v1 (t.pathR pl pub keys).1) := by
  obtain ⟨A, a, B, b, q, rfl, h1, h2, h3⟩ := h.ex
  exact rpath_q pl pub keys (fun H' v1 r e k => by rw [e]; exact ⟨v1, rfl, k⟩) hR hkl hK h1 h2 h3 hf
theorem keys_ok (pl : Int) (y : Int) (hy : 0 ≤ y ∧ y < 256) (hl : t.ls.length ≤ 1000) (h : TrF H v t) (hf : Fz H w) :
    Calls Try.prog 22 #[v, .int .i64 pl, .int .u8 y] w (Outp H w fun H' r => ∃ K kc, r = .slice K (keyL (dirL t.size pl).length y).length kc ∧ Sl H' 32 K (kfds (keyL (dirL t.size pl).length y))) := by
  obtain ⟨A, a, B, b, q, rfl, -⟩ := h.ex
  obtain ⟨w1, hw1⟩ : ∃ w1, w1 = w := ⟨_, rfl⟩
  rw [← hw1]
  rw [← hw1] at hf
  have hM := Mem.start hf
  have hts : t.size = t.ls.length := rfl
  have hdl := dirL_len t.size pl
  refine C_bevylaw08_keys ?_
  unfold F_bevylaw08_keys
  ((with_reducible (refine mm_box hM ?_; clear hM; intro _ _ hM)))
  rename_i g1 _
  have h0 : Mem H w1 (rowR 34 32 none 0 0 (kfds ((List.range 0).map (keyH y))) :: _) _ := hM.row0 34 32
  refine ⟨fun v u w' => ∃ (i : Nat) (K : Option Addr) (kc : Nat) (H2 : Hp), v = .slice K i kc ∧ u = .int .i64 i ∧ i ≤ (dirL t.size pl).length ∧ Le w1 H H2 ∧ Mem H2 w1 [rowR 34 32 K i kc (kfds ((List.range i).map (keyH y))), fb g1 27 (tfd A t.ls.length a B t.ps.length b)] w', fun _ u _ => match u with | .int _ k => (dirL t.size pl).length - k.toNat | _ => 0, ⟨0, none, 0, H, rfl, rfl, by omega, Le.refl _ _, h0⟩, ?_⟩
  clear hM h0
  rintro v u u2 w3 ⟨i, K, kc, H2, rfl, rfl, hi, l2, hM⟩
  ((with_reducible (refine mop_c trivial ?_; refine mm_ld hM ?_; refine mop_c trivial ?_)))
  refine mm_call hM (rdirect_any t.ls.length pl (by omega) hM.fz) ?_
  rintro H3 v w4 l3 hM ⟨D, c, rfl, -⟩
  rw [← hts]
  ((with_reducible (refine mop_c trivial ?_)))
  ((with_reducible (refine mop_cS trivial ?_ ?_)))
  · intro hlt
    have hi2 : i < (dirL t.size pl).length := by omega
    ((with_reducible (refine mif_true ?_; refine mop_c trivial ?_; refine mop_c ?_ ?_)); (focus (simp only [and_true]; omega)); (with_reducible (refine mm_bsl hM ?_ ?_ ?_)); (focus rfl); (focus (constructor <;> simp)); (with_reducible (clear hM; intro _ _ hM; refine mm_appo hM ?_ ?_)); (focus omega); (with_reducible (clear hM; intro _ _ _ hM; refine mop_c ?_ ?_)); (focus omega))
    rename_i A3 c3 _
    have hM : Mem H3 w1 [rowR 34 32 A3 (i + 1) c3 (kfds ((List.range i).map (keyH y)) ++ [[Fd.arr 32 (u8s (keyH y i).1)]]), fb g1 27 (tfd A t.ls.length a B t.ps.length b)] _ := hM.sub
    have e : kfds ((List.range i).map (keyH y)) ++ [[Fd.arr 32 (u8s (keyH y i).1)]] = kfds ((List.range (i + 1)).map (keyH y)) := by
      rw [List.range_succ, List.map_append]
      simp [kfds]
    rw [e] at hM
    exact ⟨⟨i + 1, A3, c3, H3, rfl, rfl, by omega, l2.trans l3, hM⟩, by simp only; omega⟩
  · intro hge
    obtain rfl : i = (dirL t.size pl).length := by omega
    ((with_reducible (refine mif_false ?_)))
    refine ⟨fun v w' => ∃ K kc, v = .slice K (keyL (dirL t.size pl).length y).length kc ∧ Mem H3 w1 [rowR 34 32 K (keyL (dirL t.size pl).length y).length kc (kfds (keyL (dirL t.size pl).length y))] w', ?_, ?_⟩
    · ((with_reducible (refine mop_cS trivial ?_ ?_)))
      · intro h200
        ((with_reducible (refine mif_true ?_; refine mop_c ?_ ?_)); (focus (simp only [and_true]; omega)); (with_reducible (refine mm_bsl hM ?_ ?_ ?_)); (focus rfl); (focus (constructor <;> simp)); (with_reducible (clear hM; intro _ _ hM; refine mm_appo hM ?_ ?_)); (focus omega); (with_reducible (clear hM; intro _ _ _ hM)))
        rename_i A3 c3 _
        have hM : Mem H3 w1 [rowR 34 32 A3 ((dirL t.size pl).length + 1) c3 (kfds ((List.range (dirL t.size pl).length).map (keyH y)) ++ [[Fd.arr 32 (u8s (hset hzero 0 y).1)]])] _ := hM.sub
        have e : keyL (dirL t.size pl).length y = (List.range (dirL t.size pl).length).map (keyH y) ++ [hset hzero 0 y] := by
          unfold keyL
          rw [if_pos h200]
        have e2 : (keyL (dirL t.size pl).length y).length = (dirL t.size pl).length + 1 := by rw [e]; simp
        have e3 : kfds ((List.range (dirL t.size pl).length).map (keyH y)) ++ [[Fd.arr 32 (u8s (hset hzero 0 y).1)]] = kfds (keyL (dirL t.size pl).length y) := by
          rw [e]
          simp [kfds]
        rw [e3, ← e2] at hM
        rw [← e2]
        exact ⟨A3, c3, rfl, hM⟩
      · intro h200
        ((with_reducible (refine mif_false ?_)))
        have e : keyL (dirL t.size pl).length y = (List.range (dirL t.size pl).length).map (keyH y) := by
          unfold keyL
          rw [if_neg h200]
          simp
        have e2 : (keyL (dirL t.size pl).length y).length = (dirL t.size pl).length := by rw [e]; simp
        rw [← e] at hM
        rw [e2]
        exact ⟨K, kc, rfl, hM.sub⟩
    clear hM
    rintro v u5 w5 ⟨K', kc', rfl, hM⟩
    obtain ⟨H4, l4, hM, hs, -⟩ := hM.fz0
    exact hM.out ((l2.trans l3).trans l4) ⟨K', kc', rfl, hs⟩
theorem treePaths_ok (pl : Int) (pub : H32) (y : Int) (hy : 0 ≤ y ∧ y < 256) (h : TrF H v t) (hf : Fz H w) : Calls Try.prog 5 #[v, .int .i64 pl, ha pub, .int .u8 y] w fun en w' => en = .returned (.bool true) ∧ St w [] w' := by
  obtain ⟨A, a, B, b, q, rfl, -⟩ := h.ex
  have hM := Mem.start hf
  refine C_bevylaw08_TreePaths ?_
  unfold F_bevylaw08_TreePaths
  ((with_reducible (refine mm_box hM ?_; clear hM; intro _ _ hM; refine mm_box hM ?_; clear hM; intro _ _ hM)))
  refine ⟨fun v w' => v = .bool (decide (¬ t.few ∨ ¬ t.right = true)) ∧ hM.now w', ?_, ?_⟩
  · ((with_reducible (refine mm_ld hM ?_)))
    refine mm_pure hM (few_c h hM.fz) (fun w hM => ?_)
    by_cases hc : t.few
    · rw [decide_eq_true hc]
      ((with_reducible (refine mop_c trivial ?_; refine mguard_yes ?_; refine mm_ld hM ?_; refine mguard_yes ?_)))
      refine mm_pure hM (tright_c h hM.fz) (fun w hM => ?_)
      cases hr : t.right
      · ((with_reducible (refine mguard_yes ?_; refine mop_c trivial ?_; refine mop_c trivial ?_)))
        exact ⟨by simp, hM⟩
      · ((with_reducible (refine mguard_yes ?_; refine mop_c trivial ?_; refine mop_c trivial ?_)))
        exact ⟨by simp [hc], hM⟩
    · rw [decide_eq_false hc]
      ((with_reducible (refine mop_c trivial ?_; (iterate 3 refine mguard_n1 ?_); refine mop_c trivial ?_)))
      exact ⟨by simp [hc], hM⟩
  rintro v u w2 ⟨rfl, hM⟩
  by_cases hc : ¬ t.few ∨ ¬ t.right = true
  · rw [decide_eq_true hc]
    ((with_reducible (refine mif_true ?_; refine mm_purC hM ?_ ?_)); (focus (first | exact trivial | assumption | omega)); (with_reducible (clear hM; intro _ hM)))
    exact ⟨rfl, hM.st⟩
  rw [decide_eq_false hc]
  have hr : t.right = true := Decidable.byContradiction fun h => hc (.inr h)
  have hR := Tr.rt.1 hr
  have hlen := hR.len
  ((with_reducible (refine mif_false ?_; refine mm_ld hM ?_)))
  refine mm_call hM (keys_ok pl y hy (by omega) h hM.fz) ?_
  rintro H1 v w3 l1 hM ⟨K, kc, rfl, hK⟩
  have hkl := keyL_len (dirL t.size pl).length y
  have hdl := dirL_len t.size pl
  generalize keyL (dirL t.size pl).length y = keys at *
  have h := h.mono l1.le
  have hpp : t.pathP pl pub keys = t.pathR pl pub keys := if_neg (by rw [hr]; simp)
  ((with_reducible (refine mm_ld hM ?_; refine mm_ld hM ?_)))
  refine mm_call hM (path_c pl pub keys (by omega) hK h hM.fz) ?_
  rintro H2 v w4 l2 hM ⟨v1, rfl, hT2⟩
  rw [hpp] at hT2
  rw [hpp]
  obtain ⟨A2, a2, B2, b2, q2, rfl, -⟩ := hT2.ex
  ((with_reducible (refine mop_c trivial ?_; refine mop_c trivial ?_; refine mm_new hM ?_; clear hM; intro _ _ hM; refine mm_st hM ?_; clear hM; intro _ hM; refine mm_ld hM ?_; refine mm_ld hM ?_)))
  refine mm_call hM (rpath_c pl pub keys (by omega) (hK.mono l2.le) hR (h.mono l2.le) hM.fz) ?_
  rintro H3 v w5 l3 hM ⟨v1, rfl, hT3⟩
  obtain ⟨A3, a3, B3, b3, q3, rfl, -⟩ := hT3.ex
  ((with_reducible (refine mop_c trivial ?_; refine mop_c trivial ?_; refine mm_new hM ?_; clear hM; intro _ _ hM; refine mm_st hM ?_; clear hM; intro _ hM; refine mm_purC hM ?_ ?_)); (focus (first | exact trivial | assumption | omega)); (with_reducible (clear hM; intro _ hM; refine mguard_yes ?_; refine mop_c trivial ?_; refine mguard_yes ?_; refine mop_c trivial ?_; refine mguard_yes ?_; refine mop_cT trivial ?_ ?_)); (focus (first | assumption | omega | with_reducible rfl | exact fun h => Bool.noConfusion h)); (with_reducible (refine mop_c trivial ?_; refine mguard_yes ?_; refine mm_ld hM ?_; refine mguard_yes ?_; refine mm_ld hM ?_; refine mguard_yes ?_)))
  refine mm_pure hM (tsame_ok (hT2.mono l3.le) hT3 hM.fz) (fun w hM => ?_)
  rw [decide_eq_true rfl]
  ((with_reducible (refine mop_c trivial ?_)))
  exact ⟨rfl, hM.st⟩
end
end Go.Proofs.Ytopcnkejobomaaa
