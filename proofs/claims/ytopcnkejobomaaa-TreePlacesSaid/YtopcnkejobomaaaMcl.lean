/- Appends, freezing, calls, closures over memory as resources. No program is named here. -/
import Derived.Test.YtopcnkejobomaaaMrw
namespace Go.Proofs.Ytopcnkejobomaaa
open Go.RowKit

section
variable {P : Program} {H H' : Hp} {w0 w w' : World} {L R R' : List Res} {g i j : Nat} {t t' tx ty : TypeId} {fs gs fs' : List Fd} {put : Res → List Res} {q : Bool} {n m cap cap' capx e e' ex sz by_ : Nat} {v x : Value} {K : Value → World → Prop} {X : List PanicEntry → World → Prop} {Kq : Value → Prop} {A A' B : Option Addr} {ps qs : List (List Fd)} {ks : List Bool}
theorem AtR.nil (L : List Res) (e sz : Nat) : AtR (rowR e sz none 0 0 [] :: L) none 0 0 e sz [] L := ⟨.refl _⟩
theorem SliC.und (c : SliC P t e sz by_) : P.underlying t = some (.slice e) := (sli_spec c.ok).1
/-- append(row, other...), the other one's own: it is dropped. -/
theorem mm_appo (h : Mem H w0 L w) [c : SliC P t e sz by_] [k : AtR L A n cap e sz ps R] [k' : AtR R B m capx ex sz qs R'] [cx : SliC P tx e' sz by_] (hb : n + m ≤ 9223372036854775807 ∧ (n + m) * by_ ≤ 140737488355328)
    (hk : ∀ A' cap' w', Mem H w0 (rowR e sz A' (n + m) cap' (ps ++ qs) :: R') w' → K (.slice A' (n + m) cap') w') : mop P (o_builtin .append #[t, tx] ty ks [.slice A n cap, .slice B m capx]) w K X := by
  have h2 := h.perm k.perm
  have kx : AtR (rowR e sz A n cap ps :: R) B m capx ex sz qs (rowR e sz A n cap ps :: R') := inferInstance
  have hs := h2.src kx cx.und capx
  obtain ⟨h3, _, _, h4⟩ := h2.rowLen kx
  exact mm_app h k hs h4 h3 hb.1 hb.2 fun A' cap' w' h5 => hk A' cap' w' ((h5.perm ((k'.perm.cons _).trans (.swap ..))).drop)
/-- The same onto nil. -/
theorem mm_appo0 (h : Mem H w0 L w) [c : SliC P t e sz by_] [k' : AtR L B m capx ex sz qs R'] [cx : SliC P tx e' sz by_] (hb : m ≤ 9223372036854775807 ∧ m * by_ ≤ 140737488355328)
    (hk : ∀ A' cap' w', Mem H w0 (rowR e sz A' m cap' qs :: R') w' → K (.slice A' m cap') w') : mop P (o_builtin .append #[t, tx] ty ks [.slice none 0 0, .slice B m capx]) w K X := by
  have h2 := h.row0 e sz
  have k0 := AtR.nil L e sz
  exact mm_appo h2 (by simpa using hb) fun A' cap' w' h5 => by
    have := hk A' cap' w' (by simpa using h5)
    simpa using this
/-- append(row, frozen...). -/
theorem mm_apps (h : Mem H w0 L w) [c : SliC P t e sz by_] [k : AtR L A n cap e sz ps R] [cx : SliC P tx e' sz by_] (a : Sl H sz B qs) (hm : m = qs.length) (hb : n + m ≤ 9223372036854775807 ∧ (n + m) * by_ ≤ 140737488355328)
    (hk : ∀ A' cap' w', Mem H w0 (rowR e sz A' (n + m) cap' (ps ++ qs) :: R) w' → K (.slice A' (n + m) cap') w') : mop P (o_builtin .append #[t, tx] ty ks [.slice A n cap, .slice B m capx]) w K X := by
  subst hm
  exact mm_app h k (a.src h.fz cx.und capx) a.els rfl hb.1 hb.2 hk
theorem mm_apps0 (h : Mem H w0 L w) [c : SliC P t e sz by_] [cx : SliC P tx e' sz by_] (a : Sl H sz B qs) (hm : m = qs.length) (hb : m ≤ 9223372036854775807 ∧ m * by_ ≤ 140737488355328)
    (hk : ∀ A' cap' w', Mem H w0 (rowR e sz A' m cap' qs :: L) w' → K (.slice A' m cap') w') : mop P (o_builtin .append #[t, tx] ty ks [.slice none 0 0, .slice B m capx]) w K X := by
  have h2 := h.row0 e sz
  exact mm_apps h2 a hm (by simpa using hb) fun A' cap' w' h5 => by
    have := hk A' cap' w' (by simpa using h5)
    simpa using this
/-- The same where the order is drawn. -/
theorem df_of {ext : Bool} {s : Sem Next} (h : Mem H w0 L w) (hk : ∀ w', Mem H w0 L w' → mop P s w' (fun v w2 => (ext = true → Ext w w2) ∧ K v w2) (fun _ _ => False)) : df P w s ext K := df_mop fun w1 hd => hk w1 (h.drawn hd)
theorem df_no (h : Mem H w0 L w) {s : Sem Next} (hk : ∀ w', Mem H w0 L w' → mop P s w' K (fun _ _ => False)) : df P w s false K := df_mop fun w1 hd => mop_mono (hk w1 (h.drawn hd)) (fun _ _ h => ⟨(fun e => by cases e), h⟩) (fun _ _ h => h)
theorem dm_bsl {ext : Bool} {ps : List (Nat × Value)} (h : Mem H w0 L w) [c : SliC P t e sz by_] [k : Lits P sz 0 ps qs] (hn : n = ps.length) (hsz : ps.length * sz ≤ 16777216 ∧ ps.length ≤ 16777216) (hk : ∀ g w', Mem H w0 (rowR e sz (some ⟨g, 0, none⟩) n n qs :: L) w' → K (.slice (some ⟨g, 0, none⟩) n n) w') : df P w (o_buildSlice t n ps) ext K := by
  refine df_mop fun w1 hd => ?_
  subst hn
  have hm := mm_bsl (P := P) (K := fun v w2 => w2 = w1.alloc (.cells (fls qs).toArray e) ∧ K v w2) (X := fun _ _ => False) (h.drawn hd) (c := c) (k := k) rfl hsz
  have hr := run_buildSlice (w := w1) c k hsz.1
  obtain ⟨h1, h2, _⟩ := k.ok
  refine mop_run hr ⟨fun _ => hd.ext.trans ((Only.refl _ w1).alloc _), ?_⟩
  refine hk _ _ ?_
  obtain ⟨B, hl, hs, hb⟩ := (h.drawn hd).own
  refine ⟨⟨⟨w1.heap.size, e, fls qs, true⟩ :: B, ⟨[⟨w1.heap.size, e, fls qs, true⟩], B, rfl, ⟨h1, h2.symm, .inr ⟨w1.heap.size, [], rfl, by simp, by simp [h1.len, h2], Nat.le_refl _, Nat.le_trans hsz.2 (by decide)⟩⟩, hl⟩, hs.alloc e (fls qs), fun b hm => ?_⟩, (h.drawn hd).fz.ext ((Only.refl _ w1).alloc _)⟩
  rcases List.mem_cons.1 hm with rfl | hm
  · refine ⟨rfl, ?_⟩
    cases hh : H w1.heap.size with
    | none => rfl
    | some c => have := (h.drawn hd).fz.lt hh; omega
  · exact hb b hm
/-! Regions whose effects may turn a row. -/
theorem Mem.ne {k : Nat} {tt : TypeId} (h : Mem H w0 L w) (a : AtR L A n cap e sz ps R) (b : AtB R k tt fs put) : ¬ A = some ⟨k, 0, none⟩ := by
  rintro rfl
  obtain ⟨R', h1, _⟩ := b.perm
  obtain ⟨B, ⟨B1, B2, rfl, ⟨_, _, h3⟩, B3, B4, rfl, ⟨_, rfl⟩, _⟩, hs, _⟩ := (h.perm (a.perm.trans (h1.cons _))).own
  rcases h3 with ⟨hA, _⟩ | ⟨g', sp, hA, rfl, _⟩
  · cases hA
  · cases hA
    have := (List.pairwise_cons.1 hs.ne).1 ⟨k, tt, fl fs, true⟩ (by simp)
    exact this rfl
theorem Mem.ne' {k : Nat} (h : Mem H w0 L w) (a : AtR L A n cap e sz ps R) {c : Array Value} (b : H k = some c) : ¬ A = some ⟨k, 0, none⟩ := by
  rintro rfl
  obtain ⟨_, _, B, _, _, _, hA⟩ := h.open_ a
  rw [hA k rfl] at b
  cases b
theorem dS_ld {k : Nat} {tt : TypeId} {gs : List Fd} {S : Nat → Prop} (h : Mem H w0 L w) [c : ShpC P t q n] [a : AtB L k tt fs put] [s : Sub fs i n gs] [f : Fv q gs v] (hS : ¬ S k) (hk : Kq v) : dqS P (Rl.only S) w (o_load t (.pointer (some ⟨k, i, none⟩))) Kq := by
  obtain ⟨h1, h2, h3⟩ := h.field a s
  obtain ⟨hb, _⟩ := h.blf a
  refine ⟨v, fun w' hw => ?_, hk⟩
  have := pw_fields (w := w') (b := k) (o := i) c.ok h1 h2 f fun j u hu => (hw.cell (p := ⟨k, i + j, none⟩) hb.lt hS).trans (h3 j u hu)
  unfold opq
  rw [this]
  exact ⟨rfl, Drawn.refl w'⟩
theorem dS_bsl {S : Nat → Prop} {ext : Bool} {ps : List (Nat × Value)} (h : Mem H w0 L w) [c : SliC P t e sz by_] [k : Lits P sz 0 ps qs] (hn : n = ps.length) (hsz : ps.length * sz ≤ 16777216 ∧ ps.length ≤ 16777216) (hk : ∀ g w', Mem H w0 (rowR e sz (some ⟨g, 0, none⟩) n n qs :: L) w' → K (.slice (some ⟨g, 0, none⟩) n n) w') : dfS P (Rl.only S) w (o_buildSlice t n ps) ext K :=
  ⟨fun w1 hd => mop_mono ((dm_bsl (ext := true) h hn hsz hk).out w1 hd) (fun _ _ h => ⟨fun _ => (h.1 rfl).mono fun _ _ h => h.elim, h.2⟩) (fun _ _ h => h)⟩
theorem dS_st {S : Rl} {tt : TypeId} {gs fs' : List Fd} {k : Nat} (h : Mem H w0 L w) [c : ShpC P t q n] [a : AtB L k tt fs put] [f : Vf v n gs] [p : Put fs i gs fs'] (hk : ∀ w', Mem H w0 (put (fb k tt fs')) w' → K undef w') : dfS P S w (o_store t (.pointer (some ⟨k, i, none⟩)) v) false K :=
  ⟨fun w1 hd => mop_mono ((dm_st h hk).out w1 hd) (fun _ _ h => ⟨(fun e => by cases e), h.2⟩) (fun _ _ h => h)⟩
theorem dS_appo {ext : Bool} (h : Mem H w0 L w) [c : SliC P t e sz by_] [k : AtR L A n cap e sz ps R] [k' : AtR R B m capx ex sz qs R'] [cx : SliC P tx e' sz by_] (hb : n + m ≤ 9223372036854775807 ∧ (n + m) * by_ ≤ 140737488355328)
    (hk : ∀ A' cap' w', Mem H w0 (rowR e sz A' (n + m) cap' (ps ++ qs) :: R') w' → K (.slice A' (n + m) cap') w') : dfS P (Rl.only fun g => A = some ⟨g, 0, none⟩) w (o_builtin .append #[t, tx] ty ks [.slice A n cap, .slice B m capx]) ext K := ⟨fun w1 hd => by
  have h := h.drawn hd
  have h2 := h.perm k.perm
  have kx : AtR (rowR e sz A n cap ps :: R) B m capx ex sz qs (rowR e sz A n cap ps :: R') := inferInstance
  have hs := h2.src kx cx.und capx
  obtain ⟨h3, _, _, h4⟩ := h2.rowLen kx
  exact mm_appX h k hs h4 h3 hb.1 hb.2 fun A' cap' w' ho h5 => ⟨fun _ => (hd.onlyS _).trans1 ho, hk A' cap' w' ((h5.perm ((k'.perm.cons _).trans (.swap ..))).drop)⟩⟩
/-! Freezing -/
theorem Mem.freeze (h : Mem H w0 L w) (k : AtR L A n cap e sz ps R) : ∃ H', Le w0 H H' ∧ Mem H' w0 R w ∧ Sl H' sz A ps ∧ ps.length = n := by
  obtain ⟨B, ⟨B1, B2, rfl, ⟨h1, h2, h3⟩, h4⟩, hs, hb⟩ := (h.perm k.perm).own
  rcases h3 with ⟨rfl, hn, _, rfl⟩ | ⟨g, sp, rfl, rfl, h5⟩
  · have : ps = [] := List.eq_nil_of_length_eq_zero (by omega)
    subst this
    exact ⟨H, Le.refl _ _, ⟨⟨B2, h4, hs, hb⟩, h.fz⟩, Sl.nil H sz _, h2⟩
  · have hs : St w0 (⟨g, e, fls ps ++ sp, true⟩ :: B2) w := hs
    have hg := hb ⟨g, e, fls ps ++ sp, true⟩ (by simp)
    have hbf := hs.head
    have hne := (List.pairwise_cons.1 hs.ne).1
    refine ⟨fun b => if b = g then some (fls ps ++ sp).toArray else H b, ⟨fun b c hc => ?_, fun b hb1 hc => ?_⟩, ⟨⟨B2, h4, hs.drop, fun b hm => ⟨(hb b (List.mem_append.2 (.inr hm))).1, ?_⟩⟩, fun b c hc => ?_⟩, ⟨h1, .inr ⟨g, 0, (fls ps ++ sp).toArray, rfl, if_pos rfl, fun j u hu => ?_⟩⟩, h2⟩
    · show (if b = g then _ else H b) = _
      rw [if_neg]
      · exact hc
      · rintro rfl
        have := hg.2
        simp only [hc] at this
        cases this
    · show (if b = g then _ else H b) = _
      rw [if_neg]
      · exact hc
      · rintro rfl
        have := hs.new _ (List.mem_cons_self ..) rfl
        simp only at this
        omega
    · show (if b.g = g then _ else H b.g) = _
      rw [if_neg]
      · exact (hb b (List.mem_append.2 (.inr hm))).2
      · intro e
        exact hne b hm e.symm
    · have hc : (if b = g then some (fls ps ++ sp).toArray else H b) = some c := hc
      split at hc
      · rename_i e
        cases hc
        obtain ⟨fr, hh, _⟩ := hbf
        exact ⟨_, _, by rw [e]; exact hh⟩
      · exact h.fz b c hc
    · rw [Nat.zero_add]
      simp only [List.getElem?_toArray]
      rw [List.getElem?_append_left (List.getElem?_eq_some_iff.1 hu).1]
      exact hu
/-! Calls -/
/-- What a call answers that makes memory and changes nothing. -/
def Outp (H : Hp) (w : World) (Q : Hp → Value → Prop) : Ending → World → Prop := fun en w' => ∃ v H', en = .returned v ∧ Le w H H' ∧ Mem H' w [] w' ∧ Q H' v
theorem Mem.out {Q : Hp → Value → Prop} (h : Mem H' w0 L w) (hl : Le w0 H H') (hq : Q H' v) : Outp H w0 Q (.returned v) w := ⟨v, H', rfl, hl, h.nil, hq⟩
theorem Outp.ext {Q : Hp → Value → Prop} {en : Ending} (h : Outp H w Q en w') : Ext w w' := by
  obtain ⟨_, _, _, _, h, _⟩ := h
  exact h.ext
theorem mm_call {f : Nat} {args : List Value} {Q : Hp → Value → Prop} (h : Mem H w0 L w) [hf : FunC P f] (hc : Calls P f args.toArray w (Outp H w Q)) (hk : ∀ H' v w', Le w0 H H' → Mem H' w0 L w' → Q H' v → K v w') : mop P (o_call (fv f) args) w K X :=
  mop_to hc fun en w' ⟨v, H', he, hl, hm, hq⟩ => by
    subst he
    exact hk H' v w' (hl.old h.ext.size) (h.call hm hl.new) hq
theorem dm_call {f : Nat} {args : List Value} {ext : Bool} {Q : Hp → Value → Prop} (h : Mem H w0 L w) [hf : FunC P f] (hc : ∀ w, Mem H w0 L w → Calls P f args.toArray w (Outp H w Q)) (hk : ∀ H' v w', Ext w w' → Le w0 H H' → Mem H' w0 L w' → Q H' v → K v w') : df P w (o_call (fv f) args) ext K :=
  df_mop fun w1 hd => mop_to (hc w1 (h.drawn hd)) fun en w' ⟨v, H', he, hl, hm, hq⟩ => by
    subst he
    have hx := hd.ext.trans hm.ext
    exact ⟨fun _ => hx, hk H' v w' hx (hl.old (h.drawn hd).ext.size) ((h.drawn hd).call hm hl.new) hq⟩
/-- A call with a plain answer. -/
theorem mm_pure {f : Nat} {args : List Value} (h : Mem H w0 L w) [hf : FunC P f] (hc : Calls P f args.toArray w fun en w' => en = .returned v ∧ St w [] w') (hk : ∀ w', Mem H w0 L w' → K v w') : mop P (o_call (fv f) args) w K X :=
  mop_to hc fun en w' ⟨he, hs⟩ => by
    subst he
    exact hk w' (h.call0 hs)
theorem dm_pure {f : Nat} {args : List Value} {ext : Bool} (h : Mem H w0 L w) [hf : FunC P f] (hc : ∀ w, Mem H w0 L w → Calls P f args.toArray w fun en w' => en = .returned v ∧ St w [] w') (hk : ∀ w', Ext w w' → Mem H w0 L w' → K v w') : df P w (o_call (fv f) args) ext K :=
  df_mop fun w1 hd => mop_to (hc w1 (h.drawn hd)) fun en w' ⟨he, hs⟩ => by
    subst he
    have hx : Ext w w' := hd.ext.trans (hs.only.mono fun _ _ ⟨_, hm, _⟩ => by cases hm)
    exact ⟨fun _ => hx, hk w' hx ((h.drawn hd).call0 hs)⟩
/-- What a call answers that works on what is owned. -/
theorem mm_own {f : Nat} {args : List Value} {Q : Value → World → Prop} [hf : FunC P f] (hc : Calls P f args.toArray w fun en w' => ∃ v, en = .returned v ∧ Q v w') (hk : ∀ v w', Q v w' → K v w') : mop P (o_call (fv f) args) w K X :=
  mop_to hc fun en w' ⟨v, he, hq⟩ => by
    subst he
    exact hk v w' hq
theorem dm_own {f : Nat} {args : List Value} {Q : Value → World → Prop} (h : Mem H w0 L w) [hf : FunC P f] (hc : ∀ w, Mem H w0 L w → Calls P f args.toArray w fun en w' => ∃ v, en = .returned v ∧ Q v w') (hk : ∀ v w', Q v w' → K v w') : df P w (o_call (fv f) args) false K :=
  df_mop fun w1 hd => mop_to (hc w1 (h.drawn hd)) fun en w' ⟨v, he, hq⟩ => by
    subst he
    exact ⟨(fun e => by cases e), hk v w' hq⟩
/-! Function values -/
theorem p_func (fn : Fn) (a b : List Value) (hfn : ∃ f, fn = .func f) : Pur P (o_func fn a b) (.func fn a.toArray b.toArray) := fun w => by
  obtain ⟨f, rfl⟩ := hfn
  simp [o_func, sv, Instr.makeFunc]
instance (f : Nat) (a b : List Value) : StepC P (o_func (.func f) a b) True (.func (.func f) a.toArray b.toArray) := ⟨fun _ => p_func _ a b ⟨f, rfl⟩⟩
theorem mop_callv {f : Nat} {first captured : Array Value} {args : List Value} {Q : Ending → World → Prop} [hf : FunC P f] (h : Calls P f (first ++ args.toArray ++ captured) w Q) (hk : ∀ en w', Q en w' → match en with
      | .returned v => K v w'
      | .panicked c => X c w'
      | .outgrown => False) : mop P (o_call (.func (.func f) first captured) args) w K X := by
  constructor
  have hb := hf.ok
  have hr : (o_call (.func (.func f) first captured) args).run P w = .ok (.enter f (first ++ args.toArray ++ captured)) w := by
    cases hff : P.funcs[f]? with
    | none => simp [hff] at hb
    | some fn =>
      simp [hff] at hb
      have hb1 : ¬ fn.body = none := by intro h; rw [h] at hb; simp at hb
      simp [o_call, Deferred.ofValue, invoke, callFunc, hff, go_sem, hb.2, hb1]
  rw [hr]
  exact h.mono fun en w' he => by
    have := hk en w' he
    cases en <;> exact this
/-- A slice beside nil. -/
theorem run_equalIn_nil (d : Nat) (t e : TypeId) (a : Option Addr) (n cp : Nat) (he : P.underlying t = some (.slice e)) : (Op.equalIn (d + 1) t (.slice a n cp) (.slice none 0 0)).run P w = .ok a.isNone w := by
  cases a <;> simp [Op.equalIn, run_underlying he]
theorem run_equalIn_pnil (d : Nat) (t e : TypeId) (a : Option Addr) (he : P.underlying t = some (.pointer e)) : (Op.equalIn (d + 1) t (.pointer a) (.pointer none)).run P w = .ok a.isNone w := by
  cases a <;> simp [Op.equalIn, run_underlying he]
theorem run_o_eql {t : TypeId} {c : Bool} {x y : Value} {b : Bool} (hg : ∀ u v, (eqGuard .eql t u v x y).run P w = .ok () w) (hb : binOp .eql t x y = (do pure (.bool (← Op.equal t x y)))) (h : (Op.equalIn 10000 t x y).run P w = .ok b w) : (o_bin .eql t c x y).run P w = .ok (.value (.bool b)) w := by
  have h' : (Op.equal t x y).run P w = .ok b w := h
  simp only [o_bin, sv, Sem.run_bind, hg, hb, Result.andThen_ok, h', Sem.run_pure]
theorem run_o_neq {t : TypeId} {c : Bool} {x y : Value} {b : Bool} (hg : ∀ u v, (eqGuard .neq t u v x y).run P w = .ok () w) (hb : binOp .neq t x y = (do pure (.bool !(← Op.equal t x y)))) (h : (Op.equalIn 10000 t x y).run P w = .ok b w) : (o_bin .neq t c x y).run P w = .ok (.value (.bool !b)) w := by
  have h' : (Op.equal t x y).run P w = .ok b w := h
  simp only [o_bin, sv, Sem.run_bind, hg, hb, Result.andThen_ok, h', Sem.run_pure]
theorem p_eq_nil (t : TypeId) (c : Bool) (a : Option Addr) (n cp e : Nat) (he : P.underlying t = some (.slice e)) : Pur P (o_bin .eql t c (.slice a n cp) (.slice none 0 0)) (.bool a.isNone) := fun w =>
  run_o_eql (fun _ _ => by simp only [eqGuard]; rfl) (by simp only [binOp]) (run_equalIn_nil (P := P) (w := w) 9999 t e a n cp he)
theorem p_ne_nil (t : TypeId) (c : Bool) (a : Option Addr) (n cp e : Nat) (he : P.underlying t = some (.slice e)) : Pur P (o_bin .neq t c (.slice a n cp) (.slice none 0 0)) (.bool (!a.isNone)) := fun w =>
  run_o_neq (fun _ _ => by simp only [eqGuard]; rfl) (by simp only [binOp]) (run_equalIn_nil (P := P) (w := w) 9999 t e a n cp he)
/-- A pointer beside nil. -/
theorem p_ptr_nil (t : TypeId) (c : Bool) (a : Option Addr) (e : TypeId) (he : P.underlying t = some (.pointer e)) : Pur P (o_bin .eql t c (.pointer a) (.pointer none)) (.bool a.isNone) := fun w =>
  run_o_eql (fun _ _ => by simp only [eqGuard]; rfl) (by simp only [binOp]) (run_equalIn_pnil (P := P) (w := w) 9999 t e a he)
theorem p_ptr_nnil (t : TypeId) (c : Bool) (a : Option Addr) (e : TypeId) (he : P.underlying t = some (.pointer e)) : Pur P (o_bin .neq t c (.pointer a) (.pointer none)) (.bool (!a.isNone)) := fun w =>
  run_o_neq (fun _ _ => by simp only [eqGuard]; rfl) (by simp only [binOp]) (run_equalIn_pnil (P := P) (w := w) 9999 t e a he)
end
end Go.Proofs.Ytopcnkejobomaaa
