/- Part 2 of the proof. -/
import Derived.Test.YtpjodlnlmaaihaaGreatPk1
import Derived.Test.YtpjodlnlmaaihaaGreatProg
import Derived.KernelRfl
set_option linter.unusedVariables false
namespace Go.Proofs.YtpjodlnlmaaihaaGreat
open Go.RowKit
section
variable {P : Program} {H H' : Hp} {w0 w w' : World} {L R R' : List Res} {g i j : Nat} {t t' tx ty : TypeId} {fs gs fs' : List Fd} {put : Res → List Res} {q : Bool} {n m cap cap' capx e e' ex sz by_ : Nat} {v x : Value} {K : Value → World → Prop} {X : List PanicEntry → World → Prop} {Kq : Value → Prop} {A A' B : Option Addr} {ps qs : List (List Fd)} {ks : List Bool}
theorem AtR.nil (L : List Res) (e sz : Nat) : AtR (rowR e sz none 0 0 [] :: L) none 0 0 e sz [] L := ⟨.refl _⟩
theorem SliC.und (c : SliC P t e sz by_) : P.underlying t = some (.slice e) := (sli_spec c.ok).1
theorem mm_appo (h : Mem H w0 L w) [c : SliC P t e sz by_] [k : AtR L A n cap e sz ps R] [k' : AtR R B m capx ex sz qs R'] [cx : SliC P tx e' sz by_] (hb : n + m ≤ 9223372036854775807 ∧ (n + m) * by_ ≤ 140737488355328)
    (hk : ∀ A' cap' w', Mem H w0 (rowR e sz A' (n + m) cap' (ps ++ qs) :: R') w' → K (.slice A' (n + m) cap') w') : mop P (o_builtin .append #[t, tx] ty ks [.slice A n cap, .slice B m capx]) w K X := by
  have h2 := h.perm k.perm
  have kx : AtR (rowR e sz A n cap ps :: R) B m capx ex sz qs (rowR e sz A n cap ps :: R') := inferInstance
  have hs := h2.src kx cx.und capx
  obtain ⟨h3, _, _, h4⟩ := h2.rowLen kx
  exact mm_app h k hs h4 h3 hb.1 hb.2 fun A' cap' w' h5 => hk A' cap' w' ((h5.perm ((k'.perm.cons _).trans (.swap ..))).drop)
theorem mm_apps (h : Mem H w0 L w) [c : SliC P t e sz by_] [k : AtR L A n cap e sz ps R] [cx : SliC P tx e' sz by_] (a : Sl H sz B qs) (hm : m = qs.length) (hb : n + m ≤ 9223372036854775807 ∧ (n + m) * by_ ≤ 140737488355328)
    (hk : ∀ A' cap' w', Mem H w0 (rowR e sz A' (n + m) cap' (ps ++ qs) :: R) w' → K (.slice A' (n + m) cap') w') : mop P (o_builtin .append #[t, tx] ty ks [.slice A n cap, .slice B m capx]) w K X := by
  subst hm
  exact mm_app h k (a.src h.fz cx.und capx) a.els rfl hb.1 hb.2 hk
theorem mm_apps0 (h : Mem H w0 L w) [c : SliC P t e sz by_] [cx : SliC P tx e' sz by_] (a : Sl H sz B qs) (hm : m = qs.length) (hb : m ≤ 9223372036854775807 ∧ m * by_ ≤ 140737488355328)
    (hk : ∀ A' cap' w', Mem H w0 (rowR e sz A' m cap' qs :: L) w' → K (.slice A' m cap') w') : mop P (o_builtin .append #[t, tx] ty ks [.slice none 0 0, .slice B m capx]) w K X := by
  have h2 := h.row0 e sz
  exact mm_apps h2 a hm (by simpa using hb) fun A' cap' w' h5 => by
    have := hk A' cap' w' (by simpa using h5)
    simpa using this
theorem df_no (h : Mem H w0 L w) {s : Sem Next} (hk : ∀ w', Mem H w0 L w' → mop P s w' K (fun _ _ => False)) : df P w s false K := df_mop fun w1 hd => mop_mono (hk w1 (h.drawn hd)) (fun _ _ h => ⟨(fun e => by cases e), h⟩) (fun _ _ h => h)
theorem dm_bsl {ext : Bool} {ps : List (Nat × Value)} (h : Mem H w0 L w) [c : SliC P t e sz by_] [k : Lits P sz 0 ps qs] (hn : n = ps.length) (hsz : ps.length * sz ≤ 16777216 ∧ ps.length ≤ 16777216) (hk : ∀ g w', Mem H w0 (rowR e sz (some ⟨g, 0, none⟩) n n qs :: L) w' → K (.slice (some ⟨g, 0, none⟩) n n) w') : df P w (o_buildSlice t n ps) ext K := by
  refine df_mop fun w1 hd => ?_
  subst hn
  have hm := mm_bsl (P := P) (K := fun v w2 => w2 = w1.alloc (.cells (fls qs).toArray e) ∧ K v w2) (X := fun _ _ => False) (h.drawn hd) (c := c) (k := k) rfl hsz
  have hr := run_buildSlice (w := w1) c k hsz.1
  obtain ⟨h1, h2, _⟩ := k.ok
  refine mop_run hr ⟨fun _ => hd.ext.trans ((Only.refl _ w1).alloc _), ?_⟩
  refine hk _ _ ?_
  obtain ⟨B, hl, hs, hb⟩ := (h.drawn hd).own
  refine ⟨⟨⟨w1.heap.size, e, fls qs, true⟩ :: B, ⟨[⟨w1.heap.size, e, fls qs, true⟩], B, rfl, ⟨h1, h2.symm, .inr ⟨w1.heap.size, [], rfl, by simp, by simp [h1.len, h2], Nat.le_refl _, Nat.le_trans hsz.2 (by decide)⟩⟩, hl⟩, hs.alloc e (fls qs), fun b hm => ?_⟩, (h.drawn hd).fz.ext ((Only.refl _ w1).alloc _)⟩
  rcases List.mem_cons.1 hm with rfl | hm
  · refine ⟨rfl, ?_⟩
    cases hh : H w1.heap.size with
    | none => rfl
    | some c => have := (h.drawn hd).fz.lt hh; omega
  · exact hb b hm
theorem Mem.ne {k : Nat} {tt : TypeId} (h : Mem H w0 L w) (a : AtR L A n cap e sz ps R) (b : AtB R k tt fs put) : ¬ A = some ⟨k, 0, none⟩ := by
  rintro rfl
  obtain ⟨R', h1, _⟩ := b.perm
  obtain ⟨B, ⟨B1, B2, rfl, ⟨_, _, h3⟩, B3, B4, rfl, ⟨_, rfl⟩, _⟩, hs, _⟩ := (h.perm (a.perm.trans (h1.cons _))).own
  rcases h3 with ⟨hA, _⟩ | ⟨g', sp, hA, rfl, _⟩
  · cases hA
  · cases hA
    have := (List.pairwise_cons.1 hs.ne).1 ⟨k, tt, fl fs, true⟩ (by simp)
    exact this rfl
theorem dS_ld {k : Nat} {tt : TypeId} {gs : List Fd} {S : Nat → Prop} (h : Mem H w0 L w) [c : ShpC P t q n] [a : AtB L k tt fs put] [s : Sub fs i n gs] [f : Fv q gs v] (hS : ¬ S k) (hk : Kq v) : dqS P (Rl.only S) w (o_load t (.pointer (some ⟨k, i, none⟩))) Kq := by
  obtain ⟨h1, h2, h3⟩ := h.field a s
  obtain ⟨hb, _⟩ := h.blf a
  refine ⟨v, fun w' hw => ?_, hk⟩
  have := pw_fields (w := w') (b := k) (o := i) c.ok h1 h2 f fun j u hu => (hw.cell (p := ⟨k, i + j, none⟩) hb.lt hS).trans (h3 j u hu)
  unfold opq
  rw [this]
  exact ⟨rfl, Drawn.refl w'⟩
theorem dS_bsl {S : Nat → Prop} {ext : Bool} {ps : List (Nat × Value)} (h : Mem H w0 L w) [c : SliC P t e sz by_] [k : Lits P sz 0 ps qs] (hn : n = ps.length) (hsz : ps.length * sz ≤ 16777216 ∧ ps.length ≤ 16777216) (hk : ∀ g w', Mem H w0 (rowR e sz (some ⟨g, 0, none⟩) n n qs :: L) w' → K (.slice (some ⟨g, 0, none⟩) n n) w') : dfS P (Rl.only S) w (o_buildSlice t n ps) ext K :=
  ⟨fun w1 hd => mop_mono ((dm_bsl (ext := true) h hn hsz hk).out w1 hd) (fun _ _ h => ⟨fun _ => (h.1 rfl).mono fun _ _ h => h.elim, h.2⟩) (fun _ _ h => h)⟩
theorem dS_st {S : Rl} {tt : TypeId} {gs fs' : List Fd} {k : Nat} (h : Mem H w0 L w) [c : ShpC P t q n] [a : AtB L k tt fs put] [f : Vf v n gs] [p : Put fs i gs fs'] (hk : ∀ w', Mem H w0 (put (fb k tt fs')) w' → K undef w') : dfS P S w (o_store t (.pointer (some ⟨k, i, none⟩)) v) false K :=
  ⟨fun w1 hd => mop_mono ((dm_st h hk).out w1 hd) (fun _ _ h => ⟨(fun e => by cases e), h.2⟩) (fun _ _ h => h)⟩
theorem Mem.freeze (h : Mem H w0 L w) (k : AtR L A n cap e sz ps R) : ∃ H', Le w0 H H' ∧ Mem H' w0 R w ∧ Sl H' sz A ps ∧ ps.length = n := by
  obtain ⟨B, ⟨B1, B2, rfl, ⟨h1, h2, h3⟩, h4⟩, hs, hb⟩ := (h.perm k.perm).own
  rcases h3 with ⟨rfl, hn, _, rfl⟩ | ⟨g, sp, rfl, rfl, h5⟩
  · have : ps = [] := List.eq_nil_of_length_eq_zero (by omega)
    subst this
    exact ⟨H, Le.refl _ _, ⟨⟨B2, h4, hs, hb⟩, h.fz⟩, Sl.nil H sz _, h2⟩
  · have hs : St w0 (⟨g, e, fls ps ++ sp, true⟩ :: B2) w := hs
    have hg := hb ⟨g, e, fls ps ++ sp, true⟩ (by simp)
    have hbf := hs.head
    have hne := (List.pairwise_cons.1 hs.ne).1
    refine ⟨fun b => if b = g then some (fls ps ++ sp).toArray else H b, ⟨fun b c hc => ?_, fun b hb1 hc => ?_⟩, ⟨⟨B2, h4, hs.drop, fun b hm => ⟨(hb b (List.mem_append.2 (.inr hm))).1, ?_⟩⟩, fun b c hc => ?_⟩, ⟨h1, .inr ⟨g, 0, (fls ps ++ sp).toArray, rfl, if_pos rfl, fun j u hu => ?_⟩⟩, h2⟩
    · show (if b = g then _ else H b) = _
      rw [if_neg]
      · exact hc
      · rintro rfl
        have := hg.2
        simp only [hc] at this
        cases this
    · show (if b = g then _ else H b) = _
      rw [if_neg]
      · exact hc
      · rintro rfl
        have := hs.new _ (List.mem_cons_self ..) rfl
        simp only at this
        omega
    · show (if b.g = g then _ else H b.g) = _
      rw [if_neg]
      · exact (hb b (List.mem_append.2 (.inr hm))).2
      · intro e
        exact hne b hm e.symm
    · have hc : (if b = g then some (fls ps ++ sp).toArray else H b) = some c := hc
      split at hc
      · rename_i e
        cases hc
        obtain ⟨fr, hh, _⟩ := hbf
        exact ⟨_, _, by rw [e]; exact hh⟩
      · exact h.fz b c hc
    · rw [Nat.zero_add]
      simp only [List.getElem?_toArray]
      rw [List.getElem?_append_left (List.getElem?_eq_some_iff.1 hu).1]
      exact hu
def Outp (H : Hp) (w : World) (Q : Hp → Value → Prop) : Ending → World → Prop := fun en w' => ∃ v H', en = .returned v ∧ Le w H H' ∧ Mem H' w [] w' ∧ Q H' v
theorem Mem.out {Q : Hp → Value → Prop} (h : Mem H' w0 L w) (hl : Le w0 H H') (hq : Q H' v) : Outp H w0 Q (.returned v) w := ⟨v, H', rfl, hl, h.nil, hq⟩
theorem Outp.ext {Q : Hp → Value → Prop} {en : Ending} (h : Outp H w Q en w') : Ext w w' := by
  obtain ⟨_, _, _, _, h, _⟩ := h
  exact h.ext
theorem mm_call {f : Nat} {args : List Value} {Q : Hp → Value → Prop} (h : Mem H w0 L w) [hf : FunC P f] (hc : Calls P f args.toArray w (Outp H w Q)) (hk : ∀ H' v w', Le w0 H H' → Mem H' w0 L w' → Q H' v → K v w') : mop P (o_call (fv f) args) w K X :=
  mop_to hc fun en w' ⟨v, H', he, hl, hm, hq⟩ => by
    subst he
    exact hk H' v w' (hl.old h.ext.size) (h.call hm hl.new) hq
theorem dm_call {f : Nat} {args : List Value} {ext : Bool} {Q : Hp → Value → Prop} (h : Mem H w0 L w) [hf : FunC P f] (hc : ∀ w, Mem H w0 L w → Calls P f args.toArray w (Outp H w Q)) (hk : ∀ H' v w', Ext w w' → Le w0 H H' → Mem H' w0 L w' → Q H' v → K v w') : df P w (o_call (fv f) args) ext K :=
  df_mop fun w1 hd => mop_to (hc w1 (h.drawn hd)) fun en w' ⟨v, H', he, hl, hm, hq⟩ => by
    subst he
    have hx := hd.ext.trans hm.ext
    exact ⟨fun _ => hx, hk H' v w' hx (hl.old (h.drawn hd).ext.size) ((h.drawn hd).call hm hl.new) hq⟩
theorem mm_pure {f : Nat} {args : List Value} (h : Mem H w0 L w) [hf : FunC P f] (hc : Calls P f args.toArray w fun en w' => en = .returned v ∧ St w [] w') (hk : ∀ w', Mem H w0 L w' → K v w') : mop P (o_call (fv f) args) w K X :=
  mop_to hc fun en w' ⟨he, hs⟩ => by
    subst he
    exact hk w' (h.call0 hs)
theorem dm_pure {f : Nat} {args : List Value} {ext : Bool} (h : Mem H w0 L w) [hf : FunC P f] (hc : ∀ w, Mem H w0 L w → Calls P f args.toArray w fun en w' => en = .returned v ∧ St w [] w') (hk : ∀ w', Ext w w' → Mem H w0 L w' → K v w') : df P w (o_call (fv f) args) ext K :=
  df_mop fun w1 hd => mop_to (hc w1 (h.drawn hd)) fun en w' ⟨he, hs⟩ => by
    subst he
    have hx : Ext w w' := hd.ext.trans (hs.only.mono fun _ _ ⟨_, hm, _⟩ => by cases hm)
    exact ⟨fun _ => hx, hk w' hx ((h.drawn hd).call0 hs)⟩
theorem mm_own {f : Nat} {args : List Value} {Q : Value → World → Prop} [hf : FunC P f] (hc : Calls P f args.toArray w fun en w' => ∃ v, en = .returned v ∧ Q v w') (hk : ∀ v w', Q v w' → K v w') : mop P (o_call (fv f) args) w K X :=
  mop_to hc fun en w' ⟨v, he, hq⟩ => by
    subst he
    exact hk v w' hq
theorem dm_own {f : Nat} {args : List Value} {Q : Value → World → Prop} (h : Mem H w0 L w) [hf : FunC P f] (hc : ∀ w, Mem H w0 L w → Calls P f args.toArray w fun en w' => ∃ v, en = .returned v ∧ Q v w') (hk : ∀ v w', Q v w' → K v w') : df P w (o_call (fv f) args) false K :=
  df_mop fun w1 hd => mop_to (hc w1 (h.drawn hd)) fun en w' ⟨v, he, hq⟩ => by
    subst he
    exact ⟨(fun e => by cases e), hk v w' hq⟩
theorem p_func (fn : Fn) (a b : List Value) (hfn : ∃ f, fn = .func f) : Pur P (o_func fn a b) (.func fn a.toArray b.toArray) := fun w => by
  obtain ⟨f, rfl⟩ := hfn
  simp [o_func, sv, Instr.makeFunc]
instance (f : Nat) (a b : List Value) : StepC P (o_func (.func f) a b) True (.func (.func f) a.toArray b.toArray) := ⟨fun _ => p_func _ a b ⟨f, rfl⟩⟩
theorem mop_callv {f : Nat} {first captured : Array Value} {args : List Value} {Q : Ending → World → Prop} [hf : FunC P f] (h : Calls P f (first ++ args.toArray ++ captured) w Q) (hk : ∀ en w', Q en w' → match en with
      | .returned v => K v w'
      | .panicked c => X c w'
      | .outgrown => False) : mop P (o_call (.func (.func f) first captured) args) w K X := by
  constructor
  have hb := hf.ok
  have hr : (o_call (.func (.func f) first captured) args).run P w = .ok (.enter f (first ++ args.toArray ++ captured)) w := by
    cases hff : P.funcs[f]? with
    | none => simp [hff] at hb
    | some fn =>
      simp [hff] at hb
      have hb1 : ¬ fn.body = none := by intro h; rw [h] at hb; simp at hb
      simp [o_call, Deferred.ofValue, invoke, callFunc, hff, go_sem, hb.2, hb1]
  rw [hr]
  exact h.mono fun en w' he => by
    have := hk en w' he
    cases en <;> exact this
theorem run_equalIn_nil (d : Nat) (t e : TypeId) (a : Option Addr) (n cp : Nat) (he : P.underlying t = some (.slice e)) : (Op.equalIn (d + 1) t (.slice a n cp) (.slice none 0 0)).run P w = .ok a.isNone w := by
  cases a <;> simp [Op.equalIn, run_underlying he]
theorem run_equalIn_pnil (d : Nat) (t e : TypeId) (a : Option Addr) (he : P.underlying t = some (.pointer e)) : (Op.equalIn (d + 1) t (.pointer a) (.pointer none)).run P w = .ok a.isNone w := by
  cases a <;> simp [Op.equalIn, run_underlying he]
theorem run_o_eql {t : TypeId} {c : Bool} {x y : Value} {b : Bool} (hg : ∀ u v, (eqGuard .eql t u v x y).run P w = .ok () w) (hb : binOp .eql t x y = (do pure (.bool (← Op.equal t x y)))) (h : (Op.equalIn 10000 t x y).run P w = .ok b w) : (o_bin .eql t c x y).run P w = .ok (.value (.bool b)) w := by
  have h' : (Op.equal t x y).run P w = .ok b w := h
  simp only [o_bin, sv, Sem.run_bind, hg, hb, Result.andThen_ok, h', Sem.run_pure]
theorem run_o_neq {t : TypeId} {c : Bool} {x y : Value} {b : Bool} (hg : ∀ u v, (eqGuard .neq t u v x y).run P w = .ok () w) (hb : binOp .neq t x y = (do pure (.bool !(← Op.equal t x y)))) (h : (Op.equalIn 10000 t x y).run P w = .ok b w) : (o_bin .neq t c x y).run P w = .ok (.value (.bool !b)) w := by
  have h' : (Op.equal t x y).run P w = .ok b w := h
  simp only [o_bin, sv, Sem.run_bind, hg, hb, Result.andThen_ok, h', Sem.run_pure]
theorem p_eq_nil (t : TypeId) (c : Bool) (a : Option Addr) (n cp e : Nat) (he : P.underlying t = some (.slice e)) : Pur P (o_bin .eql t c (.slice a n cp) (.slice none 0 0)) (.bool a.isNone) := fun w =>
  run_o_eql (fun _ _ => by simp only [eqGuard]; rfl) (by simp only [binOp]) (run_equalIn_nil (P := P) (w := w) 9999 t e a n cp he)
theorem p_ptr_nil (t : TypeId) (c : Bool) (a : Option Addr) (e : TypeId) (he : P.underlying t = some (.pointer e)) : Pur P (o_bin .eql t c (.pointer a) (.pointer none)) (.bool a.isNone) := fun w =>
  run_o_eql (fun _ _ => by simp only [eqGuard]; rfl) (by simp only [binOp]) (run_equalIn_pnil (P := P) (w := w) 9999 t e a he)
theorem p_ptr_nnil (t : TypeId) (c : Bool) (a : Option Addr) (e : TypeId) (he : P.underlying t = some (.pointer e)) : Pur P (o_bin .neq t c (.pointer a) (.pointer none)) (.bool (!a.isNone)) := fun w =>
  run_o_neq (fun _ _ => by simp only [eqGuard]; rfl) (by simp only [binOp]) (run_equalIn_pnil (P := P) (w := w) 9999 t e a he)
end
end Go.Proofs.YtpjodlnlmaaihaaGreat
namespace Go.Proofs.YtpjodlnlmaaihaaGreat
open Go.RowKit
def hzero : H32 := ⟨List.replicate 32 0, by simp, by intro x hx; rw [List.eq_of_mem_replicate hx]; omega⟩
class EqF (fs gs : List Fd) (ks : outParam (List CK)) (p : outParam Prop) : Prop where
  ok : Of (fl fs) ks ∧ Of (fl gs) ks ∧ (fl fs = fl gs ↔ p)
theorem one_app {a b : Value} {k : CK} {x y : List Value} {ks : List CK} {p q : Prop} (h : Of [a] [k] ∧ Of [b] [k] ∧ (a = b ↔ p)) (h' : Of x ks ∧ Of y ks ∧ (x = y ↔ q)) : Of ([a] ++ x) (k :: ks) ∧ Of ([b] ++ y) (k :: ks) ∧ ([a] ++ x = [b] ++ y ↔ p ∧ q) :=
  ⟨h.1.app h'.1, h.2.1.app h'.2.1, by rw [← h.2.2, ← h'.2.2]; simp⟩
theorem ok_int (k : IntKind) (a b : Int) : Of [.int k a] [.int k] ∧ Of [.int k b] [.int k] ∧ (Value.int k a = .int k b ↔ a = b) := ⟨rfl, rfl, by simp⟩
instance (k : IntKind) (a b : Int) (fs gs : List Fd) (ks : List CK) (p : Prop) [h : EqF fs gs ks p] : EqF (.one (.int k a) :: fs) (.one (.int k b) :: gs) (.int k :: ks) (a = b ∧ p) := ⟨one_app (ok_int k a b) h.ok⟩
theorem EqF.last {f g : Fd} {k : List CK} {p : Prop} (h : Of f.cells k ∧ Of g.cells k ∧ (f.cells = g.cells ↔ p)) : Of (fl [f]) k ∧ Of (fl [g]) k ∧ (fl [f] = fl [g] ↔ p) := by simpa [fl] using h
theorem of_h32 (h : H32) : Of (u8s h.1) (List.replicate 32 (.int .u8)) := by have := of_u8s h.1; rwa [h.2.1] at this
theorem h32_eq {a b : H32} : u8s a.1 = u8s b.1 ↔ a = b := by rw [u8s_inj]; exact Subtype.ext_iff.symm
instance (a b : H32) (fs gs : List Fd) (ks : List CK) (p : Prop) [h : EqF fs gs ks p] : EqF (.arr 32 (u8s a.1) :: fs) (.arr 32 (u8s b.1) :: gs) (List.replicate 32 (.int .u8) ++ ks) (a = b ∧ p) := ⟨by
  obtain ⟨h1, h2, h3⟩ := h.ok
  refine ⟨(of_h32 a).app h1, (of_h32 b).app h2, ?_⟩
  show u8s a.1 ++ fl fs = u8s b.1 ++ fl gs ↔ _
  rw [← h3, ← h32_eq]
  constructor
  · intro e
    exact List.append_inj e (by simp [u8s, a.2.1, b.2.1])
  · rintro ⟨e1, e2⟩
    rw [e1, e2]⟩
instance (priority := 1100) (a b : H32) : EqF [.arr 32 (u8s a.1)] [.arr 32 (u8s b.1)] (List.replicate 32 (.int .u8)) (a = b) := ⟨EqF.last ⟨of_h32 a, of_h32 b, h32_eq⟩⟩
section
variable {P : Program} {t : TypeId} {q : Bool}
instance (fs gs : List Fd) (ks : List CK) (p : Prop) [Decidable p] [h : EqF fs gs ks p] [k : KindC P t ks] : StepC P (o_bin .eql t q (.agg (fl fs).toArray) (.agg (fl gs).toArray)) True (.bool (decide p)) := ⟨fun _ => p_eql_agg q h.ok.1 h.ok.2.1 h.ok.2.2⟩
instance (a b : H32) [k : KindC P t (List.replicate 32 (.int .u8))] : StepC P (o_bin .eql t q (.agg (u8s a.1).toArray) (.agg (u8s b.1).toArray)) True (.bool (decide (a = b))) := ⟨fun _ => p_eql_agg q (of_h32 a) (of_h32 b) h32_eq⟩
class IsSl (P : Program) (t : TypeId) : Prop where
  ok : ∃ e, P.underlying t = some (.slice e)
class IsPt (P : Program) (t : TypeId) : Prop where
  ok : ∃ e, P.underlying t = some (.pointer e)
theorem isSl_of {P : Program} {t : TypeId} (h : (match P.underlying t with
    | some (.slice _) => true
    | _ => false) = true) : IsSl P t := ⟨by
  split at h
  · rename_i e hu; exact ⟨e, hu⟩
  · cases h⟩
theorem isPt_of {P : Program} {t : TypeId} (h : (match P.underlying t with
    | some (.pointer _) => true
    | _ => false) = true) : IsPt P t := ⟨by
  split at h
  · rename_i e hu; exact ⟨e, hu⟩
  · cases h⟩
instance (a : Option Addr) (n c : Nat) [h : IsSl P t] : StepC P (o_bin .eql t q (.slice a n c) (.slice none 0 0)) True (.bool a.isNone) := ⟨fun _ => by obtain ⟨e, he⟩ := h.ok; exact p_eq_nil t q a n c e he⟩
instance (a : Addr) [h : IsPt P t] : StepC P (o_bin .eql t q (.pointer (some a)) (.pointer none)) True (.bool false) := ⟨fun _ => by obtain ⟨e, he⟩ := h.ok; exact p_ptr_nil t q (some a) e he⟩
instance (a : Addr) [h : IsPt P t] : StepC P (o_bin .neq t q (.pointer (some a)) (.pointer none)) True (.bool true) := ⟨fun _ => by obtain ⟨e, he⟩ := h.ok; exact p_ptr_nnil t q (some a) e he⟩
instance [h : IsPt P t] : StepC P (o_bin .eql t q (.pointer none) (.pointer none)) True (.bool true) := ⟨fun _ => by obtain ⟨e, he⟩ := h.ok; exact p_ptr_nil t q none e he⟩
end
end Go.Proofs.YtpjodlnlmaaihaaGreat
namespace Go.Proofs.YtpjodlnlmaaihaaGreat
open Go.RowKit
section
variable {P : Program} {s : Sem Next} {c p : Prop} [Decidable p] {v : Value} {w w' w0 : World} {K : Value → World → Prop} {X : List PanicEntry → World → Prop} {Kq : Value → Prop} {t : TypeId} {q : Bool}
theorem mop_cT [h : StepC P s c (.bool (decide p))] (hc : c) (hp : p) (hk : K (.bool true) w) : mop P s w K X := mop_c (h := h) hc (by rw [decide_eq_true hp]; exact hk)
theorem mop_cF [h : StepC P s c (.bool (decide p))] (hc : c) (hp : ¬ p) (hk : K (.bool false) w) : mop P s w K X := mop_c (h := h) hc (by rw [decide_eq_false hp]; exact hk)
theorem mop_cS [h : StepC P s c (.bool (decide p))] (hc : c) (ht : p → K (.bool true) w) (hf : ¬ p → K (.bool false) w) : mop P s w K X := mop_c (h := h) hc (by
  by_cases hp : p
  · rw [decide_eq_true hp]; exact ht hp
  · rw [decide_eq_false hp]; exact hf hp)
theorem dp_cT [h : StepC P s c (.bool (decide p))] (hc : c) (hp : p) (hk : Kq (.bool true)) : dp P s Kq := dp_c (h := h) hc (by rw [decide_eq_true hp]; exact hk)
theorem dp_cF [h : StepC P s c (.bool (decide p))] (hc : c) (hp : ¬ p) (hk : Kq (.bool false)) : dp P s Kq := dp_c (h := h) hc (by rw [decide_eq_false hp]; exact hk)
theorem dp_cS [h : StepC P s c (.bool (decide p))] (hc : c) (ht : p → Kq (.bool true)) (hf : ¬ p → Kq (.bool false)) : dp P s Kq := dp_c (h := h) hc (by
  by_cases hp : p
  · rw [decide_eq_true hp]; exact ht hp
  · rw [decide_eq_false hp]; exact hf hp)
theorem map_at {α β : Type} {f : α → β} {l : List α} {i : Nat} (h : i < l.length) : (l.map f)[i]? = some (f l[i]) := by simp [h]
theorem map_atI {α β : Type} {f : α → β} {l : List α} {i : Nat} (h : i < l.length) : (l.map f)[(i : Int).toNat]? = some (f l[i]) := by simp [h]
class RmB (L : List Res) (g : Nat) (R : outParam (List Res)) : Prop where
  perm : ∃ r, L.Perm (r :: R)
instance (L : List Res) (g t : Nat) (fs : List Fd) : RmB (fb g t fs :: L) g L := ⟨⟨_, .refl _⟩⟩
instance (priority := 900) (L R : List Res) (g : Nat) (x : Res) [h : RmB L g R] : RmB (x :: L) g (x :: R) := ⟨by
  obtain ⟨r, h⟩ := h.perm
  exact ⟨r, (h.cons x).trans (.swap ..)⟩⟩
theorem Mem.rm {H : Hp} {L R : List Res} (h : Mem H w0 L w) (g : Nat) [k : RmB L g R] : Mem H w0 R w := by
  obtain ⟨r, hp⟩ := k.perm
  exact (h.perm hp).drop
class AtA (L : List Res) (A : Option Addr) (n cap e sz : outParam Nat) (ps : outParam (List (List Fd))) (R : outParam (List Res)) : Prop where
  perm : L.Perm (rowR e sz A n cap ps :: R)
instance (L : List Res) (A : Option Addr) (n cap e sz : Nat) (ps : List (List Fd)) : AtA (rowR e sz A n cap ps :: L) A n cap e sz ps L := ⟨.refl _⟩
instance (priority := 900) (L R : List Res) (A : Option Addr) (n cap e sz : Nat) (ps : List (List Fd)) (x : Res) [h : AtA L A n cap e sz ps R] : AtA (x :: L) A n cap e sz ps (x :: R) := ⟨(h.perm.cons x).trans (.swap ..)⟩
class AtF (L : List Res) (g : Nat) (t : outParam Nat) (fs : outParam (List Fd)) (R : outParam (List Res)) : Prop where
  perm : L.Perm (fb g t fs :: R)
instance (L : List Res) (g t : Nat) (fs : List Fd) : AtF (fb g t fs :: L) g t fs L := ⟨.refl _⟩
instance (priority := 900) (L R : List Res) (g t : Nat) (fs : List Fd) (x : Res) [h : AtF L g t fs R] : AtF (x :: L) g t fs (x :: R) := ⟨(h.perm.cons x).trans (.swap ..)⟩
theorem Mem.up {H : Hp} {L R : List Res} {n cap e sz : Nat} {ps : List (List Fd)} (h : Mem H w0 L w) (A : Option Addr) [k : AtA L A n cap e sz ps R] : Mem H w0 (rowR e sz A n cap ps :: R) w := h.perm k.perm
theorem Mem.upB {H : Hp} {L R : List Res} {t : Nat} {fs : List Fd} (h : Mem H w0 L w) (g : Nat) [k : AtF L g t fs R] : Mem H w0 (fb g t fs :: R) w := h.perm k.perm
theorem Mem.neA {H : Hp} {L R R' : List Res} {n cap e sz tt k : Nat} {ps : List (List Fd)} {fs : List Fd} {A : Option Addr} (h : Mem H w0 L w) [a : AtA L A n cap e sz ps R] [b : AtF R k tt fs R'] : ¬ A = some ⟨k, 0, none⟩ :=
  Mem.ne (put := fun r => r :: R') (h.perm (a.perm.trans (b.perm.cons _))) (A := A) (n := n) (cap := cap) (e := e) (sz := sz) (ps := ps) (R := fb k tt fs :: R') ⟨.refl _⟩ ⟨⟨R', .refl _, fun _ => .refl _⟩⟩
theorem Mem.fz0 {H : Hp} {L : List Res} {n cap e sz : Nat} {ps : List (List Fd)} {A : Option Addr} (h : Mem H w0 (rowR e sz A n cap ps :: L) w) : ∃ H', Le w0 H H' ∧ Mem H' w0 L w ∧ Sl H' sz A ps ∧ ps.length = n := h.freeze ⟨.refl _⟩
theorem Mem.reads {H : Hp} {L R : List Res} {n cap e sz : Nat} {ps : List (List Fd)} {A : Option Addr} (h : Mem H w0 L w) [k : AtA L A n cap e sz ps R] : Sl (Hp.of w) sz A ps := by
  obtain ⟨B, ⟨B1, B2, rfl, ⟨h1, h2, h3⟩, _⟩, hs, _⟩ := (h.perm k.perm).own
  rcases h3 with ⟨_, hn, _, _⟩ | ⟨g, sp, rfl, rfl, _⟩
  · have : ps = [] := List.eq_nil_of_length_eq_zero (by omega)
    subst this
    exact Sl.nil _ _ _
  · obtain ⟨fr, hb, _⟩ := hs.own ⟨g, e, fls ps ++ sp, true⟩ (by simp)
    refine ⟨h1, .inr ⟨g, 0, (fls ps ++ sp).toArray, rfl, by simp [Hp.of, hb], fun j u hu => ?_⟩⟩
    rw [Nat.zero_add]
    simp only [List.getElem?_toArray]
    rw [List.getElem?_append_left (List.getElem?_eq_some_iff.1 hu).1]
    exact hu
theorem dm_ownE {H : Hp} {L : List Res} {f : Nat} {args : List Value} {ext : Bool} {Q : Value → World → Prop} (h : Mem H w0 L w) [hf : FunC P f] (hc : ∀ w, Mem H w0 L w → Calls P f args.toArray w fun en w' => ∃ v, en = .returned v ∧ Ext w w' ∧ Q v w') (hk : ∀ v w', Ext w w' → Q v w' → K v w') : df P w (o_call (fv f) args) ext K :=
  df_mop fun w1 hd => mop_to (hc w1 (h.drawn hd)) fun en w' ⟨v, he, hx, hq⟩ => by
    subst he
    exact ⟨fun _ => hd.ext.trans hx, hk v w' (hd.ext.trans hx) hq⟩
class SubL (L L' : List Res) : Prop where
  ok : ∃ R, L.Perm (R ++ L')
instance (L : List Res) : SubL L [] := ⟨⟨L, by simp⟩⟩
instance (priority := 1100) (L : List Res) : SubL L L := ⟨⟨[], .refl _⟩⟩
instance (priority := 900) (L R L' : List Res) (r : Res) [h : AtX L r R] [k : SubL R L'] : SubL L (r :: L') := ⟨by
  obtain ⟨Q, hq⟩ := k.ok
  exact ⟨Q, h.perm.trans ((hq.cons r).trans List.perm_middle.symm)⟩⟩
theorem Mem.sub {H : Hp} {L L' : List Res} (h : Mem H w0 L w) [k : SubL L L'] : Mem H w0 L' w := by
  obtain ⟨R, hp⟩ := k.ok
  exact (h.perm hp).dropN
structure FbF (H : Hp) (g : Nat) (fs : List Fd) : Prop where
  ok : FOk fs
  at_ : ∃ c : Array Value, H g = some c ∧ ∀ (j : Nat) (u : Value), (fl fs)[j]? = some u → c[j]? = some u
theorem FbF.mono {H H' : Hp} {g : Nat} {fs : List Fd} (h : FbF H g fs) (k : H.le H') : FbF H' g fs := by
  obtain ⟨c, h1, h2⟩ := h.at_
  exact ⟨h.ok, c, k g c h1, h2⟩
theorem FbF.load {H : Hp} {g i n : Nat} {fs gs : List Fd} {q : Bool} {v : Value} (h : FbF H g fs) (hf : Fz H w) (c : ShpC P t q n) (s : Sub fs i n gs) (f : Fv q gs v) : PurW P w (o_load t (.pointer (some ⟨g, i, none⟩))) v := by
  obtain ⟨c', h1, h2⟩ := h.at_
  obtain ⟨k1, k2, k3⟩ := s.cells h.ok
  exact pw_fields c.ok k1 (by rw [← k1.len]; exact k2) f fun j u hu => by rw [hf.cell h1]; exact h2 _ _ (k3 j u hu)
theorem mm_ldf {H : Hp} {L : List Res} {g i n : Nat} {fs gs : List Fd} {q : Bool} {v : Value} (hM : Mem H w0 L w) (h : FbF H g fs) [c : ShpC P t q n] [s : Sub fs i n gs] [f : Fv q gs v] (hk : K v w) : mop P (o_load t (.pointer (some ⟨g, i, none⟩))) w K X :=
  mop_purW (h.load hM.fz c s f) hk
theorem dm_ldf {H : Hp} {L : List Res} {g i n : Nat} {fs gs : List Fd} {q : Bool} {v : Value} (hM : Mem H w0 L w) (h : FbF H g fs) [c : ShpC P t q n] [s : Sub fs i n gs] [f : Fv q gs v] (hk : Kq v) : dq P w (o_load t (.pointer (some ⟨g, i, none⟩))) Kq :=
  dq_pur (fun _ hw => h.load (hM.fz.ext hw) c s f) hk
abbrev Mem.now {H : Hp} {L : List Res} (_ : Mem H w0 L w) (w' : World) : Prop := Mem H w0 L w'
theorem mguard_n1 {run : (Value → World → Prop) → Prop} (h : K undef w) : mguard (.bool true) false run w K := mguard_no (by simp) h
theorem mguard_n2 {run : (Value → World → Prop) → Prop} (h : K undef w) : mguard (.bool false) true run w K := mguard_no (by simp) h
theorem qguard_n1 {run : (Value → Prop) → Prop} (h : Kq undef) : qguard (.bool true) false run Kq := qguard_no (by simp) h
theorem qguard_n2 {run : (Value → Prop) → Prop} (h : Kq undef) : qguard (.bool false) true run Kq := qguard_no (by simp) h
instance (b : Bool) : StepC P (o_un .not (.bool b)) True (.bool (!b)) := ⟨fun _ w => by simp [o_un, sv, go_sem]⟩
class IsBo (P : Program) (t : TypeId) : Prop where
  ok : P.underlying t = some .bool
instance (priority := 1100) (fs gs : List Fd) (ks : List CK) [h : EqF fs gs ks p] [k : KindC P t ks] : StepC P (o_bin .neq t q (.agg (fl fs).toArray) (.agg (fl gs).toArray)) True (.bool (decide (¬ p))) := ⟨fun _ => by
  have := p_neq_agg (P := P) (t := t) q h.ok.1 h.ok.2.1 h.ok.2.2
  rwa [show (!decide p) = decide (¬ p) by simp] at this⟩
instance (priority := 1100) (a b : H32) [k : KindC P t (List.replicate 32 (.int .u8))] : StepC P (o_bin .neq t q (.agg (u8s a.1).toArray) (.agg (u8s b.1).toArray)) True (.bool (decide (a ≠ b))) := ⟨fun _ => by
  have := p_neq_agg (P := P) (t := t) q (of_h32 a) (of_h32 b) h32_eq
  rwa [show (!decide (a = b)) = decide (a ≠ b) by simp] at this⟩
instance (a b : Value) : StepC P (o_extract (.tuple #[a, b]) 0) True a := ⟨fun _ => p_extract [a, b] 0 a rfl⟩
instance (a b : Value) : StepC P (o_extract (.tuple #[a, b]) 1) True b := ⟨fun _ => p_extract [a, b] 1 b rfl⟩
instance (a b c : Value) : StepC P (o_extract (.tuple #[a, b, c]) 0) True a := ⟨fun _ => p_extract [a, b, c] 0 a rfl⟩
instance (a b c : Value) : StepC P (o_extract (.tuple #[a, b, c]) 1) True b := ⟨fun _ => p_extract [a, b, c] 1 b rfl⟩
instance (a b c : Value) : StepC P (o_extract (.tuple #[a, b, c]) 2) True c := ⟨fun _ => p_extract [a, b, c] 2 c rfl⟩
def hset (h : H32) (i : Nat) (a : Int) : H32 := ⟨h.1.set i (a % 256), by simp [h.2.1], fun x hx => by
  rcases List.mem_or_eq_of_mem_set hx with hx | rfl
  · exact h.2.2 x hx
  · omega⟩
theorem lay_set (h : H32) (i : Nat) (a : Int) (hi : i < 32) (ha : 0 ≤ a ∧ a < 256) : lay (u8s h.1) [.int .u8 a] i = u8s (hset h i a).1 := by
  have e : a % 256 = a := by omega
  unfold hset u8s lay
  simp only [e]
  rw [List.set_eq_take_append_cons_drop, if_pos (by simp [h.2.1, hi])]
  simp
class HFill (P : Program) (t : TypeId) (h : H32) (ps : List (Nat × Value)) (c : outParam Prop) (h' : outParam H32) : Prop where
  ok : c → Instr.fill (fun i => some (i * 1, 1)) (u8s h.1).toArray ps = some (u8s h'.1).toArray
instance (h : H32) : HFill P t h [] True h := ⟨fun _ => rfl⟩
instance (h h' : H32) (i : Nat) (a : Int) (ps : List (Nat × Value)) (c : Prop) [k : HFill P t (hset h i a) ps c h'] : HFill P t h ((i, .int .u8 a) :: ps) ((i < 32 ∧ 0 ≤ a ∧ a < 256) ∧ c) h' := ⟨fun ⟨⟨h1, h2⟩, hc⟩ => by
  have hl : (u8s h.1).length = 32 := by simp [u8s, h.2.1]
  have := fill_lay (.int .u8 a) (i * 1) (u8s h.1) (by simp [Value.cells, hl]; omega)
  unfold Instr.fill
  simp only
  rw [if_neg (by simp [Value.cells, hl]; omega), this]
  have e : lay (u8s h.1) (Value.cells (.int .u8 a)).toList (i * 1) = u8s (hset h i a).1 := by rw [Nat.mul_one]; exact lay_set h i a h1 h2
  rw [e]
  exact k.ok hc⟩
class HshC (P : Program) (t : TypeId) : Prop where
  ok : ∃ e, P.underlying t = some (.array 32 e) ∧ (P.info? e).map (·.size) = some 1
  zer : zer P t = some (u8s hzero.1)
instance (priority := 1100) (ps : List (Nat × Value)) (c : Prop) (h' : H32) [k : HshC P t] [f : HFill P t hzero ps c h'] : StepC P (o_build t ps) c (.agg (u8s h'.1).toArray) := ⟨fun hc w => by
  obtain ⟨e, hu, hs⟩ := k.ok
  have hz := k.zer
  have hf := f.ok hc
  unfold Go.Proofs.YtpjodlnlmaaihaaGreat.zer at hz
  cases hi : P.info? t with
  | none => simp [hi] at hz
  | some x =>
    cases hzz : x.zero with
    | none => simp [hi, hzz] at hz
    | some z =>
      simp [hi, hzz] at hz
      have hz' : z.cells = (u8s hzero.1).toArray := by rw [← hz]
      have h1 : (zeroValue t).run P w = .ok z w := by simp [zeroValue, typeInfo, hi, hzz]
      have h2 : (sizeOf e).run P w = .ok 1 w := run_size hs w
      simp only [o_build, sv, Instr.build, Sem.run_bind, h1, Result.andThen_ok, run_underlying hu, hz', h2]
      rw [hf]
      rfl⟩
end
end Go.Proofs.YtpjodlnlmaaihaaGreat
namespace Go.Proofs.YtpjodlnlmaaihaaGreat
open Go.RowKit
def byts (l : List Int) : List (List Fd) := l.map fun x => [.one (.int .u8 x)]
theorem byts_app (a b : List Int) : byts (a ++ b) = byts a ++ byts b := by simp [byts]
theorem byts_length (l : List Int) : (byts l).length = l.length := by simp [byts]
theorem fls_byts (l : List Int) : fls (byts l) = u8s l := by
  induction l with
  | nil => rfl
  | cons x l ih =>
    show fl [.one (.int .u8 x)] ++ fls (byts l) = _
    rw [ih]
    rfl
theorem els_byts (l : List Int) : Els 1 (byts l) := Els.map (f := fun x => [.one (.int .u8 x)]) l fun _ => ⟨inferInstance, rfl⟩
class StrC (P : Program) (s d : TypeId) : Prop where
  ok : (∃ e, P.underlying s = some (.slice e) ∧ P.underlying e = some (.int .u8)) ∧ P.underlying d = some .string
section
variable {P : Program} {H H' : Hp} {w0 w w' : World} {L R R' : List Res} {g i : Nat} {t t' tx ty : TypeId} {fs gs : List Fd} {put : Res → List Res} {n m c cap e e' sz by_ : Nat} {K : Value → World → Prop} {X : List PanicEntry → World → Prop} {Kq : Value → Prop} {A : Option Addr} {l l' : List Int} {ps : List (List Fd)} {ks : List Bool}
theorem pw_str {s d : TypeId} (h : StrC P s d) {b o : Nat} (hl : l.length = n) (hc : ∀ j u, (u8s l)[j]? = some u → w.cell? ⟨b, o + j, none⟩ = some u) : PurW P w (o_conv s d (.slice (some ⟨b, o, none⟩) n c)) (.string (strOfNums l)) := by
  obtain ⟨⟨e, h1, h2⟩, h3⟩ := h.ok
  exact pw_conv_bytes s d e b o n c l h1 h2 h3 hl fun j hj => hc j _ (u8s_at l j (by omega))
theorem Mem.bytesF (h : Mem H w0 L w) (k : AtB L g t' fs put) (s : Sub fs i n [.arr n (u8s l)]) : l.length = n ∧ ∀ j u, (u8s l)[j]? = some u → w.cell? ⟨g, i + j, none⟩ = some u := by
  obtain ⟨h1, h2, h3⟩ := h.field k s
  have := (h1.ok _ (List.mem_singleton.2 rfl)).len
  refine ⟨by simpa [Fd.cells, Fd.size, u8s] using this, fun j u hu => h3 j u (by simpa [fl, Fd.cells] using hu)⟩
theorem mm_cvb {s d : TypeId} (h : Mem H w0 L w) [st : StrC P s d] [k : AtB L g t' fs put] [q : Sub fs i n [.arr n (u8s l)]] (hk : K (.string (strOfNums l)) w) : mop P (o_conv s d (.slice (some ⟨g, i, none⟩) n c)) w K X := by
  obtain ⟨h1, h2⟩ := h.bytesF k q
  exact mop_purW (pw_str st h1 h2) hk
theorem dm_cvb {s d : TypeId} (h : Mem H w0 L w) [st : StrC P s d] [k : AtB L g t' fs put] [q : Sub fs i n [.arr n (u8s l)]] (hk : Kq (.string (strOfNums l))) : dq P w (o_conv s d (.slice (some ⟨g, i, none⟩) n c)) Kq := by
  obtain ⟨h1, h2⟩ := h.bytesF k q
  exact dq_pur (fun _ hw => pw_str st h1 fun j u hu => hw.cell (h2 j u hu)) hk
theorem Mem.rd (h : Mem H w0 L w) (k : AtA L A n cap e sz ps R) : Rd w A (fls ps) := by
  rcases Nat.eq_zero_or_pos n with hn | hn
  · have := (h.rowLen (A := A) (n := n) ⟨k.perm⟩).1
    have : ps = [] := List.eq_nil_of_length_eq_zero (by omega)
    subst this
    exact .inl rfl
  · obtain ⟨g, rfl⟩ := h.rowAt (n := n) ⟨k.perm⟩ hn
    have hc := (h.perm k.perm).rowCells (put := fun r => r :: R) ⟨⟨R, .refl _, fun _ => .refl _⟩⟩
    have hlt : g < w.heap.size := by
      obtain ⟨B, ⟨B1, B2, rfl, ⟨_, _, h3⟩, _⟩, hs, _⟩ := (h.perm k.perm).own
      rcases h3 with ⟨hA, _⟩ | ⟨g', sp, hA, rfl, _⟩
      · cases hA
      · cases hA
        exact (hs.own ⟨g, e, fls ps ++ sp, true⟩ (by simp)).lt
    exact .inr ⟨g, 0, rfl, hlt, fun j u hu => by rw [Nat.zero_add]; exact hc.2.2 j u hu⟩
theorem mm_cvr {s d : TypeId} {k : Nat} (h : Mem H w0 L w) [st : StrC P s d] [a : AtA L A n cap e 1 (byts l) R] (hk' : k ≤ l.length) (hk : K (.string (strOfNums (l.take k))) w) : mop P (o_conv s d (.slice A k c)) w K X := by
  have hr := h.rd a
  rw [fls_byts] at hr
  rcases Nat.eq_zero_or_pos k with h0 | h0
  · subst h0
    obtain ⟨⟨e, h1, h2⟩, h3⟩ := st.ok
    refine mop_purW ?_ hk
    cases A with
    | none =>
      have : (convert s d (.slice none 0 c)).run P w = .ok (.string (strOfNums [])) w := by
        rw [run_convert_bytes_string w s d e none 0 c h1 h2 h3]
        rfl
      simp only [PurW, o_conv, sv, Sem.run_bind, this, Result.andThen_ok]
      rfl
    | some a' =>
      have := run_convert_bytes_back (P := P) w s d e a' c [] h1 h2 h3 (fun j hj => by simp at hj)
      simp only [PurW, o_conv, sv, Sem.run_bind]
      rw [show ([] : List UInt8).length = 0 from rfl] at this
      rw [this]
      rfl
  · rcases hr with hr | ⟨b, o, rfl, _, hc⟩
    · have : l = [] := by simpa [u8s] using hr
      subst this
      simp at hk'
      omega
    · refine mop_purW (pw_str st (by simp; omega) fun j u hu => hc j u ?_) hk
      have hj : j < k := by have := (List.getElem?_eq_some_iff.1 hu).1; simp [u8s] at this; omega
      rw [show u8s (l.take k) = (u8s l).take k by simp [u8s, List.map_take], List.getElem?_take] at hu
      simpa [hj] using hu
class SubA (fs : List Fd) (o : Nat) (n : outParam Nat) (ls : outParam (List Value)) (put : outParam (List Value → List Fd)) : Prop where
  ok : ∃ a b, fs = a ++ [.arr n ls] ++ b ∧ fsz a = o ∧ ∀ l', put l' = a ++ [.arr n l'] ++ b
instance (fs : List Fd) (n : Nat) (ls : List Value) : SubA (.arr n ls :: fs) 0 n ls (fun l' => .arr n l' :: fs) := ⟨⟨[], fs, rfl, rfl, fun _ => rfl⟩⟩
theorem SubA.cell {fs : List Fd} {o : Nat} {ls : List Value} {putA : List Value → List Fd} (s : SubA fs o n ls putA) (hf : FOk fs) {j : Nat} {v : Value} (hv : ls[j]? = some v) : (fl fs)[o + j]? = some v := by
  obtain ⟨a, b, rfl, rfl, _⟩ := s.ok
  have h1 := hf.left.left.len
  rw [fl_append, fl_append, List.append_assoc, List.getElem?_append_right (by omega), h1, show fsz a + j - fsz a = j by omega]
  rw [List.getElem?_append_left (by have := (List.getElem?_eq_some_iff.1 hv).1; simpa [fl, Fd.cells] using this)]
  simpa [fl, Fd.cells] using hv
theorem mm_lda {o j : Nat} {ls : List Value} {v : Value} {putA : List Value → List Fd} (h : Mem H w0 L w) [cc : ShpC P t false 1] [k : AtB L g t' fs put] [s : SubA fs o n ls putA] (hv : ls[j]? = some v) (hk : K v w) : mop P (o_load t (.pointer (some ⟨g, o + j, none⟩))) w K X := by
  obtain ⟨hb, hf⟩ := h.blf k
  exact mop_purW (pw_load1 cc.ok (by rw [hb.cell]; exact s.cell hf hv)) hk
theorem mm_appb (h : Mem H w0 L w) [cc : SliC P t e 1 by_] [k : AtR L A n cap e 1 (byts l) R] [cx : SliC P tx e' 1 by_] [b : AtB L g t' fs put] [q : Sub fs i m [.arr m (u8s l')]] (hb : n + m ≤ 9223372036854775807 ∧ (n + m) * by_ ≤ 140737488355328)
    (hk : ∀ A' cap' w', Mem H w0 (rowR e 1 A' (n + m) cap' (byts (l ++ l')) :: R) w' → K (.slice A' (n + m) cap') w') : mop P (o_builtin .append #[t, tx] ty ks [.slice A n cap, .slice (some ⟨g, i, none⟩) m c]) w K X := by
  obtain ⟨h1, h2⟩ := h.bytesF b q
  have hs : Src P 1 tx (.slice (some ⟨g, i, none⟩) m c) m (fls (byts l')) w := by
    rw [fls_byts]
    exact Src.ofSlice w cx.und ⟨g, i, none⟩ m c (u8s l') (by simp [u8s, h1]) (fun j u hu => by rw [Addr.add_lit]; exact h2 j u hu) (u8s_one l')
  refine mm_app h k hs (els_byts l') (by rw [byts_length, h1]) hb.1 hb.2 fun A' cap' w' h3 => hk A' cap' w' (by rwa [byts_app])
theorem addr_add0 (a : Option Addr) : a.map (·.add 0) = a := by
  cases a with
  | none => rfl
  | some a => obtain ⟨b, o, s⟩ := a; rfl
instance (a : Option Addr) (n cap : Nat) (kk : IntKind) (hh : Int) [cs : SliS P t sz] : StepC P (o_slice t (.slice a n cap) none (some (.int kk hh)) none) (0 ≤ hh ∧ hh ≤ cap) (.slice a hh.toNat cap) := ⟨fun ⟨h0, h1⟩ w => by
  have h2 := run_slice_h (P := P) w t a n cap cs.ok.1 kk hh h0 h1
  have h3 : (sizeOf (P.elem t)).run P w = .ok sz w := run_size cs.ok.2 w
  simp only [o_slice, sv, Sem.run_bind, run_sliceAt_slice w t _ _ _ _ cs.ok.1, h2, h3, Result.andThen_ok, sliced, Nat.zero_mul, addr_add0, ite_self, Nat.sub_zero]
  rfl⟩
instance (b o n cap : Nat) (kk : IntKind) (ll : Int) [cs : SliS P t sz] : StepC P (o_slice t (.slice (some ⟨b, o, none⟩) n cap) (some (.int kk ll)) none none) (0 ≤ ll ∧ ll ≤ n ∧ ll < cap) (.slice (some ⟨b, o + ll.toNat * sz, none⟩) (n - ll.toNat) (cap - ll.toNat)) := ⟨fun ⟨h0, h1, h4⟩ w => by
  have h2 := run_slice_l (P := P) w t (some ⟨b, o, none⟩) n cap cs.ok.1 kk ll h0 h1
  have h3 : (sizeOf (P.elem t)).run P w = .ok sz w := run_size cs.ok.2 w
  have h5 : ¬ cap = ll.toNat := by omega
  simp only [o_slice, sv, Sem.run_bind, run_sliceAt_slice w t _ _ _ _ cs.ok.1, h2, h3, Result.andThen_ok, sliced, if_neg h5, Option.map_some, Addr.add_lit]
  rfl⟩
end
end Go.Proofs.YtpjodlnlmaaihaaGreat
namespace Go.Proofs.YtpjodlnlmaaihaaGreat
def pX (R : Ending → World → Prop) : List PanicEntry → World → Prop := fun c w => R (.panicked c) w
abbrev m (R : Ending → World → Prop) (s : Sem Next) (w : World) (K : Value → World → Prop) : Prop := mop Tryz.prog s w K (pX R)
theorem mixed : Tryz.prog.follows .mixedOrders = true := by kernel_rfl
abbrev ml1 (a0 : Value) (w : World) (F : Value → Env → World → (Value → World → Prop) → Prop) : Prop :=
  ∃ (I : Value → World → Prop) (μ : Value → World → Nat), I a0 w ∧ ∀ (x0 : Value) (u : Env) (w : World), I x0 w → F x0 u w (fun y0 w2 => I y0 w2 ∧ μ y0 w2 < μ x0 w)
abbrev ml2 (a0 a1 : Value) (w : World) (F : Value → Value → Env → World → (Value → Value → World → Prop) → Prop) : Prop :=
  ∃ (I : Value → Value → World → Prop) (μ : Value → Value → World → Nat), I a0 a1 w ∧ ∀ (x0 x1 : Value) (u : Env) (w : World), I x0 x1 w → F x0 x1 u w (fun y0 y1 w2 => I y0 y1 w2 ∧ μ y0 y1 w2 < μ x0 x1 w)
abbrev ml3 (a0 a1 a2 : Value) (w : World) (F : Value → Value → Value → Env → World → (Value → Value → Value → World → Prop) → Prop) : Prop :=
  ∃ (I : Value → Value → Value → World → Prop) (μ : Value → Value → Value → World → Nat), I a0 a1 a2 w ∧ ∀ (x0 x1 x2 : Value) (u : Env) (w : World), I x0 x1 x2 w → F x0 x1 x2 u w (fun y0 y1 y2 w2 => I y0 y1 y2 w2 ∧ μ y0 y1 y2 w2 < μ x0 x1 x2 w)
abbrev ml9 (a0 a1 a2 a3 a4 a5 a6 a7 a8 : Value) (w : World) (F : Value → Value → Value → Value → Value → Value → Value → Value → Value → Env → World → (Value → Value → Value → Value → Value → Value → Value → Value → Value → World → Prop) → Prop) : Prop :=
  ∃ (I : Value → Value → Value → Value → Value → Value → Value → Value → Value → World → Prop) (μ : Value → Value → Value → Value → Value → Value → Value → Value → Value → World → Nat), I a0 a1 a2 a3 a4 a5 a6 a7 a8 w ∧ ∀ (x0 x1 x2 x3 x4 x5 x6 x7 x8 : Value) (u : Env) (w : World), I x0 x1 x2 x3 x4 x5 x6 x7 x8 w → F x0 x1 x2 x3 x4 x5 x6 x7 x8 u w (fun y0 y1 y2 y3 y4 y5 y6 y7 y8 w2 => I y0 y1 y2 y3 y4 y5 y6 y7 y8 w2 ∧ μ y0 y1 y2 y3 y4 y5 y6 y7 y8 w2 < μ x0 x1 x2 x3 x4 x5 x6 x7 x8 w)
abbrev mj0 (F : (World → Prop) → Prop) (G : Env → World → Prop) : Prop :=
  ∃ J : World → Prop, F J ∧ ∀ (u : Env) (w : World), J w → G u w
abbrev mj1 (F : (Value → World → Prop) → Prop) (G : Value → Env → World → Prop) : Prop :=
  ∃ J : Value → World → Prop, F J ∧ ∀ (x0 : Value) (u : Env) (w : World), J x0 w → G x0 u w
abbrev mj2 (F : (Value → Value → World → Prop) → Prop) (G : Value → Value → Env → World → Prop) : Prop :=
  ∃ J : Value → Value → World → Prop, F J ∧ ∀ (x0 x1 : Value) (u : Env) (w : World), J x0 x1 w → G x0 x1 u w
abbrev mj3 (F : (Value → Value → Value → World → Prop) → Prop) (G : Value → Value → Value → Env → World → Prop) : Prop :=
  ∃ J : Value → Value → Value → World → Prop, F J ∧ ∀ (x0 x1 x2 : Value) (u : Env) (w : World), J x0 x1 x2 w → G x0 x1 x2 u w
instance : ShpC Tryz.prog 25 true 2 := ⟨by kernel_rfl⟩
instance : FunC Tryz.prog 5 := ⟨by kernel_rfl⟩
instance : FunC Tryz.prog 6 := ⟨by kernel_rfl⟩
instance (ty : TypeId) (cs : List Bool) (a : Option Addr) (n c : Nat) : StepC Tryz.prog (o_builtin .len #[26] ty cs [.slice a n c]) True (.int .i64 n) := ⟨fun _ => p_len_slice 26 ty 43 cs a n c (by kernel_rfl)⟩
instance : FunC Tryz.prog 8 := ⟨by kernel_rfl⟩
instance : FunC Tryz.prog 9 := ⟨by kernel_rfl⟩
instance : FunC Tryz.prog 7 := ⟨by kernel_rfl⟩
instance : ZerF Tryz.prog 34 [.arr 32 (u8s hzero.1)] := ⟨by kernel_rfl, inferInstance⟩
instance : HshC Tryz.prog 34 := ⟨⟨5, by kernel_rfl, by kernel_rfl⟩, by kernel_rfl⟩
instance : ZerC Tryz.prog 34 (List.replicate 32 (.int .u8 0)) := ⟨by kernel_rfl⟩
instance : ShpC Tryz.prog 34 true 32 := ⟨by kernel_rfl⟩
instance : ZerF Tryz.prog 25 [.one (.slice none 0 0), .one (.slice none 0 0)] := ⟨by kernel_rfl, inferInstance⟩
instance : BltC Tryz.prog 25 := ⟨by kernel_rfl⟩
instance : FunC Tryz.prog 11 := ⟨by kernel_rfl⟩
instance : ZerF Tryz.prog 40 [.one (.int .i64 0), .arr 32 (u8s hzero.1), .arr 32 (u8s hzero.1), .arr 32 (u8s hzero.1)] := ⟨by kernel_rfl, inferInstance⟩
instance : BltC Tryz.prog 40 := ⟨by kernel_rfl⟩
instance : PlC Tryz.prog 40 0 0 1 := ⟨by kernel_rfl⟩
instance : PlC Tryz.prog 40 1 1 32 := ⟨by kernel_rfl⟩
instance : ZerF Tryz.prog 43 [.one (.int .i64 0), .arr 32 (u8s hzero.1)] := ⟨by kernel_rfl, inferInstance⟩
instance : BltC Tryz.prog 43 := ⟨by kernel_rfl⟩
instance : PlC Tryz.prog 43 0 0 1 := ⟨by kernel_rfl⟩
instance : PlC Tryz.prog 43 1 1 32 := ⟨by kernel_rfl⟩
instance : ShpC Tryz.prog 26 false 1 := ⟨by kernel_rfl⟩
instance : ShpC Tryz.prog 5 false 1 := ⟨by kernel_rfl⟩
instance (ty : TypeId) (cs : List Bool) (a : Option Addr) (n c : Nat) : StepC Tryz.prog (o_builtin .len #[47] ty cs [.slice a n c]) True (.int .i64 n) := ⟨fun _ => p_len_slice 47 ty 3 cs a n c (by kernel_rfl)⟩
instance : SliS Tryz.prog 47 1 := ⟨by kernel_rfl, by kernel_rfl⟩
instance : ShpC Tryz.prog 3 false 1 := ⟨by kernel_rfl⟩
instance (a : Int) : StepC Tryz.prog (o_conv 3 5 (.int .i64 a)) True (.int .u8 (a % 256)) := ⟨fun _ => by have := p_conv_int (P := Tryz.prog) 3 5 .i64 .u8 a (by kernel_rfl) (by kernel_rfl); rwa [show IntKind.wrap .u8 a = a % 256 by simp [IntKind.wrap, IntKind.bits, IntKind.signed]] at this⟩
instance : FunC Tryz.prog 16 := ⟨by kernel_rfl⟩
instance : ZerF Tryz.prog 56 [.one (.slice none 0 0), .one (.slice none 0 0), .one (.slice none 0 0), .one (.slice none 0 0), .one (.slice none 0 0), .arr 32 (u8s hzero.1)] := ⟨by kernel_rfl, inferInstance⟩
instance : ShpC Tryz.prog 56 true 37 := ⟨by kernel_rfl⟩
instance (priority := 1100) (b : Nat) : StepC Tryz.prog (o_fieldAddr 25 (.pointer (some ⟨b, 0, none⟩)) 0) True (.pointer (some ⟨b, 0, none⟩)) := ⟨fun _ => p_fieldAddr 25 b 0 0 0 1 (by kernel_rfl) (by decide)⟩
instance : ShpC Tryz.prog 22 false 1 := ⟨by kernel_rfl⟩
instance (ty : TypeId) (cs : List Bool) (a : Option Addr) (n c : Nat) : StepC Tryz.prog (o_builtin .len #[22] ty cs [.slice a n c]) True (.int .i64 n) := ⟨fun _ => p_len_slice 22 ty 40 cs a n c (by kernel_rfl)⟩
instance (priority := 1100) (b : Nat) : StepC Tryz.prog (o_fieldAddr 56 (.pointer (some ⟨b, 0, none⟩)) 0) True (.pointer (some ⟨b, 0, none⟩)) := ⟨fun _ => p_fieldAddr 56 b 0 0 0 2 (by kernel_rfl) (by decide)⟩
instance (priority := 1100) (b : Nat) : StepC Tryz.prog (o_fieldAddr 56 (.pointer (some ⟨b, 0, none⟩)) 2) True (.pointer (some ⟨b, 3, none⟩)) := ⟨fun _ => p_fieldAddr 56 b 0 2 3 1 (by kernel_rfl) (by decide)⟩
instance : ShpC Tryz.prog 54 false 1 := ⟨by kernel_rfl⟩
instance : SliS Tryz.prog 54 32 := ⟨by kernel_rfl, by kernel_rfl⟩
instance : SliS Tryz.prog 22 97 := ⟨by kernel_rfl, by kernel_rfl⟩
instance (priority := 1100) (b : Nat) : StepC Tryz.prog (o_fieldAddr 40 (.pointer (some ⟨b, 0, none⟩)) 1) True (.pointer (some ⟨b, 1, none⟩)) := ⟨fun _ => p_fieldAddr 40 b 0 1 1 32 (by kernel_rfl) (by decide)⟩
instance (b o : Nat) : StepC Tryz.prog (o_fieldAddr 40 (.pointer (some ⟨b, o, none⟩)) 1) True (.pointer (some ⟨b, o + 1, none⟩)) := ⟨fun _ => p_fieldAddr 40 b o 1 1 32 (by kernel_rfl) (by decide)⟩
instance (priority := 1100) (b : Nat) : StepC Tryz.prog (o_fieldAddr 56 (.pointer (some ⟨b, 0, none⟩)) 1) True (.pointer (some ⟨b, 2, none⟩)) := ⟨fun _ => p_fieldAddr 56 b 0 1 2 1 (by kernel_rfl) (by decide)⟩
instance : ShpC Tryz.prog 53 false 1 := ⟨by kernel_rfl⟩
instance : FunC Tryz.prog 20 := ⟨by kernel_rfl⟩
instance : FunC Tryz.prog 21 := ⟨by kernel_rfl⟩
instance (priority := 1100) (b : Nat) : StepC Tryz.prog (o_fieldAddr 56 (.pointer (some ⟨b, 0, none⟩)) 4) True (.pointer (some ⟨b, 5, none⟩)) := ⟨fun _ => p_fieldAddr 56 b 0 4 5 32 (by kernel_rfl) (by decide)⟩
instance : KindC Tryz.prog 34 (List.replicate 32 (.int .u8)) := ⟨by kernel_rfl, by kernel_rfl, by kernel_rfl⟩
instance (priority := 1100) (b : Nat) : StepC Tryz.prog (o_fieldAddr 56 (.pointer (some ⟨b, 0, none⟩)) 3) True (.pointer (some ⟨b, 4, none⟩)) := ⟨fun _ => p_fieldAddr 56 b 0 3 4 1 (by kernel_rfl) (by decide)⟩
instance : FunC Tryz.prog 23 := ⟨by kernel_rfl⟩
instance : ZerF Tryz.prog 69 [.one (.bool false), .arr 32 (u8s hzero.1), .arr 32 (u8s hzero.1), .one (.slice none 0 0)] := ⟨by kernel_rfl, inferInstance⟩
instance : BltC Tryz.prog 69 := ⟨by kernel_rfl⟩
instance : PlC Tryz.prog 25 0 0 1 := ⟨by kernel_rfl⟩
instance : PlC Tryz.prog 25 1 1 1 := ⟨by kernel_rfl⟩
instance (ty : TypeId) (cs : List Bool) (a : Option Addr) (n c : Nat) : StepC Tryz.prog (o_builtin .len #[53] ty cs [.slice a n c]) True (.int .i64 n) := ⟨fun _ => p_len_slice 53 ty 72 cs a n c (by kernel_rfl)⟩
instance : SliS Tryz.prog 53 33 := ⟨by kernel_rfl, by kernel_rfl⟩
instance (priority := 1100) (b : Nat) : StepC Tryz.prog (o_fieldAddr 72 (.pointer (some ⟨b, 0, none⟩)) 1) True (.pointer (some ⟨b, 32, none⟩)) := ⟨fun _ => p_fieldAddr 72 b 0 1 32 1 (by kernel_rfl) (by decide)⟩
instance (b o : Nat) : StepC Tryz.prog (o_fieldAddr 72 (.pointer (some ⟨b, o, none⟩)) 1) True (.pointer (some ⟨b, o + 32, none⟩)) := ⟨fun _ => p_fieldAddr 72 b o 1 32 1 (by kernel_rfl) (by decide)⟩
instance : ShpC Tryz.prog 70 false 1 := ⟨by kernel_rfl⟩
instance (ty : TypeId) (cs : List Bool) (a : Option Addr) (n c : Nat) : StepC Tryz.prog (o_builtin .len #[70] ty cs [.slice a n c]) True (.int .i64 n) := ⟨fun _ => p_len_slice 70 ty 9 cs a n c (by kernel_rfl)⟩
instance (priority := 1100) (b : Nat) : StepC Tryz.prog (o_fieldAddr 25 (.pointer (some ⟨b, 0, none⟩)) 1) True (.pointer (some ⟨b, 1, none⟩)) := ⟨fun _ => p_fieldAddr 25 b 0 1 1 1 (by kernel_rfl) (by decide)⟩
instance : ShpC Tryz.prog 23 false 1 := ⟨by kernel_rfl⟩
instance (ty : TypeId) (cs : List Bool) (a : Option Addr) (n c : Nat) : StepC Tryz.prog (o_builtin .len #[23] ty cs [.slice a n c]) True (.int .i64 n) := ⟨fun _ => p_len_slice 23 ty 69 cs a n c (by kernel_rfl)⟩
instance (b o n c : Nat) (k : IntKind) (i : Int) : StepC Tryz.prog (o_indexAddr 23 (.slice (some ⟨b, o, none⟩) n c) (.int k i)) (0 ≤ i ∧ i < n) (.pointer (some ⟨b, o + i.toNat * 66, none⟩)) := ⟨fun h => p_indexAddr_slice (P := Tryz.prog) 23 b o n c k i 66 (by kernel_rfl) (by kernel_rfl) h.1 h.2⟩
instance : SliS Tryz.prog 23 66 := ⟨by kernel_rfl, by kernel_rfl⟩
instance (priority := 1100) (b : Nat) : StepC Tryz.prog (o_fieldAddr 69 (.pointer (some ⟨b, 0, none⟩)) 3) True (.pointer (some ⟨b, 65, none⟩)) := ⟨fun _ => p_fieldAddr 69 b 0 3 65 1 (by kernel_rfl) (by decide)⟩
instance (b o : Nat) : StepC Tryz.prog (o_fieldAddr 69 (.pointer (some ⟨b, o, none⟩)) 3) True (.pointer (some ⟨b, o + 65, none⟩)) := ⟨fun _ => p_fieldAddr 69 b o 3 65 1 (by kernel_rfl) (by decide)⟩
instance : ShpC Tryz.prog 47 false 1 := ⟨by kernel_rfl⟩
instance (b o n c : Nat) (k : IntKind) (i : Int) : StepC Tryz.prog (o_indexAddr 26 (.slice (some ⟨b, o, none⟩) n c) (.int k i)) (0 ≤ i ∧ i < n) (.pointer (some ⟨b, o + i.toNat * 33, none⟩)) := ⟨fun h => p_indexAddr_slice (P := Tryz.prog) 26 b o n c k i 33 (by kernel_rfl) (by kernel_rfl) h.1 h.2⟩
instance : SliS Tryz.prog 26 33 := ⟨by kernel_rfl, by kernel_rfl⟩
instance : ShpC Tryz.prog 43 true 33 := ⟨by kernel_rfl⟩
instance : KindC Tryz.prog 43 ((.int .i64) :: (List.replicate 32 (.int .u8))) := ⟨by kernel_rfl, by kernel_rfl, by kernel_rfl⟩
instance : FunC Tryz.prog 24 := ⟨by kernel_rfl⟩
instance (priority := 1100) (b : Nat) : StepC Tryz.prog (o_fieldAddr 43 (.pointer (some ⟨b, 0, none⟩)) 0) True (.pointer (some ⟨b, 0, none⟩)) := ⟨fun _ => p_fieldAddr 43 b 0 0 0 1 (by kernel_rfl) (by decide)⟩
instance (b o : Nat) : StepC Tryz.prog (o_fieldAddr 43 (.pointer (some ⟨b, o, none⟩)) 0) True (.pointer (some ⟨b, o + 0, none⟩)) := ⟨fun _ => p_fieldAddr 43 b o 0 0 1 (by kernel_rfl) (by decide)⟩
instance : FunC Tryz.prog 25 := ⟨by kernel_rfl⟩
instance (priority := 1100) (b : Nat) : StepC Tryz.prog (o_fieldAddr 43 (.pointer (some ⟨b, 0, none⟩)) 1) True (.pointer (some ⟨b, 1, none⟩)) := ⟨fun _ => p_fieldAddr 43 b 0 1 1 32 (by kernel_rfl) (by decide)⟩
instance (b o : Nat) : StepC Tryz.prog (o_fieldAddr 43 (.pointer (some ⟨b, o, none⟩)) 1) True (.pointer (some ⟨b, o + 1, none⟩)) := ⟨fun _ => p_fieldAddr 43 b o 1 1 32 (by kernel_rfl) (by decide)⟩
instance : FunC Tryz.prog 26 := ⟨by kernel_rfl⟩
instance : FunC Tryz.prog 27 := ⟨by kernel_rfl⟩
instance : FunC Tryz.prog 28 := ⟨by kernel_rfl⟩
instance : FunC Tryz.prog 29 := ⟨by kernel_rfl⟩
instance : ShpC Tryz.prog 40 true 97 := ⟨by kernel_rfl⟩
instance (priority := 1100) (b : Nat) : StepC Tryz.prog (o_fieldAddr 40 (.pointer (some ⟨b, 0, none⟩)) 0) True (.pointer (some ⟨b, 0, none⟩)) := ⟨fun _ => p_fieldAddr 40 b 0 0 0 1 (by kernel_rfl) (by decide)⟩
instance (b o : Nat) : StepC Tryz.prog (o_fieldAddr 40 (.pointer (some ⟨b, o, none⟩)) 0) True (.pointer (some ⟨b, o + 0, none⟩)) := ⟨fun _ => p_fieldAddr 40 b o 0 0 1 (by kernel_rfl) (by decide)⟩
instance : FunC Tryz.prog 30 := ⟨by kernel_rfl⟩
instance : FunC Tryz.prog 32 := ⟨by kernel_rfl⟩
instance (priority := 1100) (b : Nat) : StepC Tryz.prog (o_fieldAddr 69 (.pointer (some ⟨b, 0, none⟩)) 0) True (.pointer (some ⟨b, 0, none⟩)) := ⟨fun _ => p_fieldAddr 69 b 0 0 0 1 (by kernel_rfl) (by decide)⟩
instance (b o : Nat) : StepC Tryz.prog (o_fieldAddr 69 (.pointer (some ⟨b, o, none⟩)) 0) True (.pointer (some ⟨b, o + 0, none⟩)) := ⟨fun _ => p_fieldAddr 69 b o 0 0 1 (by kernel_rfl) (by decide)⟩
instance : ShpC Tryz.prog 4 false 1 := ⟨by kernel_rfl⟩
instance : FunC Tryz.prog 35 := ⟨by kernel_rfl⟩
instance : FunC Tryz.prog 37 := ⟨by kernel_rfl⟩
instance : ZerF Tryz.prog 86 [.one (.slice none 0 0), .one (.slice none 0 0)] := ⟨by kernel_rfl, inferInstance⟩
instance : BltC Tryz.prog 86 := ⟨by kernel_rfl⟩
instance : PlC Tryz.prog 86 0 0 1 := ⟨by kernel_rfl⟩
instance : PlC Tryz.prog 86 1 1 1 := ⟨by kernel_rfl⟩
instance : FunC Tryz.prog 36 := ⟨by kernel_rfl⟩
instance : FunC Tryz.prog 38 := ⟨by kernel_rfl⟩
instance : FunC Tryz.prog 42 := ⟨by kernel_rfl⟩
instance (priority := 1100) (b : Nat) : StepC Tryz.prog (o_fieldAddr 40 (.pointer (some ⟨b, 0, none⟩)) 3) True (.pointer (some ⟨b, 65, none⟩)) := ⟨fun _ => p_fieldAddr 40 b 0 3 65 32 (by kernel_rfl) (by decide)⟩
instance (b o : Nat) : StepC Tryz.prog (o_fieldAddr 40 (.pointer (some ⟨b, o, none⟩)) 3) True (.pointer (some ⟨b, o + 65, none⟩)) := ⟨fun _ => p_fieldAddr 40 b o 3 65 32 (by kernel_rfl) (by decide)⟩
instance : BltC Tryz.prog 56 := ⟨by kernel_rfl⟩
instance : FunC Tryz.prog 44 := ⟨by kernel_rfl⟩
instance (ty : TypeId) (cs : List Bool) (s : ByteArray) : StepC Tryz.prog (o_builtin .len #[9] ty cs [.string s]) True (.int .i64 s.size) := ⟨fun _ => p_len_string 9 ty cs s (by kernel_rfl)⟩
instance : FunC Tryz.prog 46 := ⟨by kernel_rfl⟩
instance : FunC Tryz.prog 45 := ⟨by kernel_rfl⟩
instance : FunC Tryz.prog 47 := ⟨by kernel_rfl⟩
instance (ty : TypeId) (cs : List Bool) (a : Option Addr) (n c : Nat) : StepC Tryz.prog (o_builtin .len #[95] ty cs [.slice a n c]) True (.int .i64 n) := ⟨fun _ => p_len_slice 95 ty 47 cs a n c (by kernel_rfl)⟩
instance : SliS Tryz.prog 95 1 := ⟨by kernel_rfl, by kernel_rfl⟩
instance : ZerF Tryz.prog 72 [.arr 32 (u8s hzero.1), .one (.slice none 0 0)] := ⟨by kernel_rfl, inferInstance⟩
instance : BltC Tryz.prog 72 := ⟨by kernel_rfl⟩
instance : PlC Tryz.prog 72 0 0 32 := ⟨by kernel_rfl⟩
instance : ShpC Tryz.prog 72 true 33 := ⟨by kernel_rfl⟩
instance : FunC Tryz.prog 49 := ⟨by kernel_rfl⟩
instance : FunC Tryz.prog 48 := ⟨by kernel_rfl⟩
instance (b o : Nat) (k : IntKind) (l : Int) : StepC Tryz.prog (o_slice 34 (.pointer (some ⟨b, o, none⟩)) none (some (.int k l)) none) (0 ≤ l ∧ l ≤ 32) (.slice (some ⟨b, o, none⟩) l.toNat 32) := ⟨fun h => p_slice_array_h (P := Tryz.prog) 34 b o 32 k l 1 (by kernel_rfl) (by kernel_rfl) (by kernel_rfl) h.1 h.2⟩
instance (b o : Nat) : StepC Tryz.prog (o_slice 34 (.pointer (some ⟨b, o, none⟩)) none none none) True (.slice (some ⟨b, o, none⟩) 32 32) := ⟨fun _ => p_slice_array_all (P := Tryz.prog) 34 b o 32 1 (by kernel_rfl) (by kernel_rfl) (by kernel_rfl)⟩
instance : StrC Tryz.prog 99 9 := ⟨⟨5, by kernel_rfl, by kernel_rfl⟩, by kernel_rfl⟩
instance : FunC Tryz.prog 50 := ⟨by kernel_rfl⟩
instance : FunC Tryz.prog 51 := ⟨by kernel_rfl⟩
instance : FunC Tryz.prog 53 := ⟨by kernel_rfl⟩
instance : FunC Tryz.prog 54 := ⟨by kernel_rfl⟩
instance : FunC Tryz.prog 56 := ⟨by kernel_rfl⟩
instance : ZerF Tryz.prog 3 [.one (.int .i64 0)] := ⟨by kernel_rfl, inferInstance⟩
instance : FunC Tryz.prog 59 := ⟨by kernel_rfl⟩
instance : FunC Tryz.prog 58 := ⟨by kernel_rfl⟩
instance : FunC Tryz.prog 61 := ⟨by kernel_rfl⟩
instance (priority := 1100) (b : Nat) : StepC Tryz.prog (o_fieldAddr 72 (.pointer (some ⟨b, 0, none⟩)) 0) True (.pointer (some ⟨b, 0, none⟩)) := ⟨fun _ => p_fieldAddr 72 b 0 0 0 32 (by kernel_rfl) (by decide)⟩
instance : FunC Tryz.prog 62 := ⟨by kernel_rfl⟩
instance : PlC Tryz.prog 72 1 32 1 := ⟨by kernel_rfl⟩
instance : KindC Tryz.prog 40 ((.int .i64) :: (List.replicate 32 (.int .u8) ++ (List.replicate 32 (.int .u8) ++ (List.replicate 32 (.int .u8))))) := ⟨by kernel_rfl, by kernel_rfl, by kernel_rfl⟩
instance : ShpC Tryz.prog 69 true 66 := ⟨by kernel_rfl⟩
instance : IsBo Tryz.prog 4 := ⟨by kernel_rfl⟩
instance (priority := 1100) (b : Nat) : StepC Tryz.prog (o_fieldAddr 69 (.pointer (some ⟨b, 0, none⟩)) 1) True (.pointer (some ⟨b, 1, none⟩)) := ⟨fun _ => p_fieldAddr 69 b 0 1 1 32 (by kernel_rfl) (by decide)⟩
instance (b o : Nat) : StepC Tryz.prog (o_fieldAddr 69 (.pointer (some ⟨b, o, none⟩)) 1) True (.pointer (some ⟨b, o + 1, none⟩)) := ⟨fun _ => p_fieldAddr 69 b o 1 1 32 (by kernel_rfl) (by decide)⟩
instance (priority := 1100) (b : Nat) : StepC Tryz.prog (o_fieldAddr 69 (.pointer (some ⟨b, 0, none⟩)) 2) True (.pointer (some ⟨b, 33, none⟩)) := ⟨fun _ => p_fieldAddr 69 b 0 2 33 32 (by kernel_rfl) (by decide)⟩
instance : FunC Tryz.prog 63 := ⟨by kernel_rfl⟩
instance : ShpC Tryz.prog 33 true 32 := ⟨by kernel_rfl⟩
instance : ZerF Tryz.prog 33 [.arr 32 (u8s hzero.1)] := ⟨by kernel_rfl, inferInstance⟩
instance : ZerC Tryz.prog 33 (List.replicate 32 (.int .u8 0)) := ⟨by kernel_rfl⟩
instance : FunC Tryz.prog 65 := ⟨by kernel_rfl⟩
instance : FunC Tryz.prog 64 := ⟨by kernel_rfl⟩
instance : ZerF Tryz.prog 116 [.arr 65 (List.replicate 65 (.bool false))] := ⟨by kernel_rfl, inferInstance⟩
instance (b o : Nat) (k : IntKind) (i : Int) : StepC Tryz.prog (o_indexAddr 116 (.pointer (some ⟨b, o, none⟩)) (.int k i)) (0 ≤ i ∧ i < 65) (.pointer (some ⟨b, o + i.toNat, none⟩)) := ⟨fun h => by have := p_indexAddr_array (P := Tryz.prog) 116 b o 65 k i 1 (by kernel_rfl) (by kernel_rfl) (by kernel_rfl) h.1 h.2; rwa [Nat.mul_one] at this⟩
instance : FunC Tryz.prog 66 := ⟨by kernel_rfl⟩
instance : FunC Tryz.prog 60 := ⟨by kernel_rfl⟩
instance : FunC Tryz.prog 67 := ⟨by kernel_rfl⟩
instance : FunC Tryz.prog 68 := ⟨by kernel_rfl⟩
instance : FunC Tryz.prog 70 := ⟨by kernel_rfl⟩
instance : FunC Tryz.prog 72 := ⟨by kernel_rfl⟩
instance : FunC Tryz.prog 73 := ⟨by kernel_rfl⟩
instance : FunC Tryz.prog 74 := ⟨by kernel_rfl⟩
instance : ZerF Tryz.prog 47 [.one (.slice none 0 0)] := ⟨by kernel_rfl, inferInstance⟩
instance (a : Int) : StepC Tryz.prog (o_conv 3 59 (.int .i64 a)) True (.int .u64 (a % 18446744073709551616)) := ⟨fun _ => by have := p_conv_int (P := Tryz.prog) 3 59 .i64 .u64 a (by kernel_rfl) (by kernel_rfl); rwa [show IntKind.wrap .u64 a = a % 18446744073709551616 by simp [IntKind.wrap, IntKind.bits, IntKind.signed]] at this⟩
instance (a : Int) : StepC Tryz.prog (o_conv 59 3 (.int .u64 a)) ((-9223372036854775808) ≤ a ∧ a < 9223372036854775808) (.int .i64 a) := ⟨fun h => by have := p_conv_int (P := Tryz.prog) 59 3 .u64 .i64 a (by kernel_rfl) (by kernel_rfl); rwa [show IntKind.wrap .i64 a = a by simp [IntKind.wrap, IntKind.bits, IntKind.signed]; omega] at this⟩
instance : FunC Tryz.prog 80 := ⟨by kernel_rfl⟩
instance : ShpC Tryz.prog 86 true 2 := ⟨by kernel_rfl⟩
instance (priority := 1100) (b : Nat) : StepC Tryz.prog (o_fieldAddr 86 (.pointer (some ⟨b, 0, none⟩)) 1) True (.pointer (some ⟨b, 1, none⟩)) := ⟨fun _ => p_fieldAddr 86 b 0 1 1 1 (by kernel_rfl) (by decide)⟩
instance (ty : TypeId) (cs : List Bool) (a : Option Addr) (n c : Nat) : StepC Tryz.prog (o_builtin .len #[54] ty cs [.slice a n c]) True (.int .i64 n) := ⟨fun _ => p_len_slice 54 ty 34 cs a n c (by kernel_rfl)⟩
instance : IsPt Tryz.prog 82 := isPt_of (by kernel_rfl)
instance : FunC Tryz.prog 82 := ⟨by kernel_rfl⟩
instance : FunC Tryz.prog 85 := ⟨by kernel_rfl⟩
instance : FunC Tryz.prog 87 := ⟨by kernel_rfl⟩
instance : FunC Tryz.prog 86 := ⟨by kernel_rfl⟩
instance : FunC Tryz.prog 89 := ⟨by kernel_rfl⟩
instance : FunC Tryz.prog 88 := ⟨by kernel_rfl⟩
instance : FunC Tryz.prog 91 := ⟨by kernel_rfl⟩
instance : FunC Tryz.prog 92 := ⟨by kernel_rfl⟩
instance : FunC Tryz.prog 93 := ⟨by kernel_rfl⟩
instance : FunC Tryz.prog 94 := ⟨by kernel_rfl⟩
instance : FunC Tryz.prog 95 := ⟨by kernel_rfl⟩
instance : PlC Tryz.prog 69 0 0 1 := ⟨by kernel_rfl⟩
instance : PlC Tryz.prog 69 1 1 32 := ⟨by kernel_rfl⟩
instance : PlC Tryz.prog 69 2 33 32 := ⟨by kernel_rfl⟩
instance : FunC Tryz.prog 96 := ⟨by kernel_rfl⟩
instance : FunC Tryz.prog 97 := ⟨by kernel_rfl⟩
instance : FunC Tryz.prog 98 := ⟨by kernel_rfl⟩
instance : FunC Tryz.prog 99 := ⟨by kernel_rfl⟩
instance : FunC Tryz.prog 100 := ⟨by kernel_rfl⟩
instance : FunC Tryz.prog 102 := ⟨by kernel_rfl⟩
instance : FunC Tryz.prog 101 := ⟨by kernel_rfl⟩
instance (b o n c : Nat) (k : IntKind) (i : Int) : StepC Tryz.prog (o_indexAddr 70 (.slice (some ⟨b, o, none⟩) n c) (.int k i)) (0 ≤ i ∧ i < n) (.pointer (some ⟨b, o + i.toNat, none⟩)) := ⟨fun h => by have := p_indexAddr_slice (P := Tryz.prog) 70 b o n c k i 1 (by kernel_rfl) (by kernel_rfl) h.1 h.2; rwa [Nat.mul_one] at this⟩
instance : SliS Tryz.prog 70 1 := ⟨by kernel_rfl, by kernel_rfl⟩
instance : ShpC Tryz.prog 9 false 1 := ⟨by kernel_rfl⟩
instance : FunC Tryz.prog 103 := ⟨by kernel_rfl⟩
instance : IsSl Tryz.prog 70 := isSl_of (by kernel_rfl)
instance : ZerC Tryz.prog 160 (List.replicate 64 (.int .u32 0)) := ⟨by kernel_rfl⟩
instance : ShpC Tryz.prog 160 true 64 := ⟨by kernel_rfl⟩
instance (ty : TypeId) (cs : List Bool) (a : Option Addr) (n c : Nat) : StepC Tryz.prog (o_builtin .len #[99] ty cs [.slice a n c]) True (.int .i64 n) := ⟨fun _ => p_len_slice 99 ty 5 cs a n c (by kernel_rfl)⟩
instance (a : Int) : StepC Tryz.prog (o_conv 3 161 (.int .i64 a)) True (.int .u64 (a % 18446744073709551616)) := ⟨fun _ => by have := p_conv_int (P := Tryz.prog) 3 161 .i64 .u64 a (by kernel_rfl) (by kernel_rfl); rwa [show IntKind.wrap .u64 a = a % 18446744073709551616 by simp [IntKind.wrap, IntKind.bits, IntKind.signed]] at this⟩
instance (a : Int) : StepC Tryz.prog (o_conv 161 5 (.int .u64 a)) True (.int .u8 (a % 256)) := ⟨fun _ => by have := p_conv_int (P := Tryz.prog) 161 5 .u64 .u8 a (by kernel_rfl) (by kernel_rfl); rwa [show IntKind.wrap .u8 a = a % 256 by simp [IntKind.wrap, IntKind.bits, IntKind.signed]] at this⟩
instance : ZerC Tryz.prog 162 (List.replicate 8 (.int .u32 0)) := ⟨by kernel_rfl⟩
instance : ShpC Tryz.prog 162 true 8 := ⟨by kernel_rfl⟩
instance : FunC Tryz.prog 104 := ⟨by kernel_rfl⟩
instance (b o : Nat) (k : IntKind) (i : Int) : StepC Tryz.prog (o_indexAddr 160 (.pointer (some ⟨b, o, none⟩)) (.int k i)) (0 ≤ i ∧ i < 64) (.pointer (some ⟨b, o + i.toNat, none⟩)) := ⟨fun h => by have := p_indexAddr_array (P := Tryz.prog) 160 b o 64 k i 1 (by kernel_rfl) (by kernel_rfl) (by kernel_rfl) h.1 h.2; rwa [Nat.mul_one] at this⟩
instance : ShpC Tryz.prog 159 false 1 := ⟨by kernel_rfl⟩
instance : FunC Tryz.prog 105 := ⟨by kernel_rfl⟩
instance (priority := 1200) (b : Nat) (k : IntKind) : StepC Tryz.prog (o_indexAddr 162 (.pointer (some ⟨b, 0, none⟩)) (.int k 0)) True (.pointer (some ⟨b, 0, none⟩)) := ⟨fun _ => by have := p_indexAddr_array (P := Tryz.prog) 162 b 0 8 k 0 1 (by kernel_rfl) (by kernel_rfl) (by kernel_rfl) (by omega) (by omega); exact this⟩
instance (priority := 1200) (b : Nat) (k : IntKind) : StepC Tryz.prog (o_indexAddr 162 (.pointer (some ⟨b, 0, none⟩)) (.int k 1)) True (.pointer (some ⟨b, 1, none⟩)) := ⟨fun _ => by have := p_indexAddr_array (P := Tryz.prog) 162 b 0 8 k 1 1 (by kernel_rfl) (by kernel_rfl) (by kernel_rfl) (by omega) (by omega); exact this⟩
instance (priority := 1200) (b : Nat) (k : IntKind) : StepC Tryz.prog (o_indexAddr 162 (.pointer (some ⟨b, 0, none⟩)) (.int k 2)) True (.pointer (some ⟨b, 2, none⟩)) := ⟨fun _ => by have := p_indexAddr_array (P := Tryz.prog) 162 b 0 8 k 2 1 (by kernel_rfl) (by kernel_rfl) (by kernel_rfl) (by omega) (by omega); exact this⟩
instance (priority := 1200) (b : Nat) (k : IntKind) : StepC Tryz.prog (o_indexAddr 162 (.pointer (some ⟨b, 0, none⟩)) (.int k 3)) True (.pointer (some ⟨b, 3, none⟩)) := ⟨fun _ => by have := p_indexAddr_array (P := Tryz.prog) 162 b 0 8 k 3 1 (by kernel_rfl) (by kernel_rfl) (by kernel_rfl) (by omega) (by omega); exact this⟩
instance (priority := 1200) (b : Nat) (k : IntKind) : StepC Tryz.prog (o_indexAddr 162 (.pointer (some ⟨b, 0, none⟩)) (.int k 4)) True (.pointer (some ⟨b, 4, none⟩)) := ⟨fun _ => by have := p_indexAddr_array (P := Tryz.prog) 162 b 0 8 k 4 1 (by kernel_rfl) (by kernel_rfl) (by kernel_rfl) (by omega) (by omega); exact this⟩
instance (priority := 1200) (b : Nat) (k : IntKind) : StepC Tryz.prog (o_indexAddr 162 (.pointer (some ⟨b, 0, none⟩)) (.int k 5)) True (.pointer (some ⟨b, 5, none⟩)) := ⟨fun _ => by have := p_indexAddr_array (P := Tryz.prog) 162 b 0 8 k 5 1 (by kernel_rfl) (by kernel_rfl) (by kernel_rfl) (by omega) (by omega); exact this⟩
instance (priority := 1200) (b : Nat) (k : IntKind) : StepC Tryz.prog (o_indexAddr 162 (.pointer (some ⟨b, 0, none⟩)) (.int k 6)) True (.pointer (some ⟨b, 6, none⟩)) := ⟨fun _ => by have := p_indexAddr_array (P := Tryz.prog) 162 b 0 8 k 6 1 (by kernel_rfl) (by kernel_rfl) (by kernel_rfl) (by omega) (by omega); exact this⟩
instance (priority := 1200) (b : Nat) (k : IntKind) : StepC Tryz.prog (o_indexAddr 162 (.pointer (some ⟨b, 0, none⟩)) (.int k 7)) True (.pointer (some ⟨b, 7, none⟩)) := ⟨fun _ => by have := p_indexAddr_array (P := Tryz.prog) 162 b 0 8 k 7 1 (by kernel_rfl) (by kernel_rfl) (by kernel_rfl) (by omega) (by omega); exact this⟩
instance (b o : Nat) (k : IntKind) (i : Int) : StepC Tryz.prog (o_indexAddr 162 (.pointer (some ⟨b, o, none⟩)) (.int k i)) (0 ≤ i ∧ i < 8) (.pointer (some ⟨b, o + i.toNat, none⟩)) := ⟨fun h => by have := p_indexAddr_array (P := Tryz.prog) 162 b o 8 k i 1 (by kernel_rfl) (by kernel_rfl) (by kernel_rfl) h.1 h.2; rwa [Nat.mul_one] at this⟩
instance (a : Int) : StepC Tryz.prog (o_conv 159 5 (.int .u32 a)) True (.int .u8 (a % 256)) := ⟨fun _ => by have := p_conv_int (P := Tryz.prog) 159 5 .u32 .u8 a (by kernel_rfl) (by kernel_rfl); rwa [show IntKind.wrap .u8 a = a % 256 by simp [IntKind.wrap, IntKind.bits, IntKind.signed]] at this⟩
instance (b o : Nat) (k : IntKind) (i : Int) : StepC Tryz.prog (o_indexAddr 33 (.pointer (some ⟨b, o, none⟩)) (.int k i)) (0 ≤ i ∧ i < 32) (.pointer (some ⟨b, o + i.toNat, none⟩)) := ⟨fun h => by have := p_indexAddr_array (P := Tryz.prog) 33 b o 32 k i 1 (by kernel_rfl) (by kernel_rfl) (by kernel_rfl) h.1 h.2; rwa [Nat.mul_one] at this⟩
instance (b o : Nat) : StepC Tryz.prog (o_slice 33 (.pointer (some ⟨b, o, none⟩)) none none none) True (.slice (some ⟨b, o, none⟩) 32 32) := ⟨fun _ => p_slice_array_all (P := Tryz.prog) 33 b o 32 1 (by kernel_rfl) (by kernel_rfl) (by kernel_rfl)⟩
instance : IsSl Tryz.prog 26 := isSl_of (by kernel_rfl)
instance : FunC Tryz.prog 106 := ⟨by kernel_rfl⟩
instance : IsSl Tryz.prog 22 := isSl_of (by kernel_rfl)
instance : IsSl Tryz.prog 23 := isSl_of (by kernel_rfl)
instance : IsSl Tryz.prog 47 := isSl_of (by kernel_rfl)
instance : FunC Tryz.prog 111 := ⟨by kernel_rfl⟩
instance : FunC Tryz.prog 112 := ⟨by kernel_rfl⟩
instance : ZerC Tryz.prog 172 (List.replicate 72 (.int .u8 0)) := ⟨by kernel_rfl⟩
instance (b o : Nat) (k : IntKind) (i : Int) : StepC Tryz.prog (o_indexAddr 172 (.pointer (some ⟨b, o, none⟩)) (.int k i)) (0 ≤ i ∧ i < 72) (.pointer (some ⟨b, o + i.toNat, none⟩)) := ⟨fun h => by have := p_indexAddr_array (P := Tryz.prog) 172 b o 72 k i 1 (by kernel_rfl) (by kernel_rfl) (by kernel_rfl) h.1 h.2; rwa [Nat.mul_one] at this⟩
instance (priority := 1100) (b : Nat) : StepC Tryz.prog (o_fieldAddr 170 (.pointer (some ⟨b, 0, none⟩)) 2) True (.pointer (some ⟨b, 72, none⟩)) := ⟨fun _ => p_fieldAddr 170 b 0 2 72 1 (by kernel_rfl) (by decide)⟩
instance (b o : Nat) (k : IntKind) (l : Int) : StepC Tryz.prog (o_slice 172 (.pointer (some ⟨b, o, none⟩)) none (some (.int k l)) none) (0 ≤ l ∧ l ≤ 72) (.slice (some ⟨b, o, none⟩) l.toNat 72) := ⟨fun h => p_slice_array_h (P := Tryz.prog) 172 b o 72 k l 1 (by kernel_rfl) (by kernel_rfl) (by kernel_rfl) h.1 h.2⟩
instance (priority := 1100) (b : Nat) : StepC Tryz.prog (o_fieldAddr 170 (.pointer (some ⟨b, 0, none⟩)) 0) True (.pointer (some ⟨b, 0, none⟩)) := ⟨fun _ => p_fieldAddr 170 b 0 0 0 8 (by kernel_rfl) (by decide)⟩
instance (b o : Nat) (k : IntKind) (i : Int) : StepC Tryz.prog (o_indexAddr 34 (.pointer (some ⟨b, o, none⟩)) (.int k i)) (0 ≤ i ∧ i < 32) (.pointer (some ⟨b, o + i.toNat, none⟩)) := ⟨fun h => by have := p_indexAddr_array (P := Tryz.prog) 34 b o 32 k i 1 (by kernel_rfl) (by kernel_rfl) (by kernel_rfl) h.1 h.2; rwa [Nat.mul_one] at this⟩
instance : IsSl Tryz.prog 54 := isSl_of (by kernel_rfl)
instance : FunC Tryz.prog 124 := ⟨by kernel_rfl⟩
instance : FunC Tryz.prog 123 := ⟨by kernel_rfl⟩
instance : ZerF Tryz.prog 148 [.one .nilFunc] := ⟨by kernel_rfl, inferInstance⟩
instance : FunC Tryz.prog 125 := ⟨by kernel_rfl⟩
instance : ShpC Tryz.prog 148 false 1 := ⟨by kernel_rfl⟩
instance : FunC Tryz.prog 108 := ⟨by kernel_rfl⟩
instance : FunC Tryz.prog 127 := ⟨by kernel_rfl⟩
instance : FunC Tryz.prog 126 := ⟨by kernel_rfl⟩
instance : FunC Tryz.prog 90 := ⟨by kernel_rfl⟩
instance : FunC Tryz.prog 128 := ⟨by kernel_rfl⟩
instance : FunC Tryz.prog 129 := ⟨by kernel_rfl⟩
instance : ZerF Tryz.prog 188 [.one (.slice none 0 0), .one (.bool false)] := ⟨by kernel_rfl, inferInstance⟩
instance : BltC Tryz.prog 188 := ⟨by kernel_rfl⟩
instance : ShpC Tryz.prog 188 true 2 := ⟨by kernel_rfl⟩
instance : IsPt Tryz.prog 146 := isPt_of (by kernel_rfl)
instance (priority := 1100) (b : Nat) : StepC Tryz.prog (o_fieldAddr 188 (.pointer (some ⟨b, 0, none⟩)) 1) True (.pointer (some ⟨b, 1, none⟩)) := ⟨fun _ => p_fieldAddr 188 b 0 1 1 1 (by kernel_rfl) (by decide)⟩
instance : FunC Tryz.prog 130 := ⟨by kernel_rfl⟩
instance (priority := 1100) (b : Nat) : StepC Tryz.prog (o_fieldAddr 188 (.pointer (some ⟨b, 0, none⟩)) 0) True (.pointer (some ⟨b, 0, none⟩)) := ⟨fun _ => p_fieldAddr 188 b 0 0 0 1 (by kernel_rfl) (by decide)⟩
instance : ShpC Tryz.prog 99 false 1 := ⟨by kernel_rfl⟩
instance : FunC Tryz.prog 131 := ⟨by kernel_rfl⟩
instance : FunC Tryz.prog 132 := ⟨by kernel_rfl⟩
instance : FunC Tryz.prog 133 := ⟨by kernel_rfl⟩
instance : FunC Tryz.prog 134 := ⟨by kernel_rfl⟩
instance (s : ByteArray) (k : IntKind) (l : Int) : StepC Tryz.prog (o_slice 9 (.string s) (some (.int k l)) none none) (0 ≤ l ∧ l ≤ s.size) (.string (s.extract l.toNat s.size)) := ⟨fun h => p_slice_string_l (P := Tryz.prog) 9 s k l (by kernel_rfl) h.1 h.2⟩
instance (s : ByteArray) (k : IntKind) (l : Int) : StepC Tryz.prog (o_slice 9 (.string s) none (some (.int k l)) none) (0 ≤ l ∧ l ≤ s.size) (.string (s.extract 0 l.toNat)) := ⟨fun h => p_slice_string_h (P := Tryz.prog) 9 s k l (by kernel_rfl) h.1 h.2⟩
instance : FunC Tryz.prog 135 := ⟨by kernel_rfl⟩
instance (b o n c : Nat) (k : IntKind) (i : Int) : StepC Tryz.prog (o_indexAddr 99 (.slice (some ⟨b, o, none⟩) n c) (.int k i)) (0 ≤ i ∧ i < n) (.pointer (some ⟨b, o + i.toNat, none⟩)) := ⟨fun h => by have := p_indexAddr_slice (P := Tryz.prog) 99 b o n c k i 1 (by kernel_rfl) (by kernel_rfl) h.1 h.2; rwa [Nat.mul_one] at this⟩
instance : SliS Tryz.prog 99 1 := ⟨by kernel_rfl, by kernel_rfl⟩
instance (a : Int) : StepC Tryz.prog (o_conv 5 159 (.int .u8 a)) (0 ≤ a ∧ a < 256) (.int .u32 a) := ⟨fun h => by have := p_conv_int (P := Tryz.prog) 5 159 .u8 .u32 a (by kernel_rfl) (by kernel_rfl); rwa [show IntKind.wrap .u32 a = a by simp [IntKind.wrap, IntKind.bits, IntKind.signed]; omega] at this⟩
instance : FunC Tryz.prog 136 := ⟨by kernel_rfl⟩
instance : FunC Tryz.prog 137 := ⟨by kernel_rfl⟩
instance : FunC Tryz.prog 138 := ⟨by kernel_rfl⟩
instance (priority := 1100) (b : Nat) : StepC Tryz.prog (o_fieldAddr 170 (.pointer (some ⟨b, 0, none⟩)) 1) True (.pointer (some ⟨b, 8, none⟩)) := ⟨fun _ => p_fieldAddr 170 b 0 1 8 64 (by kernel_rfl) (by decide)⟩
instance (b o : Nat) (k : IntKind) (l : Int) : StepC Tryz.prog (o_slice 168 (.pointer (some ⟨b, o, none⟩)) (some (.int k l)) none none) (0 ≤ l ∧ l < 64) (.slice (some ⟨b, o + l.toNat, none⟩) (64 - l.toNat) (64 - l.toNat)) := ⟨fun h => by have := p_slice_array_l (P := Tryz.prog) 168 b o 64 k l 1 (by kernel_rfl) (by kernel_rfl) (by kernel_rfl) h.1 h.2; rwa [Nat.mul_one] at this⟩
instance (b o : Nat) : StepC Tryz.prog (o_slice 168 (.pointer (some ⟨b, o, none⟩)) none none none) True (.slice (some ⟨b, o, none⟩) 64 64) := ⟨fun _ => p_slice_array_all (P := Tryz.prog) 168 b o 64 1 (by kernel_rfl) (by kernel_rfl) (by kernel_rfl)⟩
instance : FunC Tryz.prog 140 := ⟨by kernel_rfl⟩
instance : ZerC Tryz.prog 168 (List.replicate 64 (.int .u8 0)) := ⟨by kernel_rfl⟩
instance (b o : Nat) (k : IntKind) (i : Int) : StepC Tryz.prog (o_indexAddr 168 (.pointer (some ⟨b, o, none⟩)) (.int k i)) (0 ≤ i ∧ i < 64) (.pointer (some ⟨b, o + i.toNat, none⟩)) := ⟨fun h => by have := p_indexAddr_array (P := Tryz.prog) 168 b o 64 k i 1 (by kernel_rfl) (by kernel_rfl) (by kernel_rfl) h.1 h.2; rwa [Nat.mul_one] at this⟩
instance : FunC Tryz.prog 146 := ⟨by kernel_rfl⟩
instance : ZerF Tryz.prog 189 [.one (.int .i64 0), .one (.int .i64 0), .one (.int .i64 0), .one (.int .i64 0)] := ⟨by kernel_rfl, inferInstance⟩
instance : BltC Tryz.prog 189 := ⟨by kernel_rfl⟩
instance : PlC Tryz.prog 189 0 0 1 := ⟨by kernel_rfl⟩
instance : PlC Tryz.prog 189 1 1 1 := ⟨by kernel_rfl⟩
instance : PlC Tryz.prog 189 2 2 1 := ⟨by kernel_rfl⟩
instance : PlC Tryz.prog 189 3 3 1 := ⟨by kernel_rfl⟩
instance : ShpC Tryz.prog 189 true 4 := ⟨by kernel_rfl⟩
instance : FunC Tryz.prog 147 := ⟨by kernel_rfl⟩
instance : FunC Tryz.prog 148 := ⟨by kernel_rfl⟩
instance : FunC Tryz.prog 149 := ⟨by kernel_rfl⟩
instance : FunC Tryz.prog 150 := ⟨by kernel_rfl⟩
instance : FunC Tryz.prog 151 := ⟨by kernel_rfl⟩
instance (priority := 1100) (b : Nat) : StepC Tryz.prog (o_fieldAddr 170 (.pointer (some ⟨b, 0, none⟩)) 3) True (.pointer (some ⟨b, 73, none⟩)) := ⟨fun _ => p_fieldAddr 170 b 0 3 73 64 (by kernel_rfl) (by decide)⟩
instance : FunC Tryz.prog 153 := ⟨by kernel_rfl⟩
instance (priority := 1100) (b : Nat) : StepC Tryz.prog (o_fieldAddr 40 (.pointer (some ⟨b, 0, none⟩)) 2) True (.pointer (some ⟨b, 33, none⟩)) := ⟨fun _ => p_fieldAddr 40 b 0 2 33 32 (by kernel_rfl) (by decide)⟩
instance : FunC Tryz.prog 154 := ⟨by kernel_rfl⟩
instance : SliC Tryz.prog 26 43 33 40 := ⟨by kernel_rfl⟩
instance : SliC Tryz.prog 47 3 1 8 := ⟨by kernel_rfl⟩
instance : SliC Tryz.prog 22 40 97 104 := ⟨by kernel_rfl⟩
instance : SliC Tryz.prog 23 69 66 96 := ⟨by kernel_rfl⟩
instance : SliC Tryz.prog 54 34 32 32 := ⟨by kernel_rfl⟩
instance : SliC Tryz.prog 70 9 1 16 := ⟨by kernel_rfl⟩
instance : SliC Tryz.prog 53 72 33 56 := ⟨by kernel_rfl⟩
instance : SliC Tryz.prog 95 47 1 24 := ⟨by kernel_rfl⟩
instance : SliC Tryz.prog 99 5 1 1 := ⟨by kernel_rfl⟩
end Go.Proofs.YtpjodlnlmaaihaaGreat
set_option linter.unusedVariables false
namespace Go.Proofs.YtpjodlnlmaaihaaGreat
def F_bevylaw09_ClimbKeeps (x0 x1 : Value) (w : World) (R : Ending → World → Prop) : Prop :=
 m R (o_box 25 x0) w fun x2 w1 =>
 mj1 (fun j2 =>
 m R (o_call (fv 5) []) w1 fun x5 w2 =>
 m R (o_un .not x5) w2 fun x6 w3 =>
 mguard x6 false (fun k => m R (o_load 25 x2) w3 k) w3 fun x8 w4 =>
 mguard x6 false (fun k => m R (o_call (fv 6) [x8]) w4 k) w4 fun x9 w5 =>
 mguard x6 false (fun k => m R (o_un .not x9) w5 k) w5 fun x10 w6 =>
 m R (o_pick x6 (.bool true) x10) w6 fun x11 w7 =>
 mguard x11 false (fun k => m R (o_move x1) w7 k) w7 fun x13 w8 =>
 mguard x11 false (fun k => m R (o_builtin .len #[26] 3 [false] [x13]) w8 k) w8 fun x14 w9 =>
 mguard x11 false (fun k => m R (o_bin .gtr 3 true x14 (.int .i64 80)) w9 k) w9 fun x15 w10 =>
 m R (o_pick x11 (.bool true) x15) w10 fun x16 w11 =>
 j2 x16 w11) fun x16 u2 w12 =>
 mif x16 (
 m R (o_call (fv 5) []) w12 fun x17 w13 =>
 R (.returned x17) w13) (
 dq Tryz.prog w12 (o_load 25 x2) fun x18 =>
 df Tryz.prog w12 (o_call (fv 8) [x18, x1]) true fun x20 w14 =>
 dq Tryz.prog w12 (o_load 25 x2) fun x21 =>
 df Tryz.prog w14 (o_call (fv 9) [x21, x1]) false fun x23 w15 =>
 df Tryz.prog w15 (o_call (fv 7) [x20, x23]) false fun x24 w16 =>
 dend w16 fun w17 =>
 R (.returned x24) w17)
def A_bevylaw09_ClimbKeeps : Ann := ⟨[], [(2, [16], 131040)], [(3, [⟨0, .q (some 0), 4, 0, 262144⟩, ⟨1, .q none, 2, 0, 524288⟩, ⟨2, .f 0 true, 786432, 3, 1048576⟩, ⟨3, .q (some 0), 4, 0, 2097152⟩, ⟨4, .q none, 2, 0, 4194304⟩, ⟨5, .f 1 false, 6291456, 31, 8388608⟩, ⟨6, .f 2 false, 9437184, 63, 16777216⟩, ⟨7, .q none, 16777216, 127, 16⟩])], [], []⟩
theorem C_bevylaw09_ClimbKeeps {x0 x1 : Value} {w : World} {R : Ending → World → Prop} (h : F_bevylaw09_ClimbKeeps x0 x1 w R) : Calls Tryz.prog 3 #[x0, x1] w R :=
 calls_cwp (A := A_bevylaw09_ClimbKeeps) (args := [x0, x1]) mixed Tryz.func3 (c := Tryz.f3.body.getD .skip) (by kernel_rfl) (by kernel_rfl) (by kernel_rfl) (Eq.mpr (by kernel_rfl) h)
def F_bevylaw09_awake (w : World) (R : Ending → World → Prop) : Prop :=
 m R (o_build 34 [(0, (.int .u8 7))]) w fun x6 w1 =>
 m R (o_alloc 34) w1 fun x1 w2 =>
 m R (o_store 34 x1 x6) w2 fun _ w3 =>
 m R (o_build 40 [(0, (.int .i64 1))]) w3 fun x7 w4 =>
 m R (o_load 34 x1) w4 fun x8 w5 =>
 m R (o_call (fv 23) [x8]) w5 fun x9 w6 =>
 m R (o_build 40 [(0, (.int .i64 2)), (1, x9)]) w6 fun x10 w7 =>
 m R (o_buildSlice 22 2 [(0, x7), (1, x10)]) w7 fun x11 w8 =>
 m R (o_build 69 []) w8 fun x12 w9 =>
 m R (o_buildSlice 23 1 [(0, x12)]) w9 fun x13 w10 =>
 m R (o_build 25 [(0, x11), (1, x13)]) w10 fun x14 w11 =>
 m R (o_alloc 25) w11 fun x2 w12 =>
 m R (o_store 25 x2 x14) w12 fun _ w13 =>
 m R (o_load 25 x2) w13 fun x16 w14 =>
 m R (o_build 34 [(0, (.int .u8 9))]) w14 fun x17 w15 =>
 m R (o_call (fv 16) [(.pointer none), x16, (.int .i64 0), x17, (.string (ByteArray.mk #[])), (.slice none 0 0)]) w15 fun x18 w16 =>
 m R (o_extract x18 0) w16 fun x19 w17 =>
 m R (o_extract x18 1) w17 fun x20 w18 =>
 m R (o_alloc 56) w18 fun x3 w19 =>
 m R (o_store 56 x3 x19) w19 fun _ w20 =>
 mj1 (fun j5 =>
 m R (o_bin .neq 35 true x20 (.int .i64 0)) w20 fun x22 w21 =>
 mguard x22 false (fun k => m R (o_fieldAddr 56 x3 1) w21 k) w21 fun x24 w22 =>
 mguard x22 false (fun k => m R (o_load 53 x24) w22 k) w22 fun x25 w23 =>
 mguard x22 false (fun k => m R (o_builtin .len #[53] 3 [false] [x25]) w23 k) w23 fun x26 w24 =>
 mguard x22 false (fun k => m R (o_bin .neq 3 true x26 (.int .i64 1)) w24 k) w24 fun x27 w25 =>
 m R (o_pick x22 (.bool true) x27) w25 fun x28 w26 =>
 mguard x28 false (fun k => m R (o_fieldAddr 56 x3 1) w26 k) w26 fun x30 w27 =>
 mguard x28 false (fun k => m R (o_load 53 x30) w27 k) w27 fun x31 w28 =>
 mguard x28 false (fun k => m R (o_indexAddr 53 x31 (.int .i64 0)) w28 k) w28 fun x32 w29 =>
 mguard x28 false (fun k => m R (o_fieldAddr 72 x32 1) w29 k) w29 fun x33 w30 =>
 mguard x28 false (fun k => m R (o_load 70 x33) w30 k) w30 fun x34 w31 =>
 mguard x28 false (fun k => m R (o_builtin .len #[70] 3 [false] [x34]) w31 k) w31 fun x35 w32 =>
 mguard x28 false (fun k => m R (o_bin .neq 3 true x35 (.int .i64 1)) w32 k) w32 fun x36 w33 =>
 m R (o_pick x28 (.bool true) x36) w33 fun x37 w34 =>
 j5 x37 w34) fun x37 u5 w35 =>
 mif x37 (
 R (.returned (.bool false)) w35) (
 mj2 (fun j7 =>
 ((
 dq Tryz.prog w35 (o_load 25 x2) fun x39 =>
 dp Tryz.prog (o_fieldAddr 56 x3 0) fun x40 =>
 dp Tryz.prog (o_fieldAddr 25 x40 0) fun x41 =>
 dq Tryz.prog w35 (o_load 22 x41) fun x42 =>
 dp Tryz.prog (o_indexAddr 22 x42 (.int .i64 0)) fun x43 =>
 dp Tryz.prog (o_fieldAddr 40 x43 1) fun x44 =>
 dq Tryz.prog w35 (o_load 34 x44) fun x45 =>
 dp Tryz.prog (o_fieldAddr 56 x3 1) fun x46 =>
 dq Tryz.prog w35 (o_load 53 x46) fun x47 =>
 dq Tryz.prog w35 (o_load 34 x1) fun x48 =>
 dp Tryz.prog (o_build 43 [(0, (.int .i64 2)), (1, x48)]) fun x49 =>
 df Tryz.prog w35 (o_buildSlice 26 1 [(0, x49)]) true fun x50 w36 =>
 df Tryz.prog w36 (o_call (fv 20) [(.pointer none), x39, (.int .i64 0), x45, x47, (.string (ByteArray.mk #[])), (.slice none 0 0), (.int .i64 1), x50]) false fun x51 w37 =>
 dp Tryz.prog (o_extract x51 0) fun x52 =>
 dp Tryz.prog (o_extract x51 1) fun x53 =>
 df Tryz.prog w37 (o_alloc 56) true fun x5 w38 =>
 df Tryz.prog w38 (o_store 56 x5 x52) false fun _ w39 =>
 dend w39 fun w40 =>
 j7 x53 x5 w40) ∧ (
 dq Tryz.prog w35 (o_load 25 x2) fun x39 =>
 dp Tryz.prog (o_fieldAddr 56 x3 0) fun x40 =>
 dp Tryz.prog (o_fieldAddr 25 x40 0) fun x41 =>
 dq Tryz.prog w35 (o_load 22 x41) fun x42 =>
 dp Tryz.prog (o_indexAddr 22 x42 (.int .i64 0)) fun x43 =>
 dp Tryz.prog (o_fieldAddr 40 x43 1) fun x44 =>
 dq Tryz.prog w35 (o_load 34 x44) fun x45 =>
 dp Tryz.prog (o_fieldAddr 56 x3 1) fun x46 =>
 dq Tryz.prog w35 (o_load 53 x46) fun x47 =>
 dq Tryz.prog w35 (o_load 34 x1) fun x48 =>
 dp Tryz.prog (o_build 43 [(0, (.int .i64 2)), (1, x48)]) fun x49 =>
 df Tryz.prog w35 (o_buildSlice 26 1 [(0, x49)]) true fun x50 w41 =>
 df Tryz.prog w41 (o_alloc 56) true fun x5 w42 =>
 df Tryz.prog w42 (o_call (fv 20) [(.pointer none), x39, (.int .i64 0), x45, x47, (.string (ByteArray.mk #[])), (.slice none 0 0), (.int .i64 1), x50]) false fun x51 w43 =>
 dp Tryz.prog (o_extract x51 0) fun x52 =>
 dp Tryz.prog (o_extract x51 1) fun x53 =>
 df Tryz.prog w43 (o_store 56 x5 x52) false fun _ w44 =>
 dend w44 fun w45 =>
 j7 x53 x5 w45) ∧ (
 dq Tryz.prog w35 (o_load 25 x2) fun x39 =>
 dp Tryz.prog (o_fieldAddr 56 x3 0) fun x40 =>
 dp Tryz.prog (o_fieldAddr 25 x40 0) fun x41 =>
 dq Tryz.prog w35 (o_load 22 x41) fun x42 =>
 dp Tryz.prog (o_indexAddr 22 x42 (.int .i64 0)) fun x43 =>
 dp Tryz.prog (o_fieldAddr 40 x43 1) fun x44 =>
 dq Tryz.prog w35 (o_load 34 x44) fun x45 =>
 dp Tryz.prog (o_fieldAddr 56 x3 1) fun x46 =>
 dq Tryz.prog w35 (o_load 53 x46) fun x47 =>
 dq Tryz.prog w35 (o_load 34 x1) fun x48 =>
 dp Tryz.prog (o_build 43 [(0, (.int .i64 2)), (1, x48)]) fun x49 =>
 df Tryz.prog w35 (o_alloc 56) true fun x5 w46 =>
 df Tryz.prog w46 (o_buildSlice 26 1 [(0, x49)]) true fun x50 w47 =>
 df Tryz.prog w47 (o_call (fv 20) [(.pointer none), x39, (.int .i64 0), x45, x47, (.string (ByteArray.mk #[])), (.slice none 0 0), (.int .i64 1), x50]) false fun x51 w48 =>
 dp Tryz.prog (o_extract x51 0) fun x52 =>
 dp Tryz.prog (o_extract x51 1) fun x53 =>
 df Tryz.prog w48 (o_store 56 x5 x52) false fun _ w49 =>
 dend w49 fun w50 =>
 j7 x53 x5 w50))) fun x4 x5 u7 w51 =>
 m R (o_bin .eql 35 true x4 (.int .i64 0)) w51 fun x55 w52 =>
 mguard x55 true (fun k => m R (o_fieldAddr 56 x5 4) w52 k) w52 fun x57 w53 =>
 mguard x55 true (fun k => m R (o_load 34 x57) w53 k) w53 fun x58 w54 =>
 mguard x55 true (fun k => m R (o_fieldAddr 56 x3 4) w54 k) w54 fun x59 w55 =>
 mguard x55 true (fun k => m R (o_load 34 x59) w55 k) w55 fun x60 w56 =>
 mguard x55 true (fun k => m R (o_bin .eql 34 false x58 x60) w56 k) w56 fun x61 w57 =>
 m R (o_pick x55 x61 (.bool false)) w57 fun x62 w58 =>
 mguard x62 true (fun k => m R (o_fieldAddr 56 x5 0) w58 k) w58 fun x64 w59 =>
 mguard x62 true (fun k => m R (o_load 25 x64) w59 k) w59 fun x65 w60 =>
 mguard x62 true (fun k => m R (o_fieldAddr 56 x3 0) w60 k) w60 fun x66 w61 =>
 mguard x62 true (fun k => m R (o_load 25 x66) w61 k) w61 fun x67 w62 =>
 mguard x62 true (fun k => m R (o_call (fv 21) [x65, x67]) w62 k) w62 fun x68 w63 =>
 m R (o_pick x62 x68 (.bool false)) w63 fun x69 w64 =>
 R (.returned x69) w64)
def A_bevylaw09_awake : Ann := ⟨[], [(5, [37], 274875809792), (7, [4, 5], 18014123631575088)], [], [(6, [⟨[0, 1, 2, 3, 4, 5, 6, 7, 8, 9, 10, 11, 12, 13, 14, 15, 16, 17, 18], [⟨0, .q (some 0), 4, 0, 549755813888⟩, ⟨1, .q none, 8, 0, 1099511627776⟩, ⟨2, .q none, 1099511627776, 2, 2199023255552⟩, ⟨3, .q (some 0), 2199023255552, 6, 4398046511104⟩, ⟨4, .q none, 4398046511104, 14, 8796093022208⟩, ⟨5, .q none, 8796093022208, 30, 17592186044416⟩, ⟨6, .q (some 0), 17592186044416, 62, 35184372088832⟩, ⟨7, .q none, 8, 0, 70368744177664⟩, ⟨8, .q (some 0), 70368744177664, 128, 140737488355328⟩, ⟨9, .q (some 0), 2, 0, 281474976710656⟩, ⟨10, .q none, 281474976710656, 512, 562949953421312⟩, ⟨11, .f 0 true, 562949953421312, 1536, 1125899906842624⟩, ⟨12, .f 1 false, 1302371523100672, 4095, 2251799813685248⟩, ⟨13, .q none, 2251799813685248, 8191, 274877906944⟩, ⟨14, .q none, 274877906944, 16383, 4503599627370496⟩, ⟨15, .q none, 274877906944, 16383, 9007199254740992⟩, ⟨16, .f 2 true, 0, 0, 32⟩, ⟨17, .f 3 false, 4503599627370528, 98303, 0⟩, ⟨18, .q none, 9007199254740992, 262143, 16⟩]⟩, ⟨[0, 1, 2, 3, 4, 5, 6, 7, 8, 9, 10, 11, 16, 12, 13, 14, 15, 17, 18], [⟨0, .q (some 0), 4, 0, 549755813888⟩, ⟨1, .q none, 8, 0, 1099511627776⟩, ⟨2, .q none, 1099511627776, 2, 2199023255552⟩, ⟨3, .q (some 0), 2199023255552, 6, 4398046511104⟩, ⟨4, .q none, 4398046511104, 14, 8796093022208⟩, ⟨5, .q none, 8796093022208, 30, 17592186044416⟩, ⟨6, .q (some 0), 17592186044416, 62, 35184372088832⟩, ⟨7, .q none, 8, 0, 70368744177664⟩, ⟨8, .q (some 0), 70368744177664, 128, 140737488355328⟩, ⟨9, .q (some 0), 2, 0, 281474976710656⟩, ⟨10, .q none, 281474976710656, 512, 562949953421312⟩, ⟨11, .f 0 true, 562949953421312, 1536, 1125899906842624⟩, ⟨12, .f 2 false, 1302371523100672, 4095, 2251799813685248⟩, ⟨13, .q none, 2251799813685248, 8191, 274877906944⟩, ⟨14, .q none, 274877906944, 16383, 4503599627370496⟩, ⟨15, .q none, 274877906944, 16383, 9007199254740992⟩, ⟨16, .f 1 true, 0, 0, 32⟩, ⟨17, .f 3 false, 4503599627370528, 98303, 0⟩, ⟨18, .q none, 9007199254740992, 262143, 16⟩]⟩, ⟨[0, 1, 2, 3, 4, 5, 6, 7, 8, 9, 10, 16, 11, 12, 13, 14, 15, 17, 18], [⟨0, .q (some 0), 4, 0, 549755813888⟩, ⟨1, .q none, 8, 0, 1099511627776⟩, ⟨2, .q none, 1099511627776, 2, 2199023255552⟩, ⟨3, .q (some 0), 2199023255552, 6, 4398046511104⟩, ⟨4, .q none, 4398046511104, 14, 8796093022208⟩, ⟨5, .q none, 8796093022208, 30, 17592186044416⟩, ⟨6, .q (some 0), 17592186044416, 62, 35184372088832⟩, ⟨7, .q none, 8, 0, 70368744177664⟩, ⟨8, .q (some 0), 70368744177664, 128, 140737488355328⟩, ⟨9, .q (some 0), 2, 0, 281474976710656⟩, ⟨10, .q none, 281474976710656, 512, 562949953421312⟩, ⟨11, .f 1 true, 562949953421312, 1536, 1125899906842624⟩, ⟨12, .f 2 false, 1302371523100672, 4095, 2251799813685248⟩, ⟨13, .q none, 2251799813685248, 8191, 274877906944⟩, ⟨14, .q none, 274877906944, 16383, 4503599627370496⟩, ⟨15, .q none, 274877906944, 16383, 9007199254740992⟩, ⟨16, .f 0 true, 0, 0, 32⟩, ⟨17, .f 3 false, 4503599627370528, 98303, 0⟩, ⟨18, .q none, 9007199254740992, 262143, 16⟩]⟩])], []⟩
theorem C_bevylaw09_awake {w : World} {R : Ending → World → Prop} (h : F_bevylaw09_awake w R) : Calls Tryz.prog 5 #[] w R :=
 calls_cwp (A := A_bevylaw09_awake) (args := []) mixed Tryz.func5 (c := Tryz.f5.body.getD .skip) (by kernel_rfl) (by kernel_rfl) (by kernel_rfl) (Eq.mpr (by kernel_rfl) h)
def F_bevylaw09_few (x0 : Value) (w : World) (R : Ending → World → Prop) : Prop :=
 m R (o_box 25 x0) w fun x1 w1 =>
 mj1 (fun j2 =>
 m R (o_fieldAddr 25 x1 0) w1 fun x4 w2 =>
 m R (o_load 22 x4) w2 fun x5 w3 =>
 m R (o_builtin .len #[22] 3 [false] [x5]) w3 fun x6 w4 =>
 m R (o_bin .gtr 3 true x6 (.int .i64 80)) w4 fun x7 w5 =>
 mguard x7 false (fun k => m R (o_fieldAddr 25 x1 1) w5 k) w5 fun x9 w6 =>
 mguard x7 false (fun k => m R (o_load 23 x9) w6 k) w6 fun x10 w7 =>
 mguard x7 false (fun k => m R (o_builtin .len #[23] 3 [false] [x10]) w7 k) w7 fun x11 w8 =>
 mguard x7 false (fun k => m R (o_bin .gtr 3 true x11 (.int .i64 80)) w8 k) w8 fun x12 w9 =>
 m R (o_pick x7 (.bool true) x12) w9 fun x13 w10 =>
 j2 x13 w10) fun x13 u2 w11 =>
 mif x13 (
 R (.returned (.bool false)) w11) (
 ml1 (.int .i64 0) w11 fun x3 u4 w12 next4 =>
 m R (o_fieldAddr 25 x1 1) w12 fun x15 w13 =>
 m R (o_load 23 x15) w13 fun x16 w14 =>
 m R (o_builtin .len #[23] 3 [false] [x16]) w14 fun x17 w15 =>
 m R (o_bin .lss 3 false x3 x17) w15 fun x18 w16 =>
 mif x18 (
 m R (o_fieldAddr 25 x1 1) w16 fun x21 w17 =>
 m R (o_load 23 x21) w17 fun x22 w18 =>
 m R (o_indexAddr 23 x22 x3) w18 fun x24 w19 =>
 m R (o_fieldAddr 69 x24 3) w19 fun x25 w20 =>
 m R (o_load 47 x25) w20 fun x26 w21 =>
 m R (o_builtin .len #[47] 3 [false] [x26]) w21 fun x27 w22 =>
 m R (o_bin .gtr 3 true x27 (.int .i64 80)) w22 fun x28 w23 =>
 mif x28 (
 R (.returned (.bool false)) w23) (
 m R (o_bin .add 3 true x3 (.int .i64 1)) w23 fun x20 w24 =>
 next4 x20 w24)) (
 R (.returned (.bool true)) w16))
def A_bevylaw09_few : Ann := ⟨[(4, [3], 536854540)], [(2, [13], 16368)], [], [], []⟩
theorem C_bevylaw09_few {x0 : Value} {w : World} {R : Ending → World → Prop} (h : F_bevylaw09_few x0 w R) : Calls Tryz.prog 6 #[x0] w R :=
 calls_cwp (A := A_bevylaw09_few) (args := [x0]) mixed Tryz.func6 (c := Tryz.f6.body.getD .skip) (by kernel_rfl) (by kernel_rfl) (by kernel_rfl) (Eq.mpr (by kernel_rfl) h)
def F_bevyref09_SameKeys (x0 x1 : Value) (w : World) (R : Ending → World → Prop) : Prop :=
 m R (o_builtin .len #[26] 3 [false] [x0]) w fun x7 w1 =>
 m R (o_builtin .len #[26] 3 [false] [x1]) w1 fun x9 w2 =>
 m R (o_bin .neq 3 false x7 x9) w2 fun x10 w3 =>
 mif x10 (
 R (.returned (.bool false)) w3) (
 ml1 (.int .i64 0) w3 fun x5 u4 w4 next4 =>
 m R (o_builtin .len #[26] 3 [false] [x0]) w4 fun x13 w5 =>
 m R (o_bin .lss 3 false x5 x13) w5 fun x14 w6 =>
 mif x14 (
 dp Tryz.prog (o_indexAddr 26 x0 x5) fun x19 =>
 dq Tryz.prog w6 (o_load 43 x19) fun x20 =>
 dp Tryz.prog (o_indexAddr 26 x1 x5) fun x23 =>
 dq Tryz.prog w6 (o_load 43 x23) fun x24 =>
 dp Tryz.prog (o_bin .neq 43 false x20 x24) fun x25 =>
 dend w6 fun w7 =>
 mif x25 (
 R (.returned (.bool false)) w7) (
 m R (o_bin .add 3 true x5 (.int .i64 1)) w7 fun x16 w8 =>
 next4 x16 w8)) (
 R (.returned (.bool true)) w6))
def A_bevyref09_SameKeys : Ann := ⟨[(4, [5], 67106864)], [], [(6, [⟨0, .q none, 1, 0, 131072⟩, ⟨1, .q none, 32, 0, 262144⟩, ⟨2, .q none, 393216, 3, 524288⟩, ⟨3, .q (some 0), 524288, 7, 1048576⟩, ⟨4, .q none, 2, 0, 2097152⟩, ⟨5, .q none, 32, 0, 4194304⟩, ⟨6, .q none, 6291456, 48, 8388608⟩, ⟨7, .q (some 0), 8388608, 112, 16777216⟩, ⟨8, .q none, 17825792, 255, 33554432⟩])], [], []⟩
theorem C_bevyref09_SameKeys {x0 x1 : Value} {w : World} {R : Ending → World → Prop} (h : F_bevyref09_SameKeys x0 x1 w R) : Calls Tryz.prog 7 #[x0, x1] w R :=
 calls_cwp (A := A_bevyref09_SameKeys) (args := [x0, x1]) mixed Tryz.func7 (c := Tryz.f7.body.getD .skip) (by kernel_rfl) (by kernel_rfl) (by kernel_rfl) (Eq.mpr (by kernel_rfl) h)
def F_climb_Keep (x0 x1 : Value) (w : World) (R : Ending → World → Prop) : Prop :=
 m R (o_box 25 x0) w fun x2 w1 =>
 m R (o_load 25 x2) w1 fun x10 w2 =>
 m R (o_call (fv 24) [x10]) w2 fun x11 w3 =>
 m R (o_un .not x11) w3 fun x12 w4 =>
 mif x12 (
 R (.returned (.slice none 0 0)) w4) (
 m R (o_builtin .len #[26] 3 [false] [x1]) w4 fun x14 w5 =>
 ml2 (.slice none 0 0) (.int .i64 0) w5 fun x5 x15 u5 w6 next5 =>
 m R (o_bin .lss 3 false x15 x14) w6 fun x16 w7 =>
 mif x16 (
 mj1 (fun j11 =>
 m R (o_indexAddr 26 x1 x15) w7 fun x17 w8 =>
 m R (o_load 43 x17) w8 fun x18 w9 =>
 m R (o_alloc 43) w9 fun x7 w10 =>
 m R (o_store 43 x7 x18) w10 fun _ w11 =>
 mj0 (fun j8 =>
 m R (o_fieldAddr 43 x7 0) w11 fun x19 w12 =>
 m R (o_load 3 x19) w12 fun x20 w13 =>
 m R (o_bin .lss 3 true x20 (.int .i64 0)) w13 fun x21 w14 =>
 mguard x21 false (fun k => m R (o_fieldAddr 43 x7 0) w14 k) w14 fun x23 w15 =>
 mguard x21 false (fun k => m R (o_load 3 x23) w15 k) w15 fun x24 w16 =>
 mguard x21 false (fun k => m R (o_fieldAddr 25 x2 0) w16 k) w16 fun x25 w17 =>
 mguard x21 false (fun k => m R (o_load 22 x25) w17 k) w17 fun x26 w18 =>
 mguard x21 false (fun k => m R (o_builtin .len #[22] 3 [false] [x26]) w18 k) w18 fun x27 w19 =>
 mguard x21 false (fun k => m R (o_bin .mul 3 true (.int .i64 2) x27) w19 k) w19 fun x28 w20 =>
 mguard x21 false (fun k => m R (o_bin .sub 3 true x28 (.int .i64 2)) w20 k) w20 fun x29 w21 =>
 mguard x21 false (fun k => m R (o_bin .gtr 3 false x24 x29) w21 k) w21 fun x30 w22 =>
 m R (o_pick x21 (.bool true) x30) w22 fun x31 w23 =>
 mif x31 (
 j11 x5 w23) (
 j8 w23)) fun u8 w24 =>
 m R (o_load 25 x2) w24 fun x33 w25 =>
 m R (o_fieldAddr 43 x7 0) w25 fun x34 w26 =>
 m R (o_load 3 x34) w26 fun x35 w27 =>
 m R (o_call (fv 25) [x33, x35]) w27 fun x36 w28 =>
 m R (o_extract x36 0) w28 fun x37 w29 =>
 m R (o_extract x36 1) w29 fun x38 w30 =>
 m R (o_alloc 34) w30 fun x8 w31 =>
 m R (o_store 34 x8 x37) w31 fun _ w32 =>
 mj1 (fun j10 =>
 qguard x38 true (fun k => dp Tryz.prog (o_fieldAddr 43 x7 1) k) fun x41 =>
 qguard x38 true (fun k => dq Tryz.prog w32 (o_load 34 x41) k) fun x42 =>
 mguard x38 true (fun k => df Tryz.prog w32 (o_call (fv 11) [(.pointer none), x42]) true k) w32 fun x43 w33 =>
 qguard x38 true (fun k => dq Tryz.prog w32 (o_load 34 x8) k) fun x44 =>
 qguard x38 true (fun k => dp Tryz.prog (o_bin .eql 34 false x43 x44) k) fun x45 =>
 dp Tryz.prog (o_pick x38 x45 (.bool false)) fun x46 =>
 dend w33 fun w34 =>
 j10 x46 w34) fun x46 u10 w35 =>
 mif x46 (
 m R (o_load 43 x7) w35 fun x48 w36 =>
 m R (o_buildSlice 26 1 [(0, x48)]) w36 fun x49 w37 =>
 m R (o_builtin .append #[26, 26] 26 [false, false] [x5, x49]) w37 fun x50 w38 =>
 j11 x50 w38) (
 j11 x5 w35)) fun x5 u11 w39 =>
 m R (o_bin .add 3 true x15 (.int .i64 1)) w39 fun x51 w40 =>
 next5 x5 x51 w40) (
 m R (o_call (fv 26) [x5]) w7 fun x53 w41 =>
 R (.returned x53) w41))
def A_climb_Keep : Ann := ⟨[(5, [5, 15], 4503599627338656)], [(11, [5], 2251799813555104), (8, [], 4294443008), (10, [46], 140187732541440)], [(9, [⟨0, .q none, 512, 0, 549755813888⟩, ⟨1, .q none, 549755813888, 1, 1099511627776⟩, ⟨2, .q none, 1099511627904, 3, 2199023255552⟩, ⟨3, .q (some 0), 3298534883328, 7, 4398046511104⟩, ⟨4, .f 0 true, 5497558138880, 15, 8796093022208⟩, ⟨5, .q (some 0), 1099511628032, 3, 17592186044416⟩, ⟨6, .q none, 27487790694400, 63, 35184372088832⟩, ⟨7, .q none, 36283883716608, 127, 70368744177664⟩])], [], []⟩
theorem C_climb_Keep {x0 x1 : Value} {w : World} {R : Ending → World → Prop} (h : F_climb_Keep x0 x1 w R) : Calls Tryz.prog 8 #[x0, x1] w R :=
 calls_cwp (A := A_climb_Keep) (args := [x0, x1]) mixed Tryz.func8 (c := Tryz.f8.body.getD .skip) (by kernel_rfl) (by kernel_rfl) (by kernel_rfl) (Eq.mpr (by kernel_rfl) h)
def F_bevyref09_Keep (x0 x1 : Value) (w : World) (R : Ending → World → Prop) : Prop :=
 m R (o_box 25 x0) w fun x2 w1 =>
 m R (o_load 25 x2) w1 fun x9 w2 =>
 m R (o_call (fv 27) [x9]) w2 fun x10 w3 =>
 m R (o_un .not x10) w3 fun x11 w4 =>
 mif x11 (
 R (.returned (.slice none 0 0)) w4) (
 ml2 (.slice none 0 0) (.int .i64 0) w4 fun x5 x6 u5 w5 next5 =>
 m R (o_builtin .len #[26] 3 [false] [x1]) w5 fun x15 w6 =>
 m R (o_bin .lss 3 false x6 x15) w6 fun x16 w7 =>
 mif x16 (
 mj1 (fun j6 =>
 mj0 (fun j8 =>
 dp Tryz.prog (o_indexAddr 26 x1 x6) fun x21 =>
 dp Tryz.prog (o_fieldAddr 43 x21 0) fun x22 =>
 dq Tryz.prog w7 (o_load 3 x22) fun x23 =>
 dp Tryz.prog (o_bin .lss 3 true x23 (.int .i64 0)) fun x24 =>
 qguard x24 false (fun k => dp Tryz.prog (o_move x1) k) fun x26 =>
 qguard x24 false (fun k => dp Tryz.prog (o_move x6) k) fun x27 =>
 qguard x24 false (fun k => dp Tryz.prog (o_indexAddr 26 x26 x27) k) fun x28 =>
 qguard x24 false (fun k => dp Tryz.prog (o_fieldAddr 43 x28 0) k) fun x29 =>
 qguard x24 false (fun k => dq Tryz.prog w7 (o_load 3 x29) k) fun x30 =>
 qguard x24 false (fun k => dp Tryz.prog (o_fieldAddr 25 x2 0) k) fun x31 =>
 qguard x24 false (fun k => dq Tryz.prog w7 (o_load 22 x31) k) fun x32 =>
 qguard x24 false (fun k => dp Tryz.prog (o_builtin .len #[22] 3 [false] [x32]) k) fun x33 =>
 qguard x24 false (fun k => dp Tryz.prog (o_bin .mul 3 true (.int .i64 2) x33) k) fun x34 =>
 qguard x24 false (fun k => dp Tryz.prog (o_bin .sub 3 true x34 (.int .i64 2)) k) fun x35 =>
 qguard x24 false (fun k => dp Tryz.prog (o_bin .gtr 3 false x30 x35) k) fun x36 =>
 dp Tryz.prog (o_pick x24 (.bool true) x36) fun x37 =>
 dend w7 fun w8 =>
 mif x37 (
 j6 x5 w8) (
 j8 w8)) fun u8 w9 =>
 mj2 (fun j9 =>
 ((
 dq Tryz.prog w9 (o_load 25 x2) fun x39 =>
 dp Tryz.prog (o_indexAddr 26 x1 x6) fun x42 =>
 dp Tryz.prog (o_fieldAddr 43 x42 0) fun x43 =>
 dq Tryz.prog w9 (o_load 3 x43) fun x44 =>
 df Tryz.prog w9 (o_call (fv 28) [x39, x44]) false fun x45 w10 =>
 dp Tryz.prog (o_extract x45 0) fun x46 =>
 dp Tryz.prog (o_extract x45 1) fun x47 =>
 df Tryz.prog w10 (o_alloc 34) true fun x7 w11 =>
 df Tryz.prog w11 (o_store 34 x7 x46) false fun _ w12 =>
 dend w12 fun w13 =>
 j9 x7 x47 w13) ∧ (
 dq Tryz.prog w9 (o_load 25 x2) fun x39 =>
 dp Tryz.prog (o_indexAddr 26 x1 x6) fun x42 =>
 dp Tryz.prog (o_fieldAddr 43 x42 0) fun x43 =>
 dq Tryz.prog w9 (o_load 3 x43) fun x44 =>
 df Tryz.prog w9 (o_alloc 34) true fun x7 w14 =>
 df Tryz.prog w14 (o_call (fv 28) [x39, x44]) false fun x45 w15 =>
 dp Tryz.prog (o_extract x45 0) fun x46 =>
 dp Tryz.prog (o_extract x45 1) fun x47 =>
 df Tryz.prog w15 (o_store 34 x7 x46) false fun _ w16 =>
 dend w16 fun w17 =>
 j9 x7 x47 w17))) fun x7 x8 u9 w18 =>
 mj1 (fun j10 =>
 qguard x8 true (fun k => dq Tryz.prog w18 (o_load 34 x7) k) fun x50 =>
 qguard x8 true (fun k => dp Tryz.prog (o_move x1) k) fun x51 =>
 qguard x8 true (fun k => dp Tryz.prog (o_move x6) k) fun x52 =>
 qguard x8 true (fun k => dp Tryz.prog (o_indexAddr 26 x51 x52) k) fun x53 =>
 qguard x8 true (fun k => dp Tryz.prog (o_fieldAddr 43 x53 1) k) fun x54 =>
 qguard x8 true (fun k => dq Tryz.prog w18 (o_load 34 x54) k) fun x55 =>
 mguard x8 true (fun k => df Tryz.prog w18 (o_call (fv 23) [x55]) true k) w18 fun x56 w19 =>
 qguard x8 true (fun k => dp Tryz.prog (o_bin .eql 34 false x50 x56) k) fun x57 =>
 dp Tryz.prog (o_pick x8 x57 (.bool false)) fun x58 =>
 dend w19 fun w20 =>
 j10 x58 w20) fun x58 u10 w21 =>
 mif x58 (
 m R (o_indexAddr 26 x1 x6) w21 fun x62 w22 =>
 m R (o_load 43 x62) w22 fun x63 w23 =>
 m R (o_buildSlice 26 1 [(0, x63)]) w23 fun x64 w24 =>
 m R (o_builtin .append #[26, 26] 26 [false, false] [x5, x64]) w24 fun x65 w25 =>
 j6 x65 w25) (
 j6 x5 w21)) fun x5 u6 w26 =>
 m R (o_bin .add 3 true x6 (.int .i64 1)) w26 fun x18 w27 =>
 next5 x5 x18 w27) (
 m R (o_call (fv 29) [x5]) w7 fun x67 w28 =>
 R (.returned x67) w28))
def A_bevyref09_Keep : Ann := ⟨[(5, [5, 6], 73786976294838198752)], [(6, [5], 73786976294837682592), (8, [], 274877382656), (9, [7, 8], 281200098804096), (10, [58], 576179277326712832)], [(7, [⟨0, .q none, 2, 0, 524288⟩, ⟨1, .q none, 64, 0, 1048576⟩, ⟨2, .q none, 1572864, 3, 2097152⟩, ⟨3, .q none, 2097152, 7, 4194304⟩, ⟨4, .q (some 0), 4194304, 15, 8388608⟩, ⟨5, .q none, 8388608, 31, 16777216⟩, ⟨6, .q none, 16777216, 63, 33554432⟩, ⟨7, .q none, 33554434, 127, 67108864⟩, ⟨8, .q none, 33554496, 127, 134217728⟩, ⟨9, .q none, 234881024, 511, 268435456⟩, ⟨10, .q none, 301989888, 1023, 536870912⟩, ⟨11, .q (some 0), 570425344, 2047, 1073741824⟩, ⟨12, .q none, 33554436, 127, 2147483648⟩, ⟨13, .q (some 0), 2181038080, 4223, 4294967296⟩, ⟨14, .q none, 4328521728, 12415, 8589934592⟩, ⟨15, .q none, 8623489024, 28799, 17179869184⟩, ⟨16, .q none, 17213423616, 61567, 34359738368⟩, ⟨17, .q none, 35467034624, 131071, 68719476736⟩, ⟨18, .q none, 68753031168, 262143, 137438953472⟩]), (9, [⟨0, .q none, 256, 0, 281474976710656⟩, ⟨1, .q none, 281474976710656, 1, 562949953421312⟩, ⟨2, .q (some 0), 562949953421440, 3, 1125899906842624⟩, ⟨3, .q none, 562949953421314, 3, 2251799813685248⟩, ⟨4, .q none, 562949953421376, 3, 4503599627370496⟩, ⟨5, .q none, 7318349394477056, 27, 9007199254740992⟩, ⟨6, .q none, 9570149208162304, 59, 18014398509481984⟩, ⟨7, .q (some 0), 18577348462903296, 123, 36028797018963968⟩, ⟨8, .f 0 true, 36591746972385280, 251, 72057594037927936⟩, ⟨9, .q none, 73746443898191872, 511, 144115188075855872⟩, ⟨10, .q none, 144678138029277184, 1023, 288230376151711744⟩])], [(8, [⟨[0, 1, 2, 3, 4, 5, 6, 7, 8, 9, 10, 11, 12], [⟨0, .q (some 0), 4, 0, 549755813888⟩, ⟨1, .q none, 2, 0, 1099511627776⟩, ⟨2, .q none, 64, 0, 2199023255552⟩, ⟨3, .q none, 3298534883328, 6, 4398046511104⟩, ⟨4, .q none, 4398046511104, 14, 8796093022208⟩, ⟨5, .q (some 0), 8796093022208, 30, 17592186044416⟩, ⟨6, .f 0 false, 18141941858304, 63, 35184372088832⟩, ⟨7, .q none, 35184372088832, 127, 274877906944⟩, ⟨8, .q none, 274877906944, 255, 70368744177664⟩, ⟨9, .q none, 274877906944, 255, 140737488355328⟩, ⟨10, .f 1 true, 0, 0, 128⟩, ⟨11, .f 2 false, 70368744177792, 1535, 0⟩, ⟨12, .q none, 140737488355328, 4095, 256⟩]⟩, ⟨[0, 1, 2, 3, 4, 5, 10, 6, 7, 8, 9, 11, 12], [⟨0, .q (some 0), 4, 0, 549755813888⟩, ⟨1, .q none, 2, 0, 1099511627776⟩, ⟨2, .q none, 64, 0, 2199023255552⟩, ⟨3, .q none, 3298534883328, 6, 4398046511104⟩, ⟨4, .q none, 4398046511104, 14, 8796093022208⟩, ⟨5, .q (some 0), 8796093022208, 30, 17592186044416⟩, ⟨6, .f 1 false, 18141941858304, 63, 35184372088832⟩, ⟨7, .q none, 35184372088832, 127, 274877906944⟩, ⟨8, .q none, 274877906944, 255, 70368744177664⟩, ⟨9, .q none, 274877906944, 255, 140737488355328⟩, ⟨10, .f 0 true, 0, 0, 128⟩, ⟨11, .f 2 false, 70368744177792, 1535, 0⟩, ⟨12, .q none, 140737488355328, 4095, 256⟩]⟩])], []⟩
theorem C_bevyref09_Keep {x0 x1 : Value} {w : World} {R : Ending → World → Prop} (h : F_bevyref09_Keep x0 x1 w R) : Calls Tryz.prog 9 #[x0, x1] w R :=
 calls_cwp (A := A_bevyref09_Keep) (args := [x0, x1]) mixed Tryz.func9 (c := Tryz.f9.body.getD .skip) (by kernel_rfl) (by kernel_rfl) (by kernel_rfl) (Eq.mpr (by kernel_rfl) h)
def F_prim_Pub (x0 x1 : Value) (w : World) (R : Ending → World → Prop) : Prop :=
 m R (o_box 34 x1) w fun x3 w1 =>
 m R (o_alloc 34) w1 fun x4 w2 =>
 m R (o_load 34 x3) w2 fun x6 w3 =>
 m R (o_call (fv 35) [x6]) w3 fun x7 w4 =>
 m R (o_alloc 34) w4 fun x5 w5 =>
 m R (o_store 34 x5 x7) w5 fun _ w6 =>
 mj0 (fun j3 =>
 ((
 dq Tryz.prog w6 (o_load 34 x3) fun x9 =>
 dq Tryz.prog w6 (o_load 34 x5) fun x11 =>
 df Tryz.prog w6 (o_buildSlice 54 1 [(0, x9)]) true fun x10 w7 =>
 df Tryz.prog w7 (o_call (fv 37) [x11]) true fun x12 w8 =>
 df Tryz.prog w8 (o_buildSlice 54 1 [(0, x12)]) true fun x13 w9 =>
 dp Tryz.prog (o_build 86 [(0, x10), (1, x13)]) fun x14 =>
 df Tryz.prog w9 (o_call (fv 36) [x0, x14]) false fun x15 w10 =>
 dend w10 fun w11 =>
 j3 w11) ∧ (
 dq Tryz.prog w6 (o_load 34 x3) fun x9 =>
 dq Tryz.prog w6 (o_load 34 x5) fun x11 =>
 df Tryz.prog w6 (o_call (fv 37) [x11]) true fun x12 w12 =>
 df Tryz.prog w12 (o_buildSlice 54 1 [(0, x9)]) true fun x10 w13 =>
 df Tryz.prog w13 (o_buildSlice 54 1 [(0, x12)]) true fun x13 w14 =>
 dp Tryz.prog (o_build 86 [(0, x10), (1, x13)]) fun x14 =>
 df Tryz.prog w14 (o_call (fv 36) [x0, x14]) false fun x15 w15 =>
 dend w15 fun w16 =>
 j3 w16) ∧ (
 dq Tryz.prog w6 (o_load 34 x3) fun x9 =>
 dq Tryz.prog w6 (o_load 34 x5) fun x11 =>
 df Tryz.prog w6 (o_call (fv 37) [x11]) true fun x12 w17 =>
 df Tryz.prog w17 (o_buildSlice 54 1 [(0, x12)]) true fun x13 w18 =>
 df Tryz.prog w18 (o_buildSlice 54 1 [(0, x9)]) true fun x10 w19 =>
 dp Tryz.prog (o_build 86 [(0, x10), (1, x13)]) fun x14 =>
 df Tryz.prog w19 (o_call (fv 36) [x0, x14]) false fun x15 w20 =>
 dend w20 fun w21 =>
 j3 w21))) fun u3 w22 =>
 m R (o_load 34 x5) w22 fun x16 w23 =>
 m R (o_store 34 x4 x16) w23 fun _ w24 =>
 rcell Tryz.prog 34 x4 w24 fun r4 =>
 R (.returned r4) w24
def A_prim_Pub : Ann := ⟨[], [(3, [], 65280)], [], [(2, [⟨[0, 1, 3, 2, 4, 5, 6, 7], [⟨0, .q none, 1, 0, 256⟩, ⟨1, .q (some 0), 8, 0, 512⟩, ⟨2, .f 0 true, 512, 2, 1024⟩, ⟨3, .q (some 0), 32, 0, 2048⟩, ⟨4, .f 1 true, 2048, 8, 4096⟩, ⟨5, .f 2 true, 4096, 24, 8192⟩, ⟨6, .q none, 9216, 62, 16384⟩, ⟨7, .f 3 false, 16640, 127, 32768⟩]⟩, ⟨[0, 1, 3, 4, 2, 5, 6, 7], [⟨0, .q none, 1, 0, 256⟩, ⟨1, .q (some 0), 8, 0, 512⟩, ⟨2, .f 1 true, 512, 2, 1024⟩, ⟨3, .q (some 0), 32, 0, 2048⟩, ⟨4, .f 0 true, 2048, 8, 4096⟩, ⟨5, .f 2 true, 4096, 24, 8192⟩, ⟨6, .q none, 9216, 62, 16384⟩, ⟨7, .f 3 false, 16640, 127, 32768⟩]⟩, ⟨[0, 1, 3, 4, 5, 2, 6, 7], [⟨0, .q none, 1, 0, 256⟩, ⟨1, .q (some 0), 8, 0, 512⟩, ⟨2, .f 2 true, 512, 2, 1024⟩, ⟨3, .q (some 0), 32, 0, 2048⟩, ⟨4, .f 0 true, 2048, 8, 4096⟩, ⟨5, .f 1 true, 4096, 24, 8192⟩, ⟨6, .q none, 9216, 62, 16384⟩, ⟨7, .f 3 false, 16640, 127, 32768⟩]⟩])], []⟩
theorem C_prim_Pub {x0 x1 : Value} {w : World} {R : Ending → World → Prop} (h : F_prim_Pub x0 x1 w R) : Calls Tryz.prog 11 #[x0, x1] w R :=
 calls_cwp (A := A_prim_Pub) (args := [x0, x1]) mixed Tryz.func11 (c := Tryz.f11.body.getD .skip) (by kernel_rfl) (by kernel_rfl) (by kernel_rfl) (Eq.mpr (by kernel_rfl) h)
def F_climb_Grow (x0 x1 x2 x3 x4 x5 : Value) (w : World) (R : Ending → World → Prop) : Prop :=
 m R (o_box 25 x1) w fun x7 w1 =>
 m R (o_box 34 x3) w1 fun x9 w2 =>
 m R (o_alloc 56) w2 fun x12 w3 =>
 m R (o_load 25 x7) w3 fun x31 w4 =>
 m R (o_call (fv 24) [x31]) w4 fun x32 w5 =>
 m R (o_un .not x32) w5 fun x33 w6 =>
 mif x33 (
 m R (o_build 56 []) w6 fun x34 w7 =>
 m R (o_store 56 x12 x34) w7 fun _ w8 =>
 rcell Tryz.prog 56 x12 w8 fun r12 =>
 R (.returned (.tuple #[r12, (.int .i64 1)])) w8) (
 m R (o_load 25 x7) w6 fun x36 w9 =>
 m R (o_call (fv 44) [x36, x2]) w9 fun x38 w10 =>
 mif x38 (
 m R (o_build 56 []) w10 fun x39 w11 =>
 m R (o_store 56 x12 x39) w11 fun _ w12 =>
 rcell Tryz.prog 56 x12 w12 fun r12 =>
 R (.returned (.tuple #[r12, (.int .i64 7)])) w12) (
 m R (o_builtin .len #[9] 3 [false] [x4]) w10 fun x42 w13 =>
 m R (o_bin .gtr 3 true x42 (.int .i64 65536)) w13 fun x43 w14 =>
 mif x43 (
 m R (o_build 56 []) w14 fun x44 w15 =>
 m R (o_store 56 x12 x44) w15 fun _ w16 =>
 rcell Tryz.prog 56 x12 w16 fun r12 =>
 R (.returned (.tuple #[r12, (.int .i64 5)])) w16) (
 m R (o_fieldAddr 25 x7 0) w14 fun x45 w17 =>
 m R (o_load 22 x45) w17 fun x46 w18 =>
 m R (o_builtin .len #[22] 3 [false] [x46]) w18 fun x47 w19 =>
 m R (o_call (fv 32) [x47, x2]) w19 fun x49 w20 =>
 mj3 (fun j9 =>
 ∃ S : Rl,
 ((
 dp Tryz.prog (o_bin .mul 3 true (.int .i64 2) x2) fun x53 =>
 dqS Tryz.prog S w20 (o_load 34 x9) fun x58 =>
 dfS Tryz.prog S w20 (o_buildSlice 47 1 [(0, x53)]) true fun x54 w21 =>
 dfS Tryz.prog S w21 (o_builtin .append #[47, 47] 47 [false, false] [x54, x49]) true fun x56 w22 =>
 dfS Tryz.prog S w22 (o_call (fv 46) [x0, x58, (.string (ByteArray.mk #[108, 101, 97, 102])), (.string (ByteArray.mk #[]))]) false fun x59 w23 =>
 dfS Tryz.prog S w23 (o_call (fv 45) [x0, x56, x59]) false fun x60 w24 =>
 dp Tryz.prog (o_extract x60 0) fun x61 =>
 dp Tryz.prog (o_extract x60 1) fun x62 =>
 dp Tryz.prog (o_extract x60 2) fun x63 =>
 dfS Tryz.prog S w24 (o_alloc 34) true fun x17 w25 =>
 dfS Tryz.prog S w25 (o_store 34 x17 x63) false fun _ w26 =>
 dend w26 fun w27 =>
 j9 x61 x62 x17 w27) ∧ (
 dp Tryz.prog (o_bin .mul 3 true (.int .i64 2) x2) fun x53 =>
 dqS Tryz.prog S w20 (o_load 34 x9) fun x58 =>
 dfS Tryz.prog S w20 (o_buildSlice 47 1 [(0, x53)]) true fun x54 w28 =>
 dfS Tryz.prog S w28 (o_builtin .append #[47, 47] 47 [false, false] [x54, x49]) true fun x56 w29 =>
 dfS Tryz.prog S w29 (o_call (fv 46) [x0, x58, (.string (ByteArray.mk #[108, 101, 97, 102])), (.string (ByteArray.mk #[]))]) false fun x59 w30 =>
 dfS Tryz.prog S w30 (o_alloc 34) true fun x17 w31 =>
 dfS Tryz.prog S w31 (o_call (fv 45) [x0, x56, x59]) false fun x60 w32 =>
 dp Tryz.prog (o_extract x60 0) fun x61 =>
 dp Tryz.prog (o_extract x60 1) fun x62 =>
 dp Tryz.prog (o_extract x60 2) fun x63 =>
 dfS Tryz.prog S w32 (o_store 34 x17 x63) false fun _ w33 =>
 dend w33 fun w34 =>
 j9 x61 x62 x17 w34) ∧ (
 dp Tryz.prog (o_bin .mul 3 true (.int .i64 2) x2) fun x53 =>
 dqS Tryz.prog S w20 (o_load 34 x9) fun x58 =>
 dfS Tryz.prog S w20 (o_buildSlice 47 1 [(0, x53)]) true fun x54 w35 =>
 dfS Tryz.prog S w35 (o_builtin .append #[47, 47] 47 [false, false] [x54, x49]) true fun x56 w36 =>
 dfS Tryz.prog S w36 (o_alloc 34) true fun x17 w37 =>
 dfS Tryz.prog S w37 (o_call (fv 46) [x0, x58, (.string (ByteArray.mk #[108, 101, 97, 102])), (.string (ByteArray.mk #[]))]) false fun x59 w38 =>
 dfS Tryz.prog S w38 (o_call (fv 45) [x0, x56, x59]) false fun x60 w39 =>
 dp Tryz.prog (o_extract x60 0) fun x61 =>
 dp Tryz.prog (o_extract x60 1) fun x62 =>
 dp Tryz.prog (o_extract x60 2) fun x63 =>
 dfS Tryz.prog S w39 (o_store 34 x17 x63) false fun _ w40 =>
 dend w40 fun w41 =>
 j9 x61 x62 x17 w41) ∧ (
 dp Tryz.prog (o_bin .mul 3 true (.int .i64 2) x2) fun x53 =>
 dqS Tryz.prog S w20 (o_load 34 x9) fun x58 =>
 dfS Tryz.prog S w20 (o_buildSlice 47 1 [(0, x53)]) true fun x54 w42 =>
 dfS Tryz.prog S w42 (o_alloc 34) true fun x17 w43 =>
 dfS Tryz.prog S w43 (o_builtin .append #[47, 47] 47 [false, false] [x54, x49]) true fun x56 w44 =>
 dfS Tryz.prog S w44 (o_call (fv 46) [x0, x58, (.string (ByteArray.mk #[108, 101, 97, 102])), (.string (ByteArray.mk #[]))]) false fun x59 w45 =>
 dfS Tryz.prog S w45 (o_call (fv 45) [x0, x56, x59]) false fun x60 w46 =>
 dp Tryz.prog (o_extract x60 0) fun x61 =>
 dp Tryz.prog (o_extract x60 1) fun x62 =>
 dp Tryz.prog (o_extract x60 2) fun x63 =>
 dfS Tryz.prog S w46 (o_store 34 x17 x63) false fun _ w47 =>
 dend w47 fun w48 =>
 j9 x61 x62 x17 w48) ∧ (
 dp Tryz.prog (o_bin .mul 3 true (.int .i64 2) x2) fun x53 =>
 dqS Tryz.prog S w20 (o_load 34 x9) fun x58 =>
 dfS Tryz.prog S w20 (o_alloc 34) true fun x17 w49 =>
 dfS Tryz.prog S w49 (o_buildSlice 47 1 [(0, x53)]) true fun x54 w50 =>
 dfS Tryz.prog S w50 (o_builtin .append #[47, 47] 47 [false, false] [x54, x49]) true fun x56 w51 =>
 dfS Tryz.prog S w51 (o_call (fv 46) [x0, x58, (.string (ByteArray.mk #[108, 101, 97, 102])), (.string (ByteArray.mk #[]))]) false fun x59 w52 =>
 dfS Tryz.prog S w52 (o_call (fv 45) [x0, x56, x59]) false fun x60 w53 =>
 dp Tryz.prog (o_extract x60 0) fun x61 =>
 dp Tryz.prog (o_extract x60 1) fun x62 =>
 dp Tryz.prog (o_extract x60 2) fun x63 =>
 dfS Tryz.prog S w53 (o_store 34 x17 x63) false fun _ w54 =>
 dend w54 fun w55 =>
 j9 x61 x62 x17 w55))) fun x15 x16 x17 u9 w56 =>
 m R (o_alloc 56) w56 fun x18 w57 =>
 m R (o_builtin .len #[26] 3 [false] [x16]) w57 fun x65 w58 =>
 ml2 (.slice none 0 0) (.int .i64 0) w58 fun x19 x66 u12 w59 next12 =>
 m R (o_bin .lss 3 false x66 x65) w59 fun x67 w60 =>
 mif x67 (
 m R (o_indexAddr 26 x16 x66) w60 fun x68 w61 =>
 m R (o_load 43 x68) w61 fun x69 w62 =>
 m R (o_alloc 43) w62 fun x21 w63 =>
 m R (o_store 43 x21 x69) w63 fun _ w64 =>
 m R (o_fieldAddr 43 x21 1) w64 fun x72 w65 =>
 m R (o_load 34 x72) w65 fun x73 w66 =>
 m R (o_call (fv 11) [x0, x73]) w66 fun x74 w67 =>
 m R (o_buildSlice 54 1 [(0, x74)]) w67 fun x75 w68 =>
 m R (o_builtin .append #[54, 54] 54 [false, false] [x19, x75]) w68 fun x76 w69 =>
 m R (o_bin .add 3 true x66 (.int .i64 1)) w69 fun x77 w70 =>
 next12 x76 x77 w70) (
 m R (o_load 25 x7) w60 fun x78 w71 =>
 m R (o_call (fv 47) [x78, x2, x49, x5]) w71 fun x82 w72 =>
 m R (o_builtin .len #[95] 3 [false] [x82]) w72 fun x83 w73 =>
 ml1 (.int .i64 0) w73 fun x84 u17 w74 next17 =>
 m R (o_bin .lss 3 false x84 x83) w74 fun x85 w75 =>
 mif x85 (
 m R (o_indexAddr 95 x82 x84) w75 fun x87 w76 =>
 m R (o_load 47 x87) w76 fun x88 w77 =>
 m R (o_bin .add 3 true x84 (.int .i64 1)) w77 fun x91 w78 =>
 m R (o_indexAddr 54 x19 x91) w78 fun x92 w79 =>
 m R (o_load 34 x92) w79 fun x93 w80 =>
 m R (o_build 72 [(0, x93)]) w80 fun x94 w81 =>
 m R (o_alloc 72) w81 fun x24 w82 =>
 m R (o_store 72 x24 x94) w82 fun _ w83 =>
 m R (o_builtin .len #[47] 3 [false] [x88]) w83 fun x96 w84 =>
 ml1 (.int .i64 0) w84 fun x97 u21 w85 next21 =>
 m R (o_bin .lss 3 false x97 x96) w85 fun x98 w86 =>
 mif x98 (
 mj0 (fun j26 =>
 m R (o_indexAddr 47 x88 x97) w86 fun x100 w87 =>
 m R (o_load 3 x100) w87 fun x101 w88 =>
 m R (o_load 25 x7) w88 fun x103 w89 =>
 m R (o_call (fv 25) [x103, x101]) w89 fun x105 w90 =>
 m R (o_extract x105 0) w90 fun x106 w91 =>
 m R (o_extract x105 1) w91 fun x107 w92 =>
 m R (o_alloc 34) w92 fun x27 w93 =>
 m R (o_store 34 x27 x106) w93 fun _ w94 =>
 m R (o_bin .add 3 true x84 (.int .i64 1)) w94 fun x110 w95 =>
 m R (o_indexAddr 54 x15 x110) w95 fun x111 w96 =>
 m R (o_load 34 x111) w96 fun x112 w97 =>
 m R (o_alloc 34) w97 fun x29 w98 =>
 m R (o_store 34 x29 x112) w98 fun _ w99 =>
 ((
 dp Tryz.prog (o_fieldAddr 72 x24 1) fun x113 =>
 dq Tryz.prog w99 (o_load 70 x113) fun x114 =>
 dq Tryz.prog w99 (o_load 34 x27) fun x116 =>
 dq Tryz.prog w99 (o_load 34 x9) fun x118 =>
 dp Tryz.prog (o_slice 34 x29 none none none) fun x125 =>
 dq Tryz.prog w99 (o_conv 99 9 x125) fun x126 =>
 dq Tryz.prog w99 (o_load 34 x29) fun x127 =>
 df Tryz.prog w99 (o_buildSlice 47 2 [(0, x84), (1, x97)]) true fun x121 w100 =>
 df Tryz.prog w100 (o_call (fv 49) [x121]) true fun x122 w101 =>
 df Tryz.prog w101 (o_call (fv 46) [x0, x118, (.string (ByteArray.mk #[119, 114, 97, 112])), x122]) true fun x123 w102 =>
 df Tryz.prog w102 (o_buildSlice 54 1 [(0, x127)]) true fun x128 w103 =>
 df Tryz.prog w103 (o_call (fv 48) [x0, x116, x123, x4, x126, x128]) true fun x129 w104 =>
 df Tryz.prog w104 (o_buildSlice 70 1 [(0, x129)]) true fun x130 w105 =>
 df Tryz.prog w105 (o_builtin .append #[70, 70] 70 [false, false] [x114, x130]) false fun x131 w106 =>
 dp Tryz.prog (o_fieldAddr 72 x24 1) fun x132 =>
 df Tryz.prog w106 (o_store 70 x132 x131) false fun _ w107 =>
 dend w107 fun w108 =>
 j26 w108) ∧ (
 dp Tryz.prog (o_fieldAddr 72 x24 1) fun x113 =>
 dq Tryz.prog w99 (o_load 70 x113) fun x114 =>
 dq Tryz.prog w99 (o_load 34 x27) fun x116 =>
 dq Tryz.prog w99 (o_load 34 x9) fun x118 =>
 dp Tryz.prog (o_slice 34 x29 none none none) fun x125 =>
 dq Tryz.prog w99 (o_conv 99 9 x125) fun x126 =>
 dq Tryz.prog w99 (o_load 34 x29) fun x127 =>
 df Tryz.prog w99 (o_buildSlice 47 2 [(0, x84), (1, x97)]) true fun x121 w109 =>
 df Tryz.prog w109 (o_call (fv 49) [x121]) true fun x122 w110 =>
 df Tryz.prog w110 (o_buildSlice 54 1 [(0, x127)]) true fun x128 w111 =>
 df Tryz.prog w111 (o_call (fv 46) [x0, x118, (.string (ByteArray.mk #[119, 114, 97, 112])), x122]) true fun x123 w112 =>
 df Tryz.prog w112 (o_call (fv 48) [x0, x116, x123, x4, x126, x128]) true fun x129 w113 =>
 df Tryz.prog w113 (o_buildSlice 70 1 [(0, x129)]) true fun x130 w114 =>
 df Tryz.prog w114 (o_builtin .append #[70, 70] 70 [false, false] [x114, x130]) false fun x131 w115 =>
 dp Tryz.prog (o_fieldAddr 72 x24 1) fun x132 =>
 df Tryz.prog w115 (o_store 70 x132 x131) false fun _ w116 =>
 dend w116 fun w117 =>
 j26 w117) ∧ (
 dp Tryz.prog (o_fieldAddr 72 x24 1) fun x113 =>
 dq Tryz.prog w99 (o_load 70 x113) fun x114 =>
 dq Tryz.prog w99 (o_load 34 x27) fun x116 =>
 dq Tryz.prog w99 (o_load 34 x9) fun x118 =>
 dp Tryz.prog (o_slice 34 x29 none none none) fun x125 =>
 dq Tryz.prog w99 (o_conv 99 9 x125) fun x126 =>
 dq Tryz.prog w99 (o_load 34 x29) fun x127 =>
 df Tryz.prog w99 (o_buildSlice 47 2 [(0, x84), (1, x97)]) true fun x121 w118 =>
 df Tryz.prog w118 (o_buildSlice 54 1 [(0, x127)]) true fun x128 w119 =>
 df Tryz.prog w119 (o_call (fv 49) [x121]) true fun x122 w120 =>
 df Tryz.prog w120 (o_call (fv 46) [x0, x118, (.string (ByteArray.mk #[119, 114, 97, 112])), x122]) true fun x123 w121 =>
 df Tryz.prog w121 (o_call (fv 48) [x0, x116, x123, x4, x126, x128]) true fun x129 w122 =>
 df Tryz.prog w122 (o_buildSlice 70 1 [(0, x129)]) true fun x130 w123 =>
 df Tryz.prog w123 (o_builtin .append #[70, 70] 70 [false, false] [x114, x130]) false fun x131 w124 =>
 dp Tryz.prog (o_fieldAddr 72 x24 1) fun x132 =>
 df Tryz.prog w124 (o_store 70 x132 x131) false fun _ w125 =>
 dend w125 fun w126 =>
 j26 w126) ∧ (
 dp Tryz.prog (o_fieldAddr 72 x24 1) fun x113 =>
 dq Tryz.prog w99 (o_load 70 x113) fun x114 =>
 dq Tryz.prog w99 (o_load 34 x27) fun x116 =>
 dq Tryz.prog w99 (o_load 34 x9) fun x118 =>
 dp Tryz.prog (o_slice 34 x29 none none none) fun x125 =>
 dq Tryz.prog w99 (o_conv 99 9 x125) fun x126 =>
 dq Tryz.prog w99 (o_load 34 x29) fun x127 =>
 df Tryz.prog w99 (o_buildSlice 54 1 [(0, x127)]) true fun x128 w127 =>
 df Tryz.prog w127 (o_buildSlice 47 2 [(0, x84), (1, x97)]) true fun x121 w128 =>
 df Tryz.prog w128 (o_call (fv 49) [x121]) true fun x122 w129 =>
 df Tryz.prog w129 (o_call (fv 46) [x0, x118, (.string (ByteArray.mk #[119, 114, 97, 112])), x122]) true fun x123 w130 =>
 df Tryz.prog w130 (o_call (fv 48) [x0, x116, x123, x4, x126, x128]) true fun x129 w131 =>
 df Tryz.prog w131 (o_buildSlice 70 1 [(0, x129)]) true fun x130 w132 =>
 df Tryz.prog w132 (o_builtin .append #[70, 70] 70 [false, false] [x114, x130]) false fun x131 w133 =>
 dp Tryz.prog (o_fieldAddr 72 x24 1) fun x132 =>
 df Tryz.prog w133 (o_store 70 x132 x131) false fun _ w134 =>
 dend w134 fun w135 =>
 j26 w135))) fun u26 w136 =>
 m R (o_bin .add 3 true x97 (.int .i64 1)) w136 fun x133 w137 =>
 next21 x133 w137) (
 m R (o_fieldAddr 56 x18 1) w86 fun x134 w138 =>
 m R (o_load 53 x134) w138 fun x135 w139 =>
 m R (o_load 72 x24) w139 fun x136 w140 =>
 m R (o_buildSlice 53 1 [(0, x136)]) w140 fun x137 w141 =>
 m R (o_builtin .append #[53, 53] 53 [false, false] [x135, x137]) w141 fun x138 w142 =>
 m R (o_fieldAddr 56 x18 1) w142 fun x139 w143 =>
 m R (o_store 53 x139 x138) w143 fun _ w144 =>
 m R (o_bin .add 3 true x84 (.int .i64 1)) w144 fun x140 w145 =>
 next17 x140 w145)) (
 dq Tryz.prog w75 (o_load 25 x7) fun x142 =>
 dp Tryz.prog (o_indexAddr 54 x19 (.int .i64 0)) fun x145 =>
 dq Tryz.prog w75 (o_load 34 x145) fun x146 =>
 dp Tryz.prog (o_slice 54 x19 (some (.int .i64 1)) none none) fun x148 =>
 df Tryz.prog w75 (o_call (fv 50) [x142, x2, x146, x148]) false fun x149 w146 =>
 dp Tryz.prog (o_extract x149 0) fun x150 =>
 dp Tryz.prog (o_extract x149 1) fun x151 =>
 dp Tryz.prog (o_fieldAddr 56 x18 0) fun x152 =>
 df Tryz.prog w146 (o_store 25 x152 x150) false fun _ w147 =>
 dend w147 fun w148 =>
 ∃ S : Rl,
 dp Tryz.prog (o_slice 54 x15 (some (.int .i64 1)) none none) fun x154 =>
 dqS Tryz.prog S w148 (o_load 34 x17) fun x155 =>
 dfS Tryz.prog S w148 (o_call (fv 26) [x16]) true fun x157 w149 =>
 dp Tryz.prog (o_fieldAddr 56 x18 2) fun x158 =>
 dfS Tryz.prog S w149 (o_store 54 x158 x154) true fun _ w150 =>
 dp Tryz.prog (o_fieldAddr 56 x18 4) fun x159 =>
 dfS Tryz.prog S w150 (o_store 34 x159 x155) false fun _ w151 =>
 dp Tryz.prog (o_fieldAddr 56 x18 3) fun x160 =>
 dfS Tryz.prog S w151 (o_store 26 x160 x157) false fun _ w152 =>
 dend w152 fun w153 =>
 m R (o_load 56 x18) w153 fun x161 w154 =>
 m R (o_store 56 x12 x161) w154 fun _ w155 =>
 rcell Tryz.prog 56 x12 w155 fun r12 =>
 R (.returned (.tuple #[r12, (.int .i64 0)])) w155)))))
def A_climb_Grow : Ann := ⟨[(12, [19, 66], 302157667927362458091520), (17, [84], 2787593149816327873349151670246979462496256), (21, [97], 21778071482781605336627446200447117819904)], [(9, [15, 16, 17], 18445618173802938368), (26, [], 10889035740836205530713872737069271351296)], [(29, [⟨0, .q (some 0), 128, 0, 5575186299632655785383929568162090376495104⟩, ⟨1, .q none, 4, 0, 11150372599265311570767859136324180752990208⟩, ⟨2, .q none, 524288, 0, 22300745198530623141535718272648361505980416⟩, ⟨3, .q none, 22300745198530623141535718272648361505980416, 4, 44601490397061246283071436545296723011960832⟩, ⟨4, .q (some 0), 44601490397061246283071436545296723011960832, 12, 89202980794122492566142873090593446023921664⟩, ⟨5, .q none, 524288, 0, 178405961588244985132285746181186892047843328⟩, ⟨6, .q none, 178405961588244985132285746181186892047843328, 32, 356811923176489970264571492362373784095686656⟩, ⟨7, .f 0 false, 462740462869510430186866154157453501249093632, 127, 713623846352979940529142984724747568191373312⟩, ⟨8, .q none, 713623846352979940529142984724747568191373312, 255, 2787593149816327892691964784081045188247552⟩, ⟨9, .q none, 2787593149816327892691964784081045188247552, 511, 1427247692705959881058285969449495136382746624⟩, ⟨10, .q none, 2787593149816327892691964784081045188247552, 511, 2854495385411919762116571938898990272765493248⟩, ⟨11, .q none, 262144, 1023, 5708990770823839524233143877797980545530986496⟩, ⟨12, .f 1 false, 7136238463529799405291429847247475681913733120, 3071, 0⟩]), (30, [⟨0, .q none, 32768, 0, 11417981541647679048466287755595961091061972992⟩, ⟨1, .q none, 11417981541647679048466287755595961091061972992, 1, 22835963083295358096932575511191922182123945984⟩, ⟨2, .q (some 0), 131072, 0, 45671926166590716193865151022383844364247891968⟩, ⟨3, .q none, 65536, 0, 91343852333181432387730302044767688728495783936⟩, ⟨4, .f 0 true, 91343852333181432387730302044767688728495783936, 8, 182687704666362864775460604089535377456991567872⟩, ⟨5, .q none, 262144, 3, 365375409332725729550921208179070754913983135744⟩, ⟨6, .f 1 true, 388211372416021087647853783690262677096107081728, 59, 0⟩, ⟨7, .q none, 262144, 127, 730750818665451459101842416358141509827966271488⟩, ⟨8, .f 2 false, 776422744832042175295707567380525354192214163456, 255, 0⟩, ⟨9, .q none, 262144, 511, 1461501637330902918203684832716283019655932542976⟩, ⟨10, .f 3 false, 1644189341997265782979145436805818397112924110848, 1023, 0⟩])], [(8, [⟨[0, 1, 2, 4, 6, 7, 3, 5, 8, 9, 10, 11, 12, 13, 14, 15, 16, 17], [⟨0, .q none, 1, 0, 2251799813685248⟩, ⟨1, .q none, 4, 0, 4503599627370496⟩, ⟨2, .q none, 4503599627370496, 2, 9007199254740992⟩, ⟨3, .f 0 true, 9007199254740992, 6, 18014398509481984⟩, ⟨4, .q none, 16384, 0, 36028797018963968⟩, ⟨5, .f 1 true, 54043195528445952, 30, 72057594037927936⟩, ⟨6, .q none, 1, 0, 144115188075855872⟩, ⟨7, .q (some 0), 512, 0, 288230376151711744⟩, ⟨8, .f 2 false, 432345564227567616, 254, 576460752303423488⟩, ⟨9, .f 3 false, 650770146155036672, 511, 1152921504606846976⟩, ⟨10, .q none, 1152921504606846976, 1023, 1125899906842624⟩, ⟨11, .q none, 1125899906842624, 2047, 2305843009213693952⟩, ⟨12, .q none, 1125899906842624, 2047, 4611686018427387904⟩, ⟨13, .q none, 1125899906842624, 2047, 9223372036854775808⟩, ⟨14, .f 4 true, 0, 0, 131072⟩, ⟨15, .q none, 2305843009213693952, 20479, 32768⟩, ⟨16, .q none, 4611686018427387904, 57343, 65536⟩, ⟨17, .f 5 false, 9223372036854906880, 131071, 0⟩]⟩, ⟨[0, 1, 2, 4, 6, 7, 3, 5, 8, 14, 9, 10, 11, 12, 13, 15, 16, 17], [⟨0, .q none, 1, 0, 2251799813685248⟩, ⟨1, .q none, 4, 0, 4503599627370496⟩, ⟨2, .q none, 4503599627370496, 2, 9007199254740992⟩, ⟨3, .f 0 true, 9007199254740992, 6, 18014398509481984⟩, ⟨4, .q none, 16384, 0, 36028797018963968⟩, ⟨5, .f 1 true, 54043195528445952, 30, 72057594037927936⟩, ⟨6, .q none, 1, 0, 144115188075855872⟩, ⟨7, .q (some 0), 512, 0, 288230376151711744⟩, ⟨8, .f 2 false, 432345564227567616, 254, 576460752303423488⟩, ⟨9, .f 4 false, 650770146155036672, 511, 1152921504606846976⟩, ⟨10, .q none, 1152921504606846976, 1023, 1125899906842624⟩, ⟨11, .q none, 1125899906842624, 2047, 2305843009213693952⟩, ⟨12, .q none, 1125899906842624, 2047, 4611686018427387904⟩, ⟨13, .q none, 1125899906842624, 2047, 9223372036854775808⟩, ⟨14, .f 3 true, 0, 0, 131072⟩, ⟨15, .q none, 2305843009213693952, 20479, 32768⟩, ⟨16, .q none, 4611686018427387904, 57343, 65536⟩, ⟨17, .f 5 false, 9223372036854906880, 131071, 0⟩]⟩, ⟨[0, 1, 2, 4, 6, 7, 3, 5, 14, 8, 9, 10, 11, 12, 13, 15, 16, 17], [⟨0, .q none, 1, 0, 2251799813685248⟩, ⟨1, .q none, 4, 0, 4503599627370496⟩, ⟨2, .q none, 4503599627370496, 2, 9007199254740992⟩, ⟨3, .f 0 true, 9007199254740992, 6, 18014398509481984⟩, ⟨4, .q none, 16384, 0, 36028797018963968⟩, ⟨5, .f 1 true, 54043195528445952, 30, 72057594037927936⟩, ⟨6, .q none, 1, 0, 144115188075855872⟩, ⟨7, .q (some 0), 512, 0, 288230376151711744⟩, ⟨8, .f 3 false, 432345564227567616, 254, 576460752303423488⟩, ⟨9, .f 4 false, 650770146155036672, 511, 1152921504606846976⟩, ⟨10, .q none, 1152921504606846976, 1023, 1125899906842624⟩, ⟨11, .q none, 1125899906842624, 2047, 2305843009213693952⟩, ⟨12, .q none, 1125899906842624, 2047, 4611686018427387904⟩, ⟨13, .q none, 1125899906842624, 2047, 9223372036854775808⟩, ⟨14, .f 2 true, 0, 0, 131072⟩, ⟨15, .q none, 2305843009213693952, 20479, 32768⟩, ⟨16, .q none, 4611686018427387904, 57343, 65536⟩, ⟨17, .f 5 false, 9223372036854906880, 131071, 0⟩]⟩, ⟨[0, 1, 2, 4, 6, 7, 3, 14, 5, 8, 9, 10, 11, 12, 13, 15, 16, 17], [⟨0, .q none, 1, 0, 2251799813685248⟩, ⟨1, .q none, 4, 0, 4503599627370496⟩, ⟨2, .q none, 4503599627370496, 2, 9007199254740992⟩, ⟨3, .f 0 true, 9007199254740992, 6, 18014398509481984⟩, ⟨4, .q none, 16384, 0, 36028797018963968⟩, ⟨5, .f 2 true, 54043195528445952, 30, 72057594037927936⟩, ⟨6, .q none, 1, 0, 144115188075855872⟩, ⟨7, .q (some 0), 512, 0, 288230376151711744⟩, ⟨8, .f 3 false, 432345564227567616, 254, 576460752303423488⟩, ⟨9, .f 4 false, 650770146155036672, 511, 1152921504606846976⟩, ⟨10, .q none, 1152921504606846976, 1023, 1125899906842624⟩, ⟨11, .q none, 1125899906842624, 2047, 2305843009213693952⟩, ⟨12, .q none, 1125899906842624, 2047, 4611686018427387904⟩, ⟨13, .q none, 1125899906842624, 2047, 9223372036854775808⟩, ⟨14, .f 1 true, 0, 0, 131072⟩, ⟨15, .q none, 2305843009213693952, 20479, 32768⟩, ⟨16, .q none, 4611686018427387904, 57343, 65536⟩, ⟨17, .f 5 false, 9223372036854906880, 131071, 0⟩]⟩, ⟨[0, 1, 2, 4, 6, 7, 14, 3, 5, 8, 9, 10, 11, 12, 13, 15, 16, 17], [⟨0, .q none, 1, 0, 2251799813685248⟩, ⟨1, .q none, 4, 0, 4503599627370496⟩, ⟨2, .q none, 4503599627370496, 2, 9007199254740992⟩, ⟨3, .f 1 true, 9007199254740992, 6, 18014398509481984⟩, ⟨4, .q none, 16384, 0, 36028797018963968⟩, ⟨5, .f 2 true, 54043195528445952, 30, 72057594037927936⟩, ⟨6, .q none, 1, 0, 144115188075855872⟩, ⟨7, .q (some 0), 512, 0, 288230376151711744⟩, ⟨8, .f 3 false, 432345564227567616, 254, 576460752303423488⟩, ⟨9, .f 4 false, 650770146155036672, 511, 1152921504606846976⟩, ⟨10, .q none, 1152921504606846976, 1023, 1125899906842624⟩, ⟨11, .q none, 1125899906842624, 2047, 2305843009213693952⟩, ⟨12, .q none, 1125899906842624, 2047, 4611686018427387904⟩, ⟨13, .q none, 1125899906842624, 2047, 9223372036854775808⟩, ⟨14, .f 0 true, 0, 0, 131072⟩, ⟨15, .q none, 2305843009213693952, 20479, 32768⟩, ⟨16, .q none, 4611686018427387904, 57343, 65536⟩, ⟨17, .f 5 false, 9223372036854906880, 131071, 0⟩]⟩]), (25, [⟨[0, 1, 2, 3, 4, 5, 6, 7, 11, 12, 13, 14, 8, 9, 10, 15, 16, 17, 18, 19, 20], [⟨0, .q none, 16777216, 0, 10384593717069655257060992658440192⟩, ⟨1, .q (some 0), 10384593717069655257060992658440192, 1, 20769187434139310514121985316880384⟩, ⟨2, .q none, 1, 0, 41538374868278621028243970633760768⟩, ⟨3, .q (some 0), 134217728, 0, 83076749736557242056487941267521536⟩, ⟨4, .q none, 1, 0, 166153499473114484112975882535043072⟩, ⟨5, .q (some 0), 512, 0, 332306998946228968225951765070086144⟩, ⟨6, .q none, 4194304, 0, 664613997892457936451903530140172288⟩, ⟨7, .q none, 33554432, 0, 1329227995784915872903807060280344576⟩, ⟨8, .f 0 true, 1993841993677373809355710590420516864, 192, 2658455991569831745807614120560689152⟩, ⟨9, .f 1 true, 2658455991569831745807614120560689152, 448, 5316911983139663491615228241121378304⟩, ⟨10, .f 2 true, 5815372481559006943954155888726507520, 1008, 10633823966279326983230456482242756608⟩, ⟨11, .q none, 16, 0, 21267647932558653966460912964485513216⟩, ⟨12, .q none, 536870912, 0, 42535295865117307932921825928971026432⟩, ⟨13, .q (some 0), 42535295865117307932921825928971026432, 4096, 85070591730234615865843651857942052864⟩, ⟨14, .q (some 0), 536870912, 0, 170141183460469231731687303715884105728⟩, ⟨15, .f 3 true, 170141183460469231731687303715884105728, 16384, 340282366920938463463374607431768211456⟩, ⟨16, .f 4 true, 457379045674615896141994360648339816448, 65532, 680564733841876926926749214863536422912⟩, ⟨17, .f 5 true, 680564733841876926926749214863536422912, 131068, 1361129467683753853853498429727072845824⟩, ⟨18, .f 6 false, 1361150236871187993164012551712389726208, 262143, 2722258935367507707706996859454145691648⟩, ⟨19, .q none, 16777216, 524287, 5444517870735015415413993718908291383296⟩, ⟨20, .f 7 false, 8166776806102523123120990578362437074944, 1048575, 0⟩]⟩, ⟨[0, 1, 2, 3, 4, 5, 6, 7, 11, 12, 13, 14, 8, 9, 15, 10, 16, 17, 18, 19, 20], [⟨0, .q none, 16777216, 0, 10384593717069655257060992658440192⟩, ⟨1, .q (some 0), 10384593717069655257060992658440192, 1, 20769187434139310514121985316880384⟩, ⟨2, .q none, 1, 0, 41538374868278621028243970633760768⟩, ⟨3, .q (some 0), 134217728, 0, 83076749736557242056487941267521536⟩, ⟨4, .q none, 1, 0, 166153499473114484112975882535043072⟩, ⟨5, .q (some 0), 512, 0, 332306998946228968225951765070086144⟩, ⟨6, .q none, 4194304, 0, 664613997892457936451903530140172288⟩, ⟨7, .q none, 33554432, 0, 1329227995784915872903807060280344576⟩, ⟨8, .f 0 true, 1993841993677373809355710590420516864, 192, 2658455991569831745807614120560689152⟩, ⟨9, .f 1 true, 2658455991569831745807614120560689152, 448, 5316911983139663491615228241121378304⟩, ⟨10, .f 3 true, 5815372481559006943954155888726507520, 1008, 10633823966279326983230456482242756608⟩, ⟨11, .q none, 16, 0, 21267647932558653966460912964485513216⟩, ⟨12, .q none, 536870912, 0, 42535295865117307932921825928971026432⟩, ⟨13, .q (some 0), 42535295865117307932921825928971026432, 4096, 85070591730234615865843651857942052864⟩, ⟨14, .q (some 0), 536870912, 0, 170141183460469231731687303715884105728⟩, ⟨15, .f 2 true, 170141183460469231731687303715884105728, 16384, 340282366920938463463374607431768211456⟩, ⟨16, .f 4 true, 457379045674615896141994360648339816448, 65532, 680564733841876926926749214863536422912⟩, ⟨17, .f 5 true, 680564733841876926926749214863536422912, 131068, 1361129467683753853853498429727072845824⟩, ⟨18, .f 6 false, 1361150236871187993164012551712389726208, 262143, 2722258935367507707706996859454145691648⟩, ⟨19, .q none, 16777216, 524287, 5444517870735015415413993718908291383296⟩, ⟨20, .f 7 false, 8166776806102523123120990578362437074944, 1048575, 0⟩]⟩, ⟨[0, 1, 2, 3, 4, 5, 6, 7, 11, 12, 13, 14, 8, 15, 9, 10, 16, 17, 18, 19, 20], [⟨0, .q none, 16777216, 0, 10384593717069655257060992658440192⟩, ⟨1, .q (some 0), 10384593717069655257060992658440192, 1, 20769187434139310514121985316880384⟩, ⟨2, .q none, 1, 0, 41538374868278621028243970633760768⟩, ⟨3, .q (some 0), 134217728, 0, 83076749736557242056487941267521536⟩, ⟨4, .q none, 1, 0, 166153499473114484112975882535043072⟩, ⟨5, .q (some 0), 512, 0, 332306998946228968225951765070086144⟩, ⟨6, .q none, 4194304, 0, 664613997892457936451903530140172288⟩, ⟨7, .q none, 33554432, 0, 1329227995784915872903807060280344576⟩, ⟨8, .f 0 true, 1993841993677373809355710590420516864, 192, 2658455991569831745807614120560689152⟩, ⟨9, .f 2 true, 2658455991569831745807614120560689152, 448, 5316911983139663491615228241121378304⟩, ⟨10, .f 3 true, 5815372481559006943954155888726507520, 1008, 10633823966279326983230456482242756608⟩, ⟨11, .q none, 16, 0, 21267647932558653966460912964485513216⟩, ⟨12, .q none, 536870912, 0, 42535295865117307932921825928971026432⟩, ⟨13, .q (some 0), 42535295865117307932921825928971026432, 4096, 85070591730234615865843651857942052864⟩, ⟨14, .q (some 0), 536870912, 0, 170141183460469231731687303715884105728⟩, ⟨15, .f 1 true, 170141183460469231731687303715884105728, 16384, 340282366920938463463374607431768211456⟩, ⟨16, .f 4 true, 457379045674615896141994360648339816448, 65532, 680564733841876926926749214863536422912⟩, ⟨17, .f 5 true, 680564733841876926926749214863536422912, 131068, 1361129467683753853853498429727072845824⟩, ⟨18, .f 6 false, 1361150236871187993164012551712389726208, 262143, 2722258935367507707706996859454145691648⟩, ⟨19, .q none, 16777216, 524287, 5444517870735015415413993718908291383296⟩, ⟨20, .f 7 false, 8166776806102523123120990578362437074944, 1048575, 0⟩]⟩, ⟨[0, 1, 2, 3, 4, 5, 6, 7, 11, 12, 13, 14, 15, 8, 9, 10, 16, 17, 18, 19, 20], [⟨0, .q none, 16777216, 0, 10384593717069655257060992658440192⟩, ⟨1, .q (some 0), 10384593717069655257060992658440192, 1, 20769187434139310514121985316880384⟩, ⟨2, .q none, 1, 0, 41538374868278621028243970633760768⟩, ⟨3, .q (some 0), 134217728, 0, 83076749736557242056487941267521536⟩, ⟨4, .q none, 1, 0, 166153499473114484112975882535043072⟩, ⟨5, .q (some 0), 512, 0, 332306998946228968225951765070086144⟩, ⟨6, .q none, 4194304, 0, 664613997892457936451903530140172288⟩, ⟨7, .q none, 33554432, 0, 1329227995784915872903807060280344576⟩, ⟨8, .f 1 true, 1993841993677373809355710590420516864, 192, 2658455991569831745807614120560689152⟩, ⟨9, .f 2 true, 2658455991569831745807614120560689152, 448, 5316911983139663491615228241121378304⟩, ⟨10, .f 3 true, 5815372481559006943954155888726507520, 1008, 10633823966279326983230456482242756608⟩, ⟨11, .q none, 16, 0, 21267647932558653966460912964485513216⟩, ⟨12, .q none, 536870912, 0, 42535295865117307932921825928971026432⟩, ⟨13, .q (some 0), 42535295865117307932921825928971026432, 4096, 85070591730234615865843651857942052864⟩, ⟨14, .q (some 0), 536870912, 0, 170141183460469231731687303715884105728⟩, ⟨15, .f 0 true, 170141183460469231731687303715884105728, 16384, 340282366920938463463374607431768211456⟩, ⟨16, .f 4 true, 457379045674615896141994360648339816448, 65532, 680564733841876926926749214863536422912⟩, ⟨17, .f 5 true, 680564733841876926926749214863536422912, 131068, 1361129467683753853853498429727072845824⟩, ⟨18, .f 6 false, 1361150236871187993164012551712389726208, 262143, 2722258935367507707706996859454145691648⟩, ⟨19, .q none, 16777216, 524287, 5444517870735015415413993718908291383296⟩, ⟨20, .f 7 false, 8166776806102523123120990578362437074944, 1048575, 0⟩]⟩])], [8, 30]⟩
theorem C_climb_Grow {x0 x1 x2 x3 x4 x5 : Value} {w : World} {R : Ending → World → Prop} (h : F_climb_Grow x0 x1 x2 x3 x4 x5 w R) : Calls Tryz.prog 16 #[x0, x1, x2, x3, x4, x5] w R :=
 calls_cwp (A := A_climb_Grow) (args := [x0, x1, x2, x3, x4, x5]) mixed Tryz.func16 (c := Tryz.f16.body.getD .skip) (by kernel_rfl) (by kernel_rfl) (by kernel_rfl) (Eq.mpr (by kernel_rfl) h)
def F_climb_Follow (x0 x1 x2 x3 x4 x5 x6 x7 x8 : Value) (w : World) (R : Ending → World → Prop) : Prop :=
 m R (o_box 25 x1) w fun x10 w1 =>
 m R (o_box 34 x3) w1 fun x12 w2 =>
 m R (o_box 3 x7) w2 fun x16 w3 =>
 m R (o_alloc 56) w3 fun x18 w4 =>
 m R (o_load 25 x10) w4 fun x36 w5 =>
 m R (o_call (fv 24) [x36]) w5 fun x37 w6 =>
 m R (o_un .not x37) w6 fun x38 w7 =>
 mif x38 (
 m R (o_build 56 []) w7 fun x39 w8 =>
 m R (o_store 56 x18 x39) w8 fun _ w9 =>
 rcell Tryz.prog 56 x18 w9 fun r18 =>
 R (.returned (.tuple #[r18, (.int .i64 1)])) w9) (
 mj1 (fun j4 =>
 m R (o_load 25 x10) w7 fun x41 w10 =>
 m R (o_call (fv 44) [x41, x2]) w10 fun x43 w11 =>
 mguard x43 false (fun k => m R (o_load 25 x10) w11 k) w11 fun x45 w12 =>
 mguard x43 false (fun k => m R (o_load 3 x16) w12 k) w12 fun x46 w13 =>
 mguard x43 false (fun k => m R (o_call (fv 44) [x45, x46]) w13 k) w13 fun x47 w14 =>
 m R (o_pick x43 (.bool true) x47) w14 fun x48 w15 =>
 j4 x48 w15) fun x40 u4 w16 =>
 mif x40 (
 m R (o_build 56 []) w16 fun x49 w17 =>
 m R (o_store 56 x18 x49) w17 fun _ w18 =>
 rcell Tryz.prog 56 x18 w18 fun r18 =>
 R (.returned (.tuple #[r18, (.int .i64 7)])) w18) (
 m R (o_load 3 x16) w16 fun x51 w19 =>
 m R (o_bin .eql 3 false x51 x2) w19 fun x53 w20 =>
 mif x53 (
 m R (o_build 56 []) w20 fun x54 w21 =>
 m R (o_store 56 x18 x54) w21 fun _ w22 =>
 rcell Tryz.prog 56 x18 w22 fun r18 =>
 R (.returned (.tuple #[r18, (.int .i64 1)])) w22) (
 m R (o_fieldAddr 25 x10 0) w20 fun x55 w23 =>
 m R (o_load 22 x55) w23 fun x56 w24 =>
 m R (o_builtin .len #[22] 3 [false] [x56]) w24 fun x57 w25 =>
 m R (o_alloc 3) w25 fun x20 w26 =>
 m R (o_store 3 x20 x57) w26 fun _ w27 =>
 m R (o_load 3 x20) w27 fun x58 w28 =>
 m R (o_call (fv 32) [x58, x2]) w28 fun x60 w29 =>
 m R (o_builtin .len #[53] 3 [false] [x4]) w29 fun x62 w30 =>
 m R (o_builtin .len #[47] 3 [false] [x60]) w30 fun x64 w31 =>
 m R (o_bin .neq 3 false x62 x64) w31 fun x65 w32 =>
 mif x65 (
 m R (o_build 56 []) w32 fun x66 w33 =>
 m R (o_store 56 x18 x66) w33 fun _ w34 =>
 rcell Tryz.prog 56 x18 w34 fun r18 =>
 R (.returned (.tuple #[r18, (.int .i64 16)])) w34) (
 m R (o_load 25 x10) w32 fun x67 w35 =>
 m R (o_call (fv 47) [x67, x2, x60, x6]) w35 fun x71 w36 =>
 m R (o_builtin .len #[95] 3 [false] [x71]) w36 fun x73 w37 =>
 ml1 (.int .i64 0) w37 fun x74 u13 w38 next13 =>
 m R (o_bin .lss 3 false x74 x73) w38 fun x75 w39 =>
 mif x75 (
 m R (o_indexAddr 95 x71 x74) w39 fun x77 w40 =>
 m R (o_load 47 x77) w40 fun x78 w41 =>
 m R (o_indexAddr 53 x4 x74) w41 fun x81 w42 =>
 m R (o_fieldAddr 72 x81 1) w42 fun x82 w43 =>
 m R (o_load 70 x82) w43 fun x83 w44 =>
 m R (o_builtin .len #[70] 3 [false] [x83]) w44 fun x84 w45 =>
 m R (o_builtin .len #[47] 3 [false] [x78]) w45 fun x86 w46 =>
 m R (o_bin .neq 3 false x84 x86) w46 fun x87 w47 =>
 mif x87 (
 m R (o_build 56 []) w47 fun x88 w48 =>
 m R (o_store 56 x18 x88) w48 fun _ w49 =>
 rcell Tryz.prog 56 x18 w49 fun r18 =>
 R (.returned (.tuple #[r18, (.int .i64 16)])) w49) (
 m R (o_bin .add 3 true x74 (.int .i64 1)) w47 fun x89 w50 =>
 next13 x89 w50)) (
 m R (o_func (.func 59) [] [x20, x16]) w39 fun x91 w51 =>
 m R (o_call (fv 58) [x60, x91]) w51 fun x92 w52 =>
 mj2 (fun j20 =>
 ((
 dp Tryz.prog (o_indexAddr 95 x71 x92) fun x96 =>
 dq Tryz.prog w52 (o_load 47 x96) fun x97 =>
 dp Tryz.prog (o_indexAddr 53 x4 x92) fun x100 =>
 dp Tryz.prog (o_fieldAddr 72 x100 1) fun x101 =>
 dq Tryz.prog w52 (o_load 70 x101) fun x102 =>
 df Tryz.prog w52 (o_call (fv 61) [x97, x102, x5, x8]) false fun x105 w53 =>
 dp Tryz.prog (o_extract x105 0) fun x106 =>
 dp Tryz.prog (o_extract x105 1) fun x107 =>
 df Tryz.prog w53 (o_alloc 34) true fun x26 w54 =>
 df Tryz.prog w54 (o_store 34 x26 x106) false fun _ w55 =>
 dend w55 fun w56 =>
 j20 x26 x107 w56) ∧ (
 dp Tryz.prog (o_indexAddr 95 x71 x92) fun x96 =>
 dq Tryz.prog w52 (o_load 47 x96) fun x97 =>
 dp Tryz.prog (o_indexAddr 53 x4 x92) fun x100 =>
 dp Tryz.prog (o_fieldAddr 72 x100 1) fun x101 =>
 dq Tryz.prog w52 (o_load 70 x101) fun x102 =>
 df Tryz.prog w52 (o_alloc 34) true fun x26 w57 =>
 df Tryz.prog w57 (o_call (fv 61) [x97, x102, x5, x8]) false fun x105 w58 =>
 dp Tryz.prog (o_extract x105 0) fun x106 =>
 dp Tryz.prog (o_extract x105 1) fun x107 =>
 df Tryz.prog w58 (o_store 34 x26 x106) false fun _ w59 =>
 dend w59 fun w60 =>
 j20 x26 x107 w60))) fun x26 x27 u20 w61 =>
 m R (o_bin .neq 35 true x27 (.int .i64 0)) w61 fun x109 w62 =>
 mif x109 (
 m R (o_build 56 []) w62 fun x110 w63 =>
 m R (o_store 56 x18 x110) w63 fun _ w64 =>
 rcell Tryz.prog 56 x18 w64 fun r18 =>
 R (.returned (.tuple #[r18, x27])) w64) (
 m R (o_builtin .len #[53] 3 [false] [x4]) w62 fun x113 w65 =>
 ml2 (.slice none 0 0) (.int .i64 0) w65 fun x28 x114 u24 w66 next24 =>
 m R (o_bin .lss 3 false x114 x113) w66 fun x115 w67 =>
 mif x115 (
 m R (o_indexAddr 53 x4 x114) w67 fun x116 w68 =>
 m R (o_load 72 x116) w68 fun x117 w69 =>
 m R (o_alloc 72) w69 fun x30 w70 =>
 m R (o_store 72 x30 x117) w70 fun _ w71 =>
 m R (o_fieldAddr 72 x30 0) w71 fun x119 w72 =>
 m R (o_load 34 x119) w72 fun x120 w73 =>
 m R (o_buildSlice 54 1 [(0, x120)]) w73 fun x121 w74 =>
 m R (o_builtin .append #[54, 54] 54 [false, false] [x28, x121]) w74 fun x122 w75 =>
 m R (o_bin .add 3 true x114 (.int .i64 1)) w75 fun x123 w76 =>
 next24 x122 x123 w76) (
 mj2 (fun j29 =>
 ((
 dp Tryz.prog (o_slice 47 x60 (some x92) none none) fun x128 =>
 dq Tryz.prog w67 (o_load 34 x26) fun x129 =>
 dp Tryz.prog (o_slice 54 x28 (some x92) none none) fun x132 =>
 df Tryz.prog w67 (o_call (fv 56) [x0, x128, x129, x132]) false fun x133 w77 =>
 dp Tryz.prog (o_extract x133 0) fun x134 =>
 dp Tryz.prog (o_extract x133 1) fun x135 =>
 df Tryz.prog w77 (o_alloc 56) true fun x31 w78 =>
 df Tryz.prog w78 (o_store 56 x31 x134) false fun _ w79 =>
 dend w79 fun w80 =>
 j29 x31 x135 w80) ∧ (
 dp Tryz.prog (o_slice 47 x60 (some x92) none none) fun x128 =>
 dq Tryz.prog w67 (o_load 34 x26) fun x129 =>
 dp Tryz.prog (o_slice 54 x28 (some x92) none none) fun x132 =>
 df Tryz.prog w67 (o_alloc 56) true fun x31 w81 =>
 df Tryz.prog w81 (o_call (fv 56) [x0, x128, x129, x132]) false fun x133 w82 =>
 dp Tryz.prog (o_extract x133 0) fun x134 =>
 dp Tryz.prog (o_extract x133 1) fun x135 =>
 df Tryz.prog w82 (o_store 56 x31 x134) false fun _ w83 =>
 dend w83 fun w84 =>
 j29 x31 x135 w84))) fun x31 x32 u29 w85 =>
 m R (o_un .not x32) w85 fun x137 w86 =>
 mif x137 (
 m R (o_build 56 []) w86 fun x138 w87 =>
 m R (o_store 56 x18 x138) w87 fun _ w88 =>
 rcell Tryz.prog 56 x18 w88 fun r18 =>
 R (.returned (.tuple #[r18, (.int .i64 16)])) w88) (
 m R (o_load 25 x10) w86 fun x140 w89 =>
 m R (o_load 34 x12) w89 fun x142 w90 =>
 m R (o_call (fv 50) [x140, x2, x142, x28]) w90 fun x144 w91 =>
 m R (o_extract x144 0) w91 fun x145 w92 =>
 m R (o_extract x144 1) w92 fun x146 w93 =>
 m R (o_fieldAddr 56 x31 0) w93 fun x147 w94 =>
 m R (o_store 25 x147 x145) w94 fun _ w95 =>
 ∃ S : Rl,
 dp Tryz.prog (o_fieldAddr 56 x31 0) fun x148 =>
 dqS Tryz.prog S w95 (o_load 25 x148) fun x149 =>
 dp Tryz.prog (o_fieldAddr 56 x31 3) fun x150 =>
 dqS Tryz.prog S w95 (o_load 26 x150) fun x151 =>
 dfS Tryz.prog S w95 (o_builtin .append #[26, 26] 26 [false, false] [x151, x8]) true fun x153 w96 =>
 dfS Tryz.prog S w96 (o_call (fv 8) [x149, x153]) false fun x154 w97 =>
 dp Tryz.prog (o_fieldAddr 56 x31 3) fun x155 =>
 dfS Tryz.prog S w97 (o_store 26 x155 x154) false fun _ w98 =>
 dend w98 fun w99 =>
 m R (o_builtin .len #[53] 3 [false] [x4]) w99 fun x157 w100 =>
 ml1 (.int .i64 0) w100 fun x158 u34 w101 next34 =>
 m R (o_bin .lss 3 false x158 x157) w101 fun x159 w102 =>
 mif x159 (
 m R (o_indexAddr 53 x4 x158) w102 fun x160 w103 =>
 m R (o_load 72 x160) w103 fun x161 w104 =>
 m R (o_alloc 72) w104 fun x34 w105 =>
 m R (o_store 72 x34 x161) w105 fun _ w106 =>
 dp Tryz.prog (o_fieldAddr 56 x31 1) fun x162 =>
 dq Tryz.prog w106 (o_load 53 x162) fun x163 =>
 dp Tryz.prog (o_fieldAddr 72 x34 0) fun x164 =>
 dq Tryz.prog w106 (o_load 34 x164) fun x165 =>
 dp Tryz.prog (o_fieldAddr 72 x34 1) fun x166 =>
 dq Tryz.prog w106 (o_load 70 x166) fun x167 =>
 df Tryz.prog w106 (o_call (fv 62) [x167]) true fun x168 w107 =>
 dp Tryz.prog (o_build 72 [(0, x165), (1, x168)]) fun x169 =>
 df Tryz.prog w107 (o_buildSlice 53 1 [(0, x169)]) true fun x170 w108 =>
 df Tryz.prog w108 (o_builtin .append #[53, 53] 53 [false, false] [x163, x170]) false fun x171 w109 =>
 dp Tryz.prog (o_fieldAddr 56 x31 1) fun x172 =>
 df Tryz.prog w109 (o_store 53 x172 x171) false fun _ w110 =>
 dend w110 fun w111 =>
 m R (o_bin .add 3 true x158 (.int .i64 1)) w111 fun x173 w112 =>
 next34 x173 w112) (
 m R (o_load 56 x31) w102 fun x174 w113 =>
 m R (o_store 56 x18 x174) w113 fun _ w114 =>
 rcell Tryz.prog 56 x18 w114 fun r18 =>
 R (.returned (.tuple #[r18, (.int .i64 0)])) w114)))))))))
def A_climb_Follow : Ann := ⟨[(13, [74], 1237921149819448796343959552), (24, [28, 114], 21246878745124514655946790980510810112), (34, [158], 23944877450620180686119621378015401923287901980852224)], [(4, [40], 561850441793536), (20, [26, 27], 324508650138112443740957028909056), (29, [31, 32], 87091018283827687992657438589574619070464)], [(32, [⟨0, .q none, 2147483648, 0, 356811923176489970264571492362373784095686656⟩, ⟨1, .q (some 0), 356811923176489970264571492362373784095686656, 1, 713623846352979940529142984724747568191373312⟩, ⟨2, .q none, 2147483648, 0, 1427247692705959881058285969449495136382746624⟩, ⟨3, .q (some 0), 1427247692705959881058285969449495136382746624, 4, 2854495385411919762116571938898990272765493248⟩, ⟨4, .q none, 256, 0, 5708990770823839524233143877797980545530986496⟩, ⟨5, .f 0 true, 8563486156235759286349715816696970818296479744, 28, 11417981541647679048466287755595961091061972992⟩, ⟨6, .f 1 false, 12131605388000658988995430740320708659253346304, 63, 22835963083295358096932575511191922182123945984⟩, ⟨7, .q none, 2147483648, 127, 45671926166590716193865151022383844364247891968⟩, ⟨8, .f 2 false, 68507889249886074290797726533575766546371837952, 255, 0⟩]), (36, [⟨0, .q none, 2147483648, 0, 5846006549323611672814739330865132078623730171904⟩, ⟨1, .q (some 0), 5846006549323611672814739330865132078623730171904, 1, 11692013098647223345629478661730264157247460343808⟩, ⟨2, .q none, 17179869184, 0, 23384026197294446691258957323460528314494920687616⟩, ⟨3, .q (some 0), 23384026197294446691258957323460528314494920687616, 4, 46768052394588893382517914646921056628989841375232⟩, ⟨4, .q none, 17179869184, 0, 93536104789177786765035829293842113257979682750464⟩, ⟨5, .q (some 0), 93536104789177786765035829293842113257979682750464, 16, 187072209578355573530071658587684226515959365500928⟩, ⟨6, .f 0 true, 187072209578355573530071658587684226515959365500928, 48, 374144419156711147060143317175368453031918731001856⟩, ⟨7, .q none, 420912471551300040442661231822289509660908572377088, 124, 748288838313422294120286634350736906063837462003712⟩, ⟨8, .f 1 true, 748288838313422294120286634350736906063837462003712, 252, 1496577676626844588240573268701473812127674924007424⟩, ⟨9, .f 2 false, 1508269689725491811586202747363204076284922384351232, 511, 2993155353253689176481146537402947624255349848014848⟩, ⟨10, .q none, 2147483648, 1023, 5986310706507378352962293074805895248510699696029696⟩, ⟨11, .f 3 false, 8979466059761067529443439612208842872766049544044544, 2047, 0⟩])], [(19, [⟨[0, 1, 2, 3, 4, 5, 6, 7, 8, 9, 10, 11, 12, 13, 14, 15, 16, 17], [⟨0, .q none, 4194304, 0, 19807040628566084398385987584⟩, ⟨1, .q none, 33554432, 0, 39614081257132168796771975168⟩, ⟨2, .q none, 59421121885698253195157962752, 3, 79228162514264337593543950336⟩, ⟨3, .q (some 0), 79228162514264337593543950336, 7, 158456325028528675187087900672⟩, ⟨4, .q none, 16, 0, 316912650057057350374175801344⟩, ⟨5, .q none, 33554432, 0, 633825300114114700748351602688⟩, ⟨6, .q none, 950737950171172051122527404032, 48, 1267650600228229401496703205376⟩, ⟨7, .q none, 1267650600228229401496703205376, 112, 2535301200456458802993406410752⟩, ⟨8, .q (some 0), 2535301200456458802993406410752, 240, 5070602400912917605986812821504⟩, ⟨9, .q none, 32, 0, 10141204801825835211973625643008⟩, ⟨10, .q none, 256, 0, 20282409603651670423947251286016⟩, ⟨11, .f 0 false, 35652673131418951917094777651200, 2047, 40564819207303340847894502572032⟩, ⟨12, .q none, 40564819207303340847894502572032, 4095, 9903520314283042199192993792⟩, ⟨13, .q none, 9903520314283042199192993792, 8191, 81129638414606681695789005144064⟩, ⟨14, .q none, 9903520314283042199192993792, 8191, 162259276829213363391578010288128⟩, ⟨15, .f 1 true, 0, 0, 67108864⟩, ⟨16, .f 2 false, 81129638414606681695789072252928, 49151, 0⟩, ⟨17, .q none, 162259276829213363391578010288128, 131071, 134217728⟩]⟩, ⟨[0, 1, 2, 3, 4, 5, 6, 7, 8, 9, 10, 15, 11, 12, 13, 14, 16, 17], [⟨0, .q none, 4194304, 0, 19807040628566084398385987584⟩, ⟨1, .q none, 33554432, 0, 39614081257132168796771975168⟩, ⟨2, .q none, 59421121885698253195157962752, 3, 79228162514264337593543950336⟩, ⟨3, .q (some 0), 79228162514264337593543950336, 7, 158456325028528675187087900672⟩, ⟨4, .q none, 16, 0, 316912650057057350374175801344⟩, ⟨5, .q none, 33554432, 0, 633825300114114700748351602688⟩, ⟨6, .q none, 950737950171172051122527404032, 48, 1267650600228229401496703205376⟩, ⟨7, .q none, 1267650600228229401496703205376, 112, 2535301200456458802993406410752⟩, ⟨8, .q (some 0), 2535301200456458802993406410752, 240, 5070602400912917605986812821504⟩, ⟨9, .q none, 32, 0, 10141204801825835211973625643008⟩, ⟨10, .q none, 256, 0, 20282409603651670423947251286016⟩, ⟨11, .f 1 false, 35652673131418951917094777651200, 2047, 40564819207303340847894502572032⟩, ⟨12, .q none, 40564819207303340847894502572032, 4095, 9903520314283042199192993792⟩, ⟨13, .q none, 9903520314283042199192993792, 8191, 81129638414606681695789005144064⟩, ⟨14, .q none, 9903520314283042199192993792, 8191, 162259276829213363391578010288128⟩, ⟨15, .f 0 true, 0, 0, 67108864⟩, ⟨16, .f 2 false, 81129638414606681695789072252928, 49151, 0⟩, ⟨17, .q none, 162259276829213363391578010288128, 131071, 134217728⟩]⟩]), (28, [⟨[0, 1, 2, 3, 4, 5, 6, 7, 8, 9, 10, 11, 12, 13, 14], [⟨0, .q none, 1, 0, 42535295865117307932921825928971026432⟩, ⟨1, .q none, 2097152, 0, 85070591730234615865843651857942052864⟩, ⟨2, .q none, 33554432, 0, 170141183460469231731687303715884105728⟩, ⟨3, .q none, 255211775190703847597530955573826158592, 6, 340282366920938463463374607431768211456⟩, ⟨4, .q (some 0), 67108864, 0, 680564733841876926926749214863536422912⟩, ⟨5, .q none, 268435456, 0, 1361129467683753853853498429727072845824⟩, ⟨6, .q none, 33554432, 0, 2722258935367507707706996859454145691648⟩, ⟨7, .q none, 4083388403051261561560495289181218537472, 96, 5444517870735015415413993718908291383296⟩, ⟨8, .f 0 false, 6507900267362948113737039367132567044096, 255, 10889035741470030830827987437816582766592⟩, ⟨9, .q none, 10889035741470030830827987437816582766592, 511, 21267647932558653966460912964485513216⟩, ⟨10, .q none, 21267647932558653966460912964485513216, 1023, 21778071482940061661655974875633165533184⟩, ⟨11, .q none, 21267647932558653966460912964485513216, 1023, 43556142965880123323311949751266331066368⟩, ⟨12, .f 1 true, 0, 0, 2147483648⟩, ⟨13, .f 2 false, 21778071482940061661655974875635313016832, 6143, 0⟩, ⟨14, .q none, 43556142965880123323311949751266331066368, 16383, 4294967296⟩]⟩, ⟨[0, 1, 2, 3, 4, 5, 6, 7, 12, 8, 9, 10, 11, 13, 14], [⟨0, .q none, 1, 0, 42535295865117307932921825928971026432⟩, ⟨1, .q none, 2097152, 0, 85070591730234615865843651857942052864⟩, ⟨2, .q none, 33554432, 0, 170141183460469231731687303715884105728⟩, ⟨3, .q none, 255211775190703847597530955573826158592, 6, 340282366920938463463374607431768211456⟩, ⟨4, .q (some 0), 67108864, 0, 680564733841876926926749214863536422912⟩, ⟨5, .q none, 268435456, 0, 1361129467683753853853498429727072845824⟩, ⟨6, .q none, 33554432, 0, 2722258935367507707706996859454145691648⟩, ⟨7, .q none, 4083388403051261561560495289181218537472, 96, 5444517870735015415413993718908291383296⟩, ⟨8, .f 1 false, 6507900267362948113737039367132567044096, 255, 10889035741470030830827987437816582766592⟩, ⟨9, .q none, 10889035741470030830827987437816582766592, 511, 21267647932558653966460912964485513216⟩, ⟨10, .q none, 21267647932558653966460912964485513216, 1023, 21778071482940061661655974875633165533184⟩, ⟨11, .q none, 21267647932558653966460912964485513216, 1023, 43556142965880123323311949751266331066368⟩, ⟨12, .f 0 true, 0, 0, 2147483648⟩, ⟨13, .f 2 false, 21778071482940061661655974875635313016832, 6143, 0⟩, ⟨14, .q none, 43556142965880123323311949751266331066368, 16383, 4294967296⟩]⟩])], [32]⟩
theorem C_climb_Follow {x0 x1 x2 x3 x4 x5 x6 x7 x8 : Value} {w : World} {R : Ending → World → Prop} (h : F_climb_Follow x0 x1 x2 x3 x4 x5 x6 x7 x8 w R) : Calls Tryz.prog 20 #[x0, x1, x2, x3, x4, x5, x6, x7, x8] w R :=
 calls_cwp (A := A_climb_Follow) (args := [x0, x1, x2, x3, x4, x5, x6, x7, x8]) mixed Tryz.func20 (c := Tryz.f20.body.getD .skip) (by kernel_rfl) (by kernel_rfl) (by kernel_rfl) (Eq.mpr (by kernel_rfl) h)
def F_bevyref08_Same (x0 x1 : Value) (w : World) (R : Ending → World → Prop) : Prop :=
 m R (o_box 25 x0) w fun x2 w1 =>
 m R (o_box 25 x1) w1 fun x3 w2 =>
 mj1 (fun j2 =>
 m R (o_fieldAddr 25 x2 0) w2 fun x9 w3 =>
 m R (o_load 22 x9) w3 fun x10 w4 =>
 m R (o_builtin .len #[22] 3 [false] [x10]) w4 fun x11 w5 =>
 m R (o_fieldAddr 25 x3 0) w5 fun x12 w6 =>
 m R (o_load 22 x12) w6 fun x13 w7 =>
 m R (o_builtin .len #[22] 3 [false] [x13]) w7 fun x14 w8 =>
 m R (o_bin .neq 3 false x11 x14) w8 fun x15 w9 =>
 mguard x15 false (fun k => m R (o_fieldAddr 25 x2 1) w9 k) w9 fun x17 w10 =>
 mguard x15 false (fun k => m R (o_load 23 x17) w10 k) w10 fun x18 w11 =>
 mguard x15 false (fun k => m R (o_builtin .len #[23] 3 [false] [x18]) w11 k) w11 fun x19 w12 =>
 mguard x15 false (fun k => m R (o_fieldAddr 25 x3 1) w12 k) w12 fun x20 w13 =>
 mguard x15 false (fun k => m R (o_load 23 x20) w13 k) w13 fun x21 w14 =>
 mguard x15 false (fun k => m R (o_builtin .len #[23] 3 [false] [x21]) w14 k) w14 fun x22 w15 =>
 mguard x15 false (fun k => m R (o_bin .neq 3 false x19 x22) w15 k) w15 fun x23 w16 =>
 m R (o_pick x15 (.bool true) x23) w16 fun x24 w17 =>
 j2 x24 w17) fun x24 u2 w18 =>
 mif x24 (
 R (.returned (.bool false)) w18) (
 ml1 (.int .i64 0) w18 fun x5 u4 w19 next4 =>
 m R (o_fieldAddr 25 x2 0) w19 fun x26 w20 =>
 m R (o_load 22 x26) w20 fun x27 w21 =>
 m R (o_builtin .len #[22] 3 [false] [x27]) w21 fun x28 w22 =>
 m R (o_bin .lss 3 false x5 x28) w22 fun x29 w23 =>
 mif x29 (
 dp Tryz.prog (o_fieldAddr 25 x2 0) fun x32 =>
 dq Tryz.prog w23 (o_load 22 x32) fun x33 =>
 dp Tryz.prog (o_indexAddr 22 x33 x5) fun x35 =>
 dq Tryz.prog w23 (o_load 40 x35) fun x36 =>
 dp Tryz.prog (o_fieldAddr 25 x3 0) fun x37 =>
 dq Tryz.prog w23 (o_load 22 x37) fun x38 =>
 dp Tryz.prog (o_indexAddr 22 x38 x5) fun x40 =>
 dq Tryz.prog w23 (o_load 40 x40) fun x41 =>
 dp Tryz.prog (o_bin .neq 40 false x36 x41) fun x42 =>
 dend w23 fun w24 =>
 mif x42 (
 R (.returned (.bool false)) w24) (
 m R (o_bin .add 3 true x5 (.int .i64 1)) w24 fun x31 w25 =>
 next4 x31 w25)) (
 ml1 (.int .i64 0) w23 fun x6 u9 w26 next9 =>
 m R (o_fieldAddr 25 x2 1) w26 fun x44 w27 =>
 m R (o_load 23 x44) w27 fun x45 w28 =>
 m R (o_builtin .len #[23] 3 [false] [x45]) w28 fun x46 w29 =>
 m R (o_bin .lss 3 false x6 x46) w29 fun x47 w30 =>
 mif x47 (
 m R (o_fieldAddr 25 x2 1) w30 fun x50 w31 =>
 m R (o_load 23 x50) w31 fun x51 w32 =>
 m R (o_indexAddr 23 x51 x6) w32 fun x53 w33 =>
 m R (o_load 69 x53) w33 fun x54 w34 =>
 m R (o_alloc 69) w34 fun x7 w35 =>
 m R (o_store 69 x7 x54) w35 fun _ w36 =>
 m R (o_fieldAddr 25 x3 1) w36 fun x55 w37 =>
 m R (o_load 23 x55) w37 fun x56 w38 =>
 m R (o_indexAddr 23 x56 x6) w38 fun x58 w39 =>
 m R (o_load 69 x58) w39 fun x59 w40 =>
 m R (o_alloc 69) w40 fun x8 w41 =>
 m R (o_store 69 x8 x59) w41 fun _ w42 =>
 mj1 (fun j14 =>
 m R (o_fieldAddr 69 x7 0) w42 fun x60 w43 =>
 m R (o_load 4 x60) w43 fun x61 w44 =>
 m R (o_fieldAddr 69 x8 0) w44 fun x62 w45 =>
 m R (o_load 4 x62) w45 fun x63 w46 =>
 m R (o_bin .neq 4 false x61 x63) w46 fun x64 w47 =>
 mguard x64 false (fun k => m R (o_fieldAddr 69 x7 1) w47 k) w47 fun x66 w48 =>
 mguard x64 false (fun k => m R (o_load 34 x66) w48 k) w48 fun x67 w49 =>
 mguard x64 false (fun k => m R (o_fieldAddr 69 x8 1) w49 k) w49 fun x68 w50 =>
 mguard x64 false (fun k => m R (o_load 34 x68) w50 k) w50 fun x69 w51 =>
 mguard x64 false (fun k => m R (o_bin .neq 34 false x67 x69) w51 k) w51 fun x70 w52 =>
 m R (o_pick x64 (.bool true) x70) w52 fun x71 w53 =>
 mguard x71 false (fun k => m R (o_fieldAddr 69 x7 2) w53 k) w53 fun x73 w54 =>
 mguard x71 false (fun k => m R (o_load 34 x73) w54 k) w54 fun x74 w55 =>
 mguard x71 false (fun k => m R (o_fieldAddr 69 x8 2) w55 k) w55 fun x75 w56 =>
 mguard x71 false (fun k => m R (o_load 34 x75) w56 k) w56 fun x76 w57 =>
 mguard x71 false (fun k => m R (o_bin .neq 34 false x74 x76) w57 k) w57 fun x77 w58 =>
 m R (o_pick x71 (.bool true) x77) w58 fun x78 w59 =>
 mguard x78 false (fun k => m R (o_fieldAddr 69 x7 3) w59 k) w59 fun x80 w60 =>
 mguard x78 false (fun k => m R (o_load 47 x80) w60 k) w60 fun x81 w61 =>
 mguard x78 false (fun k => m R (o_fieldAddr 69 x8 3) w61 k) w61 fun x82 w62 =>
 mguard x78 false (fun k => m R (o_load 47 x82) w62 k) w62 fun x83 w63 =>
 mguard x78 false (fun k => m R (o_call (fv 63) [x81, x83]) w63 k) w63 fun x84 w64 =>
 mguard x78 false (fun k => m R (o_un .not x84) w64 k) w64 fun x85 w65 =>
 m R (o_pick x78 (.bool true) x85) w65 fun x86 w66 =>
 j14 x86 w66) fun x86 u14 w67 =>
 mif x86 (
 R (.returned (.bool false)) w67) (
 m R (o_bin .add 3 true x6 (.int .i64 1)) w67 fun x49 w68 =>
 next9 x49 w68)) (
 R (.returned (.bool true)) w30)))
def A_bevyref08_Same : Ann := ⟨[(4, [5], 8796059467824), (9, [6], 154742504910663738269368784)], [(2, [24], 33553920), (14, [86], 154742503757751029755543552)], [(6, [⟨0, .q none, 4, 0, 4294967296⟩, ⟨1, .q (some 0), 4294967296, 1, 8589934592⟩, ⟨2, .q none, 32, 0, 17179869184⟩, ⟨3, .q none, 25769803776, 7, 34359738368⟩, ⟨4, .q (some 0), 34359738368, 15, 68719476736⟩, ⟨5, .q none, 8, 0, 137438953472⟩, ⟨6, .q (some 0), 137438953472, 32, 274877906944⟩, ⟨7, .q none, 32, 0, 549755813888⟩, ⟨8, .q none, 824633720832, 224, 1099511627776⟩, ⟨9, .q (some 0), 1099511627776, 480, 2199023255552⟩, ⟨10, .q none, 2267742732288, 1023, 4398046511104⟩])], [], []⟩
theorem C_bevyref08_Same {x0 x1 : Value} {w : World} {R : Ending → World → Prop} (h : F_bevyref08_Same x0 x1 w R) : Calls Tryz.prog 21 #[x0, x1] w R :=
 calls_cwp (A := A_bevyref08_Same) (args := [x0, x1]) mixed Tryz.func21 (c := Tryz.f21.body.getD .skip) (by kernel_rfl) (by kernel_rfl) (by kernel_rfl) (Eq.mpr (by kernel_rfl) h)
def F_bevyref05_Pub (x0 : Value) (w : World) (R : Ending → World → Prop) : Prop :=
 m R (o_box 33 x0) w fun x1 w1 =>
 m R (o_alloc 33) w1 fun x2 w2 =>
 m R (o_load 33 x1) w2 fun x3 w3 =>
 m R (o_call (fv 65) [x3]) w3 fun x4 w4 =>
 m R (o_bin .add 9 true (.string (ByteArray.mk #[112, 117, 98])) x4) w4 fun x5 w5 =>
 m R (o_call (fv 64) [x5]) w5 fun x6 w6 =>
 m R (o_store 33 x2 x6) w6 fun _ w7 =>
 rcell Tryz.prog 33 x2 w7 fun r2 =>
 R (.returned r2) w7
def A_bevyref05_Pub : Ann := ⟨[], [], [], [], []⟩
theorem C_bevyref05_Pub {x0 : Value} {w : World} {R : Ending → World → Prop} (h : F_bevyref05_Pub x0 w R) : Calls Tryz.prog 23 #[x0] w R :=
 calls_cwp (A := A_bevyref05_Pub) (args := [x0]) mixed Tryz.func23 (c := Tryz.f23.body.getD .skip) (by kernel_rfl) (by kernel_rfl) (by kernel_rfl) (Eq.mpr (by kernel_rfl) h)
def F_tree_Right (x0 : Value) (w : World) (R : Ending → World → Prop) : Prop :=
 m R (o_box 25 x0) w fun x1 w1 =>
 m R (o_fieldAddr 25 x1 0) w1 fun x11 w2 =>
 m R (o_load 22 x11) w2 fun x12 w3 =>
 m R (o_builtin .len #[22] 3 [false] [x12]) w3 fun x13 w4 =>
 mj1 (fun j3 =>
 m R (o_bin .gtr 3 true x13 (.int .i64 64)) w4 fun x15 w5 =>
 mguard x15 false (fun k => m R (o_fieldAddr 25 x1 1) w5 k) w5 fun x17 w6 =>
 mguard x15 false (fun k => m R (o_load 23 x17) w6 k) w6 fun x18 w7 =>
 mguard x15 false (fun k => m R (o_builtin .len #[23] 3 [false] [x18]) w7 k) w7 fun x19 w8 =>
 mguard x15 false (fun k => m R (o_move x13) w8 k) w8 fun x20 w9 =>
 mguard x15 false (fun k => m R (o_bin .sub 3 true x20 (.int .i64 1)) w9 k) w9 fun x21 w10 =>
 mguard x15 false (fun k => m R (o_builtin .max #[3, 3] 3 [false, true] [x21, (.int .i64 0)]) w10 k) w10 fun x22 w11 =>
 mguard x15 false (fun k => m R (o_bin .neq 3 false x19 x22) w11 k) w11 fun x23 w12 =>
 m R (o_pick x15 (.bool true) x23) w12 fun x24 w13 =>
 j3 x24 w13) fun x24 u3 w14 =>
 mif x24 (
 R (.returned (.bool false)) w14) (
 m R (o_alloc 116) w14 fun x4 w15 =>
 m R (o_fieldAddr 25 x1 0) w15 fun x25 w16 =>
 m R (o_load 22 x25) w16 fun x26 w17 =>
 m R (o_builtin .len #[22] 3 [false] [x26]) w17 fun x27 w18 =>
 ml1 (.int .i64 0) w18 fun x28 u6 w19 next6 =>
 m R (o_bin .lss 3 false x28 x27) w19 fun x29 w20 =>
 mif x29 (
 mj0 (fun j12 =>
 m R (o_indexAddr 22 x26 x28) w20 fun x30 w21 =>
 m R (o_load 40 x30) w21 fun x31 w22 =>
 m R (o_alloc 40) w22 fun x6 w23 =>
 m R (o_store 40 x6 x31) w23 fun _ w24 =>
 m R (o_load 40 x6) w24 fun x33 w25 =>
 m R (o_build 40 []) w25 fun x34 w26 =>
 m R (o_bin .eql 40 false x33 x34) w26 fun x35 w27 =>
 mif x35 (
 j12 w27) (
 mj1 (fun j10 =>
 m R (o_fieldAddr 40 x6 0) w27 fun x37 w28 =>
 m R (o_load 3 x37) w28 fun x38 w29 =>
 m R (o_bin .lss 3 true x38 (.int .i64 1)) w29 fun x39 w30 =>
 mguard x39 false (fun k => m R (o_fieldAddr 40 x6 0) w30 k) w30 fun x41 w31 =>
 mguard x39 false (fun k => m R (o_load 3 x41) w31 k) w31 fun x42 w32 =>
 mguard x39 false (fun k => m R (o_bin .gtr 3 true x42 (.int .i64 64)) w32 k) w32 fun x43 w33 =>
 m R (o_pick x39 (.bool true) x43) w33 fun x44 w34 =>
 mguard x44 false (fun k => m R (o_fieldAddr 40 x6 0) w34 k) w34 fun x46 w35 =>
 mguard x44 false (fun k => m R (o_load 3 x46) w35 k) w35 fun x47 w36 =>
 mguard x44 false (fun k => m R (o_indexAddr 116 x4 x47) w36 k) w36 fun x48 w37 =>
 mguard x44 false (fun k => m R (o_load 4 x48) w37 k) w37 fun x49 w38 =>
 m R (o_pick x44 (.bool true) x49) w38 fun x50 w39 =>
 j10 x50 w39) fun x36 u10 w40 =>
 mif x36 (
 R (.returned (.bool false)) w40) (
 m R (o_fieldAddr 40 x6 0) w40 fun x51 w41 =>
 m R (o_load 3 x51) w41 fun x52 w42 =>
 m R (o_indexAddr 116 x4 x52) w42 fun x53 w43 =>
 m R (o_store 4 x53 (.bool true)) w43 fun _ w44 =>
 j12 w44))) fun u12 w45 =>
 m R (o_bin .add 3 true x28 (.int .i64 1)) w45 fun x54 w46 =>
 next6 x54 w46) (
 m R (o_fieldAddr 25 x1 1) w20 fun x55 w47 =>
 m R (o_load 23 x55) w47 fun x56 w48 =>
 m R (o_builtin .len #[23] 3 [false] [x56]) w48 fun x57 w49 =>
 ml1 (.int .i64 0) w49 fun x58 u14 w50 next14 =>
 m R (o_bin .lss 3 false x58 x57) w50 fun x59 w51 =>
 mif x59 (
 m R (o_indexAddr 23 x56 x58) w51 fun x61 w52 =>
 m R (o_load 69 x61) w52 fun x62 w53 =>
 m R (o_alloc 69) w53 fun x8 w54 =>
 m R (o_store 69 x8 x62) w54 fun _ w55 =>
 mj1 (fun j17 =>
 m R (o_fieldAddr 69 x8 0) w55 fun x63 w56 =>
 m R (o_load 4 x63) w56 fun x64 w57 =>
 m R (o_un .not x64) w57 fun x65 w58 =>
 mguard x65 true (fun k => m R (o_load 69 x8) w58 k) w58 fun x67 w59 =>
 mguard x65 true (fun k => m R (o_call (fv 66) [x67]) w59 k) w59 fun x68 w60 =>
 mguard x65 true (fun k => m R (o_un .not x68) w60 k) w60 fun x69 w61 =>
 m R (o_pick x65 x69 (.bool false)) w61 fun x70 w62 =>
 j17 x70 w62) fun x70 u17 w63 =>
 mif x70 (
 R (.returned (.bool false)) w63) (
 m R (o_fieldAddr 69 x8 3) w63 fun x71 w64 =>
 m R (o_load 47 x71) w64 fun x72 w65 =>
 m R (o_builtin .len #[47] 3 [false] [x72]) w65 fun x73 w66 =>
 ml1 (.int .i64 0) w66 fun x74 u19 w67 next19 =>
 m R (o_bin .lss 3 false x74 x73) w67 fun x75 w68 =>
 mif x75 (
 m R (o_indexAddr 47 x72 x74) w68 fun x77 w69 =>
 m R (o_load 3 x77) w69 fun x78 w70 =>
 mj1 (fun j22 =>
 m R (o_bin .mul 3 true (.int .i64 2) x58) w70 fun x81 w71 =>
 m R (o_bin .add 3 true x81 (.int .i64 1)) w71 fun x82 w72 =>
 m R (o_call (fv 60) [x13, x82, x78]) w72 fun x84 w73 =>
 m R (o_un .not x84) w73 fun x85 w74 =>
 mguard x85 false (fun k => m R (o_fieldAddr 25 x1 0) w74 k) w74 fun x87 w75 =>
 mguard x85 false (fun k => m R (o_load 22 x87) w75 k) w75 fun x88 w76 =>
 mguard x85 false (fun k => m R (o_move x78) w76 k) w76 fun x89 w77 =>
 mguard x85 false (fun k => m R (o_indexAddr 22 x88 x89) w77 k) w77 fun x90 w78 =>
 mguard x85 false (fun k => m R (o_fieldAddr 40 x90 0) w78 k) w78 fun x91 w79 =>
 mguard x85 false (fun k => m R (o_load 3 x91) w79 k) w79 fun x92 w80 =>
 mguard x85 false (fun k => m R (o_bin .eql 3 true x92 (.int .i64 0)) w80 k) w80 fun x93 w81 =>
 m R (o_pick x85 (.bool true) x93) w81 fun x94 w82 =>
 mguard x94 false (fun k => m R (o_move x74) w82 k) w82 fun x96 w83 =>
 mguard x94 false (fun k => m R (o_bin .gtr 3 true x96 (.int .i64 0)) w83 k) w83 fun x97 w84 =>
 mguard x94 false (fun k => m R (o_move x97) w84 k) w84 fun x98 w85 =>
 mguard x98 true (fun k => m R (o_move x78) w85 k) w85 fun x99 w86 =>
 mguard x98 true (fun k => m R (o_fieldAddr 69 x8 3) w86 k) w86 fun x100 w87 =>
 mguard x98 true (fun k => m R (o_load 47 x100) w87 k) w87 fun x101 w88 =>
 mguard x98 true (fun k => m R (o_move x74) w88 k) w88 fun x102 w89 =>
 mguard x98 true (fun k => m R (o_bin .sub 3 true x102 (.int .i64 1)) w89 k) w89 fun x103 w90 =>
 mguard x98 true (fun k => m R (o_indexAddr 47 x101 x103) w90 k) w90 fun x104 w91 =>
 mguard x98 true (fun k => m R (o_load 3 x104) w91 k) w91 fun x105 w92 =>
 mguard x98 true (fun k => m R (o_bin .leq 3 false x99 x105) w92 k) w92 fun x106 w93 =>
 mguard x94 false (fun k => m R (o_pick x98 x106 (.bool false)) w93 k) w93 fun x107 w94 =>
 m R (o_pick x94 (.bool true) x107) w94 fun x108 w95 =>
 j22 x108 w95) fun x108 u22 w96 =>
 mif x108 (
 R (.returned (.bool false)) w96) (
 m R (o_bin .add 3 true x74 (.int .i64 1)) w96 fun x109 w97 =>
 next19 x109 w97)) (
 m R (o_bin .add 3 true x58 (.int .i64 1)) w68 fun x110 w98 =>
 next14 x110 w98))) (
 m R (o_bin .eql 3 true x13 (.int .i64 0)) w51 fun x112 w99 =>
 mguard x112 false (fun k => m R (o_fieldAddr 25 x1 0) w99 k) w99 fun x114 w100 =>
 mguard x112 false (fun k => m R (o_load 22 x114) w100 k) w100 fun x115 w101 =>
 mguard x112 false (fun k => m R (o_move x13) w101 k) w101 fun x116 w102 =>
 mguard x112 false (fun k => m R (o_bin .sub 3 true x116 (.int .i64 1)) w102 k) w102 fun x117 w103 =>
 mguard x112 false (fun k => m R (o_indexAddr 22 x115 x117) w103 k) w103 fun x118 w104 =>
 mguard x112 false (fun k => m R (o_fieldAddr 40 x118 0) w104 k) w104 fun x119 w105 =>
 mguard x112 false (fun k => m R (o_load 3 x119) w105 k) w105 fun x120 w106 =>
 mguard x112 false (fun k => m R (o_bin .gtr 3 true x120 (.int .i64 0)) w106 k) w106 fun x121 w107 =>
 m R (o_pick x112 (.bool true) x121) w107 fun x122 w108 =>
 R (.returned x122) w108)))
def A_tree_Right : Ann := ⟨[(6, [28], 36028796750528580), (14, [58], 2596148429267413526034872012900228), (19, [74], 1298074214614817441201145501451780)], [(3, [24], 33538048), (12, [], 18014397435740228), (10, [36], 2251731094208512), (17, [70], 2351959869397967831040), (22, [108], 649037106712390543758997453799424)], [], [], []⟩
theorem C_tree_Right {x0 : Value} {w : World} {R : Ending → World → Prop} (h : F_tree_Right x0 w R) : Calls Tryz.prog 24 #[x0] w R :=
 calls_cwp (A := A_tree_Right) (args := [x0]) mixed Tryz.func24 (c := Tryz.f24.body.getD .skip) (by kernel_rfl) (by kernel_rfl) (by kernel_rfl) (Eq.mpr (by kernel_rfl) h)
def F_climb_pub (x0 x1 : Value) (w : World) (R : Ending → World → Prop) : Prop :=
 m R (o_box 25 x0) w fun x2 w1 =>
 m R (o_alloc 34) w1 fun x4 w2 =>
 m R (o_bin .rem 3 true x1 (.int .i64 2)) w2 fun x7 w3 =>
 m R (o_bin .eql 3 true x7 (.int .i64 0)) w3 fun x8 w4 =>
 mif x8 (
 ∃ S : Rl,
 dp Tryz.prog (o_fieldAddr 25 x2 0) fun x9 =>
 dqS Tryz.prog S w4 (o_load 22 x9) fun x10 =>
 dp Tryz.prog (o_bin .quo 3 true x1 (.int .i64 2)) fun x12 =>
 dp Tryz.prog (o_indexAddr 22 x10 x12) fun x13 =>
 dp Tryz.prog (o_fieldAddr 40 x13 1) fun x14 =>
 dqS Tryz.prog S w4 (o_load 34 x14) fun x15 =>
 dp Tryz.prog (o_fieldAddr 25 x2 0) fun x16 =>
 dqS Tryz.prog S w4 (o_load 22 x16) fun x17 =>
 dp Tryz.prog (o_bin .quo 3 true x1 (.int .i64 2)) fun x19 =>
 dp Tryz.prog (o_indexAddr 22 x17 x19) fun x20 =>
 dp Tryz.prog (o_fieldAddr 40 x20 0) fun x21 =>
 dqS Tryz.prog S w4 (o_load 3 x21) fun x22 =>
 dp Tryz.prog (o_bin .gtr 3 true x22 (.int .i64 0)) fun x23 =>
 dfS Tryz.prog S w4 (o_store 34 x4 x15) true fun _ w5 =>
 dend w5 fun w6 =>
 rcell Tryz.prog 34 x4 w6 fun r4 =>
 R (.returned (.tuple #[r4, x23])) w6) (
 ∃ S : Rl,
 dp Tryz.prog (o_fieldAddr 25 x2 1) fun x24 =>
 dqS Tryz.prog S w4 (o_load 23 x24) fun x25 =>
 dp Tryz.prog (o_bin .quo 3 true x1 (.int .i64 2)) fun x27 =>
 dp Tryz.prog (o_indexAddr 23 x25 x27) fun x28 =>
 dp Tryz.prog (o_fieldAddr 69 x28 1) fun x29 =>
 dqS Tryz.prog S w4 (o_load 34 x29) fun x30 =>
 dp Tryz.prog (o_fieldAddr 25 x2 1) fun x31 =>
 dqS Tryz.prog S w4 (o_load 23 x31) fun x32 =>
 dp Tryz.prog (o_bin .quo 3 true x1 (.int .i64 2)) fun x34 =>
 dp Tryz.prog (o_indexAddr 23 x32 x34) fun x35 =>
 dp Tryz.prog (o_fieldAddr 69 x35 0) fun x36 =>
 dqS Tryz.prog S w4 (o_load 4 x36) fun x37 =>
 dfS Tryz.prog S w4 (o_store 34 x4 x30) true fun _ w7 =>
 dend w7 fun w8 =>
 rcell Tryz.prog 34 x4 w8 fun r4 =>
 R (.returned (.tuple #[r4, x37])) w8)
def A_climb_pub : Ann := ⟨[], [], [(2, [⟨0, .q none, 4, 0, 512⟩, ⟨1, .q (some 0), 512, 1, 1024⟩, ⟨2, .q none, 2, 0, 2048⟩, ⟨3, .q none, 2048, 4, 4096⟩, ⟨4, .q none, 5120, 15, 8192⟩, ⟨5, .q none, 8192, 31, 16384⟩, ⟨6, .q (some 0), 16384, 63, 32768⟩, ⟨7, .q none, 4, 0, 65536⟩, ⟨8, .q (some 0), 65536, 128, 131072⟩, ⟨9, .q none, 2, 0, 262144⟩, ⟨10, .q none, 262144, 512, 524288⟩, ⟨11, .q none, 655360, 1920, 1048576⟩, ⟨12, .q none, 1048576, 3968, 2097152⟩, ⟨13, .q (some 0), 2097152, 8064, 4194304⟩, ⟨14, .q none, 4194304, 16256, 8388608⟩, ⟨15, .f 0 true, 32784, 127, 0⟩, ⟨16, .q none, 8388608, 65535, 32⟩]), (3, [⟨0, .q none, 4, 0, 16777216⟩, ⟨1, .q (some 0), 16777216, 1, 33554432⟩, ⟨2, .q none, 2, 0, 67108864⟩, ⟨3, .q none, 67108864, 4, 134217728⟩, ⟨4, .q none, 167772160, 15, 268435456⟩, ⟨5, .q none, 268435456, 31, 536870912⟩, ⟨6, .q (some 0), 536870912, 63, 1073741824⟩, ⟨7, .q none, 4, 0, 2147483648⟩, ⟨8, .q (some 0), 2147483648, 128, 4294967296⟩, ⟨9, .q none, 2, 0, 8589934592⟩, ⟨10, .q none, 8589934592, 512, 17179869184⟩, ⟨11, .q none, 21474836480, 1920, 34359738368⟩, ⟨12, .q none, 34359738368, 3968, 68719476736⟩, ⟨13, .q (some 0), 68719476736, 8064, 137438953472⟩, ⟨14, .f 0 true, 1073741840, 127, 0⟩, ⟨15, .q none, 137438953472, 32767, 32⟩])], [], [2, 3]⟩
theorem C_climb_pub {x0 x1 : Value} {w : World} {R : Ending → World → Prop} (h : F_climb_pub x0 x1 w R) : Calls Tryz.prog 25 #[x0, x1] w R :=
 calls_cwp (A := A_climb_pub) (args := [x0, x1]) mixed Tryz.func25 (c := Tryz.f25.body.getD .skip) (by kernel_rfl) (by kernel_rfl) (by kernel_rfl) (Eq.mpr (by kernel_rfl) h)
def F_climb_sorted (x0 : Value) (w : World) (R : Ending → World → Prop) : Prop :=
 m R (o_call (fv 67) [x0]) w fun x5 w1 =>
 m R (o_call (fv 68) [x5, (fv 69)]) w1 fun x7 w2 =>
 m R (o_call (fv 70) [x5, (fv 71)]) w2 fun x9 w3 =>
 R (.returned x9) w3
def A_climb_sorted : Ann := ⟨[], [], [], [], []⟩
theorem C_climb_sorted {x0 : Value} {w : World} {R : Ending → World → Prop} (h : F_climb_sorted x0 w R) : Calls Tryz.prog 26 #[x0] w R :=
 calls_cwp (A := A_climb_sorted) (args := [x0]) mixed Tryz.func26 (c := Tryz.f26.body.getD .skip) (by kernel_rfl) (by kernel_rfl) (by kernel_rfl) (Eq.mpr (by kernel_rfl) h)
def F_bevyref08_Right (x0 : Value) (w : World) (R : Ending → World → Prop) : Prop :=
 m R (o_box 25 x0) w fun x1 w1 =>
 m R (o_fieldAddr 25 x1 0) w1 fun x11 w2 =>
 m R (o_load 22 x11) w2 fun x12 w3 =>
 m R (o_builtin .len #[22] 3 [false] [x12]) w3 fun x13 w4 =>
 mj1 (fun j3 =>
 m R (o_bin .gtr 3 true x13 (.int .i64 64)) w4 fun x15 w5 =>
 mguard x15 false (fun k => m R (o_move x13) w5 k) w5 fun x17 w6 =>
 mguard x15 false (fun k => m R (o_bin .gtr 3 true x17 (.int .i64 0)) w6 k) w6 fun x18 w7 =>
 mguard x15 false (fun k => m R (o_move x18) w7 k) w7 fun x19 w8 =>
 mguard x19 true (fun k => m R (o_fieldAddr 25 x1 1) w8 k) w8 fun x20 w9 =>
 mguard x19 true (fun k => m R (o_load 23 x20) w9 k) w9 fun x21 w10 =>
 mguard x19 true (fun k => m R (o_builtin .len #[23] 3 [false] [x21]) w10 k) w10 fun x22 w11 =>
 mguard x19 true (fun k => m R (o_move x13) w11 k) w11 fun x23 w12 =>
 mguard x19 true (fun k => m R (o_bin .sub 3 true x23 (.int .i64 1)) w12 k) w12 fun x24 w13 =>
 mguard x19 true (fun k => m R (o_bin .neq 3 false x22 x24) w13 k) w13 fun x25 w14 =>
 mguard x15 false (fun k => m R (o_pick x19 x25 (.bool false)) w14 k) w14 fun x26 w15 =>
 m R (o_pick x15 (.bool true) x26) w15 fun x27 w16 =>
 mguard x27 false (fun k => m R (o_move x13) w16 k) w16 fun x29 w17 =>
 mguard x27 false (fun k => m R (o_bin .eql 3 true x29 (.int .i64 0)) w17 k) w17 fun x30 w18 =>
 mguard x27 false (fun k => m R (o_move x30) w18 k) w18 fun x31 w19 =>
 mguard x31 true (fun k => m R (o_fieldAddr 25 x1 1) w19 k) w19 fun x32 w20 =>
 mguard x31 true (fun k => m R (o_load 23 x32) w20 k) w20 fun x33 w21 =>
 mguard x31 true (fun k => m R (o_builtin .len #[23] 3 [false] [x33]) w21 k) w21 fun x34 w22 =>
 mguard x31 true (fun k => m R (o_bin .gtr 3 true x34 (.int .i64 0)) w22 k) w22 fun x35 w23 =>
 mguard x27 false (fun k => m R (o_pick x31 x35 (.bool false)) w23 k) w23 fun x36 w24 =>
 m R (o_pick x27 (.bool true) x36) w24 fun x37 w25 =>
 j3 x37 w25) fun x37 u3 w26 =>
 mif x37 (
 R (.returned (.bool false)) w26) (
 ml1 (.int .i64 0) w26 fun x4 u5 w27 next5 =>
 m R (o_bin .lss 3 false x4 x13) w27 fun x40 w28 =>
 mif x40 (
 mj0 (fun j6 =>
 m R (o_fieldAddr 25 x1 0) w28 fun x43 w29 =>
 m R (o_load 22 x43) w29 fun x44 w30 =>
 m R (o_indexAddr 22 x44 x4) w30 fun x46 w31 =>
 m R (o_load 40 x46) w31 fun x47 w32 =>
 m R (o_alloc 40) w32 fun x5 w33 =>
 m R (o_store 40 x5 x47) w33 fun _ w34 =>
 m R (o_load 40 x5) w34 fun x48 w35 =>
 m R (o_build 40 []) w35 fun x49 w36 =>
 m R (o_bin .eql 40 false x48 x49) w36 fun x50 w37 =>
 mif x50 (
 j6 w37) (
 mj1 (fun j10 =>
 m R (o_fieldAddr 40 x5 0) w37 fun x51 w38 =>
 m R (o_load 3 x51) w38 fun x52 w39 =>
 m R (o_bin .lss 3 true x52 (.int .i64 1)) w39 fun x53 w40 =>
 mguard x53 false (fun k => m R (o_fieldAddr 40 x5 0) w40 k) w40 fun x55 w41 =>
 mguard x53 false (fun k => m R (o_load 3 x55) w41 k) w41 fun x56 w42 =>
 mguard x53 false (fun k => m R (o_bin .gtr 3 true x56 (.int .i64 64)) w42 k) w42 fun x57 w43 =>
 m R (o_pick x53 (.bool true) x57) w43 fun x58 w44 =>
 j10 x58 w44) fun x58 u10 w45 =>
 mif x58 (
 R (.returned (.bool false)) w45) (
 ml1 (.int .i64 0) w45 fun x6 u12 w46 next12 =>
 m R (o_bin .lss 3 false x6 x4) w46 fun x61 w47 =>
 mif x61 (
 dp Tryz.prog (o_fieldAddr 25 x1 0) fun x64 =>
 dq Tryz.prog w47 (o_load 22 x64) fun x65 =>
 dp Tryz.prog (o_indexAddr 22 x65 x6) fun x67 =>
 dp Tryz.prog (o_fieldAddr 40 x67 0) fun x68 =>
 dq Tryz.prog w47 (o_load 3 x68) fun x69 =>
 dp Tryz.prog (o_fieldAddr 40 x5 0) fun x70 =>
 dq Tryz.prog w47 (o_load 3 x70) fun x71 =>
 dp Tryz.prog (o_bin .eql 3 false x69 x71) fun x72 =>
 dend w47 fun w48 =>
 mif x72 (
 R (.returned (.bool false)) w48) (
 m R (o_bin .add 3 true x6 (.int .i64 1)) w48 fun x63 w49 =>
 next12 x63 w49)) (
 j6 w47)))) fun u6 w50 =>
 m R (o_bin .add 3 true x4 (.int .i64 1)) w50 fun x42 w51 =>
 next5 x42 w51) (
 ml1 (.int .i64 0) w28 fun x7 u17 w52 next17 =>
 m R (o_fieldAddr 25 x1 1) w52 fun x74 w53 =>
 m R (o_load 23 x74) w53 fun x75 w54 =>
 m R (o_builtin .len #[23] 3 [false] [x75]) w54 fun x76 w55 =>
 m R (o_bin .lss 3 false x7 x76) w55 fun x77 w56 =>
 mif x77 (
 m R (o_fieldAddr 25 x1 1) w56 fun x80 w57 =>
 m R (o_load 23 x80) w57 fun x81 w58 =>
 m R (o_indexAddr 23 x81 x7) w58 fun x83 w59 =>
 m R (o_load 69 x83) w59 fun x84 w60 =>
 m R (o_alloc 69) w60 fun x8 w61 =>
 m R (o_store 69 x8 x84) w61 fun _ w62 =>
 mj1 (fun j21 =>
 m R (o_fieldAddr 69 x8 0) w62 fun x85 w63 =>
 m R (o_load 4 x85) w63 fun x86 w64 =>
 m R (o_un .not x86) w64 fun x87 w65 =>
 mguard x87 true (fun k => m R (o_fieldAddr 69 x8 1) w65 k) w65 fun x89 w66 =>
 mguard x87 true (fun k => m R (o_load 34 x89) w66 k) w66 fun x90 w67 =>
 mguard x87 true (fun k => m R (o_build 34 []) w67 k) w67 fun x91 w68 =>
 mguard x87 true (fun k => m R (o_bin .neq 34 false x90 x91) w68 k) w68 fun x92 w69 =>
 mguard x87 true (fun k => m R (o_move x92) w69 k) w69 fun x93 w70 =>
 mguard x93 false (fun k => m R (o_fieldAddr 69 x8 2) w70 k) w70 fun x94 w71 =>
 mguard x93 false (fun k => m R (o_load 34 x94) w71 k) w71 fun x95 w72 =>
 mguard x93 false (fun k => m R (o_build 34 []) w72 k) w72 fun x96 w73 =>
 mguard x93 false (fun k => m R (o_bin .neq 34 false x95 x96) w73 k) w73 fun x97 w74 =>
 mguard x87 true (fun k => m R (o_pick x93 (.bool true) x97) w74 k) w74 fun x98 w75 =>
 mguard x87 true (fun k => m R (o_move x98) w75 k) w75 fun x99 w76 =>
 mguard x99 false (fun k => m R (o_fieldAddr 69 x8 3) w76 k) w76 fun x100 w77 =>
 mguard x99 false (fun k => m R (o_load 47 x100) w77 k) w77 fun x101 w78 =>
 mguard x99 false (fun k => m R (o_builtin .len #[47] 3 [false] [x101]) w78 k) w78 fun x102 w79 =>
 mguard x99 false (fun k => m R (o_bin .gtr 3 true x102 (.int .i64 0)) w79 k) w79 fun x103 w80 =>
 mguard x87 true (fun k => m R (o_pick x99 (.bool true) x103) w80 k) w80 fun x104 w81 =>
 m R (o_pick x87 x104 (.bool false)) w81 fun x105 w82 =>
 j21 x105 w82) fun x105 u21 w83 =>
 mif x105 (
 R (.returned (.bool false)) w83) (
 ml1 (.int .i64 0) w83 fun x9 u23 w84 next23 =>
 m R (o_fieldAddr 69 x8 3) w84 fun x107 w85 =>
 m R (o_load 47 x107) w85 fun x108 w86 =>
 m R (o_builtin .len #[47] 3 [false] [x108]) w86 fun x109 w87 =>
 m R (o_bin .lss 3 false x9 x109) w87 fun x110 w88 =>
 mif x110 (
 m R (o_fieldAddr 69 x8 3) w88 fun x113 w89 =>
 m R (o_load 47 x113) w89 fun x114 w90 =>
 m R (o_indexAddr 47 x114 x9) w90 fun x116 w91 =>
 m R (o_load 3 x116) w91 fun x117 w92 =>
 mj1 (fun j27 =>
 m R (o_bin .mul 3 true (.int .i64 2) x7) w92 fun x120 w93 =>
 m R (o_bin .add 3 true x120 (.int .i64 1)) w93 fun x121 w94 =>
 m R (o_call (fv 53) [x13, x121, x117]) w94 fun x123 w95 =>
 m R (o_un .not x123) w95 fun x124 w96 =>
 mguard x124 false (fun k => m R (o_fieldAddr 25 x1 0) w96 k) w96 fun x126 w97 =>
 mguard x124 false (fun k => m R (o_load 22 x126) w97 k) w97 fun x127 w98 =>
 mguard x124 false (fun k => m R (o_move x117) w98 k) w98 fun x128 w99 =>
 mguard x124 false (fun k => m R (o_indexAddr 22 x127 x128) w99 k) w99 fun x129 w100 =>
 mguard x124 false (fun k => m R (o_fieldAddr 40 x129 0) w100 k) w100 fun x130 w101 =>
 mguard x124 false (fun k => m R (o_load 3 x130) w101 k) w101 fun x131 w102 =>
 mguard x124 false (fun k => m R (o_bin .eql 3 true x131 (.int .i64 0)) w102 k) w102 fun x132 w103 =>
 m R (o_pick x124 (.bool true) x132) w103 fun x133 w104 =>
 mguard x133 false (fun k => m R (o_move x9) w104 k) w104 fun x135 w105 =>
 mguard x133 false (fun k => m R (o_bin .gtr 3 true x135 (.int .i64 0)) w105 k) w105 fun x136 w106 =>
 mguard x133 false (fun k => m R (o_move x136) w106 k) w106 fun x137 w107 =>
 mguard x137 true (fun k => m R (o_fieldAddr 69 x8 3) w107 k) w107 fun x138 w108 =>
 mguard x137 true (fun k => m R (o_load 47 x138) w108 k) w108 fun x139 w109 =>
 mguard x137 true (fun k => m R (o_move x9) w109 k) w109 fun x140 w110 =>
 mguard x137 true (fun k => m R (o_bin .sub 3 true x140 (.int .i64 1)) w110 k) w110 fun x141 w111 =>
 mguard x137 true (fun k => m R (o_indexAddr 47 x139 x141) w111 k) w111 fun x142 w112 =>
 mguard x137 true (fun k => m R (o_load 3 x142) w112 k) w112 fun x143 w113 =>
 mguard x137 true (fun k => m R (o_move x117) w113 k) w113 fun x144 w114 =>
 mguard x137 true (fun k => m R (o_bin .geq 3 false x143 x144) w114 k) w114 fun x145 w115 =>
 mguard x133 false (fun k => m R (o_pick x137 x145 (.bool false)) w115 k) w115 fun x146 w116 =>
 m R (o_pick x133 (.bool true) x146) w116 fun x147 w117 =>
 j27 x147 w117) fun x147 u27 w118 =>
 mif x147 (
 R (.returned (.bool false)) w118) (
 m R (o_bin .add 3 true x9 (.int .i64 1)) w118 fun x112 w119 =>
 next23 x112 w119)) (
 m R (o_bin .add 3 true x7 (.int .i64 1)) w88 fun x79 w120 =>
 next17 x79 w120))) (
 m R (o_bin .eql 3 true x13 (.int .i64 0)) w56 fun x149 w121 =>
 mguard x149 false (fun k => m R (o_fieldAddr 25 x1 0) w121 k) w121 fun x151 w122 =>
 mguard x149 false (fun k => m R (o_load 22 x151) w122 k) w122 fun x152 w123 =>
 mguard x149 false (fun k => m R (o_move x13) w123 k) w123 fun x153 w124 =>
 mguard x149 false (fun k => m R (o_bin .sub 3 true x153 (.int .i64 1)) w124 k) w124 fun x154 w125 =>
 mguard x149 false (fun k => m R (o_indexAddr 22 x152 x154) w125 k) w125 fun x155 w126 =>
 mguard x149 false (fun k => m R (o_fieldAddr 40 x155 0) w126 k) w126 fun x156 w127 =>
 mguard x149 false (fun k => m R (o_load 3 x156) w127 k) w127 fun x157 w128 =>
 mguard x149 false (fun k => m R (o_bin .neq 3 true x157 (.int .i64 0)) w128 k) w128 fun x158 w129 =>
 m R (o_pick x149 (.bool true) x158) w129 fun x159 w130 =>
 R (.returned x159) w130)))
def A_bevyref08_Right : Ann := ⟨[(5, [4], 9444732965464412520564), (12, [6], 9444156504986987003972), (17, [7], 356811923176489970264562047629408044805261188), (23, [9], 356811923176408840626156885680677995090544132)], [(3, [37], 274877890560), (6, [], 9444732956943197405284), (10, [58], 574208952489738240), (21, [105], 81129599728980454027655414546432), (27, [147], 356811922844182971318342524136422019025600512)], [(14, [⟨0, .q none, 2, 0, 18446744073709551616⟩, ⟨1, .q (some 0), 18446744073709551616, 1, 36893488147419103232⟩, ⟨2, .q none, 64, 0, 73786976294838206464⟩, ⟨3, .q none, 110680464442257309696, 7, 147573952589676412928⟩, ⟨4, .q none, 147573952589676412928, 15, 295147905179352825856⟩, ⟨5, .q (some 0), 295147905179352825856, 31, 590295810358705651712⟩, ⟨6, .q none, 32, 0, 1180591620717411303424⟩, ⟨7, .q (some 0), 1180591620717411303424, 64, 2361183241434822606848⟩, ⟨8, .q none, 2951479051793528258560, 255, 4722366482869645213696⟩])], [], []⟩
theorem C_bevyref08_Right {x0 : Value} {w : World} {R : Ending → World → Prop} (h : F_bevyref08_Right x0 w R) : Calls Tryz.prog 27 #[x0] w R :=
 calls_cwp (A := A_bevyref08_Right) (args := [x0]) mixed Tryz.func27 (c := Tryz.f27.body.getD .skip) (by kernel_rfl) (by kernel_rfl) (by kernel_rfl) (Eq.mpr (by kernel_rfl) h)
def F_bevyref09_Pub (x0 x1 : Value) (w : World) (R : Ending → World → Prop) : Prop :=
 m R (o_box 25 x0) w fun x2 w1 =>
 m R (o_alloc 34) w1 fun x4 w2 =>
 m R (o_bin .rem 3 true x1 (.int .i64 2)) w2 fun x7 w3 =>
 m R (o_bin .eql 3 true x7 (.int .i64 0)) w3 fun x8 w4 =>
 mif x8 (
 ∃ S : Rl,
 dp Tryz.prog (o_fieldAddr 25 x2 0) fun x9 =>
 dqS Tryz.prog S w4 (o_load 22 x9) fun x10 =>
 dp Tryz.prog (o_bin .quo 3 true x1 (.int .i64 2)) fun x12 =>
 dp Tryz.prog (o_indexAddr 22 x10 x12) fun x13 =>
 dp Tryz.prog (o_fieldAddr 40 x13 1) fun x14 =>
 dqS Tryz.prog S w4 (o_load 34 x14) fun x15 =>
 dp Tryz.prog (o_fieldAddr 25 x2 0) fun x16 =>
 dqS Tryz.prog S w4 (o_load 22 x16) fun x17 =>
 dp Tryz.prog (o_bin .quo 3 true x1 (.int .i64 2)) fun x19 =>
 dp Tryz.prog (o_indexAddr 22 x17 x19) fun x20 =>
 dp Tryz.prog (o_fieldAddr 40 x20 0) fun x21 =>
 dqS Tryz.prog S w4 (o_load 3 x21) fun x22 =>
 dp Tryz.prog (o_bin .neq 3 true x22 (.int .i64 0)) fun x23 =>
 dfS Tryz.prog S w4 (o_store 34 x4 x15) true fun _ w5 =>
 dend w5 fun w6 =>
 rcell Tryz.prog 34 x4 w6 fun r4 =>
 R (.returned (.tuple #[r4, x23])) w6) (
 ∃ S : Rl,
 dp Tryz.prog (o_fieldAddr 25 x2 1) fun x24 =>
 dqS Tryz.prog S w4 (o_load 23 x24) fun x25 =>
 dp Tryz.prog (o_bin .quo 3 true x1 (.int .i64 2)) fun x27 =>
 dp Tryz.prog (o_indexAddr 23 x25 x27) fun x28 =>
 dp Tryz.prog (o_fieldAddr 69 x28 1) fun x29 =>
 dqS Tryz.prog S w4 (o_load 34 x29) fun x30 =>
 dp Tryz.prog (o_fieldAddr 25 x2 1) fun x31 =>
 dqS Tryz.prog S w4 (o_load 23 x31) fun x32 =>
 dp Tryz.prog (o_bin .quo 3 true x1 (.int .i64 2)) fun x34 =>
 dp Tryz.prog (o_indexAddr 23 x32 x34) fun x35 =>
 dp Tryz.prog (o_fieldAddr 69 x35 0) fun x36 =>
 dqS Tryz.prog S w4 (o_load 4 x36) fun x37 =>
 dfS Tryz.prog S w4 (o_store 34 x4 x30) true fun _ w7 =>
 dend w7 fun w8 =>
 rcell Tryz.prog 34 x4 w8 fun r4 =>
 R (.returned (.tuple #[r4, x37])) w8)
def A_bevyref09_Pub : Ann := ⟨[], [], [(2, [⟨0, .q none, 4, 0, 512⟩, ⟨1, .q (some 0), 512, 1, 1024⟩, ⟨2, .q none, 2, 0, 2048⟩, ⟨3, .q none, 2048, 4, 4096⟩, ⟨4, .q none, 5120, 15, 8192⟩, ⟨5, .q none, 8192, 31, 16384⟩, ⟨6, .q (some 0), 16384, 63, 32768⟩, ⟨7, .q none, 4, 0, 65536⟩, ⟨8, .q (some 0), 65536, 128, 131072⟩, ⟨9, .q none, 2, 0, 262144⟩, ⟨10, .q none, 262144, 512, 524288⟩, ⟨11, .q none, 655360, 1920, 1048576⟩, ⟨12, .q none, 1048576, 3968, 2097152⟩, ⟨13, .q (some 0), 2097152, 8064, 4194304⟩, ⟨14, .q none, 4194304, 16256, 8388608⟩, ⟨15, .f 0 true, 32784, 127, 0⟩, ⟨16, .q none, 8388608, 65535, 32⟩]), (3, [⟨0, .q none, 4, 0, 16777216⟩, ⟨1, .q (some 0), 16777216, 1, 33554432⟩, ⟨2, .q none, 2, 0, 67108864⟩, ⟨3, .q none, 67108864, 4, 134217728⟩, ⟨4, .q none, 167772160, 15, 268435456⟩, ⟨5, .q none, 268435456, 31, 536870912⟩, ⟨6, .q (some 0), 536870912, 63, 1073741824⟩, ⟨7, .q none, 4, 0, 2147483648⟩, ⟨8, .q (some 0), 2147483648, 128, 4294967296⟩, ⟨9, .q none, 2, 0, 8589934592⟩, ⟨10, .q none, 8589934592, 512, 17179869184⟩, ⟨11, .q none, 21474836480, 1920, 34359738368⟩, ⟨12, .q none, 34359738368, 3968, 68719476736⟩, ⟨13, .q (some 0), 68719476736, 8064, 137438953472⟩, ⟨14, .f 0 true, 1073741840, 127, 0⟩, ⟨15, .q none, 137438953472, 32767, 32⟩])], [], [2, 3]⟩
theorem C_bevyref09_Pub {x0 x1 : Value} {w : World} {R : Ending → World → Prop} (h : F_bevyref09_Pub x0 x1 w R) : Calls Tryz.prog 28 #[x0, x1] w R :=
 calls_cwp (A := A_bevyref09_Pub) (args := [x0, x1]) mixed Tryz.func28 (c := Tryz.f28.body.getD .skip) (by kernel_rfl) (by kernel_rfl) (by kernel_rfl) (Eq.mpr (by kernel_rfl) h)
def F_bevyref09_Sorted (x0 : Value) (w : World) (R : Ending → World → Prop) : Prop :=
 ml2 (.slice none 0 0) (.int .i64 0) w fun x3 x4 u3 w1 next3 =>
 m R (o_builtin .len #[26] 3 [false] [x0]) w1 fun x9 w2 =>
 m R (o_bin .lss 3 false x4 x9) w2 fun x10 w3 =>
 mif x10 (
 mj1 (fun j4 =>
 ml1 (.int .i64 0) w3 fun x5 u6 w4 next6 =>
 mj0 (fun j7 =>
 dp Tryz.prog (o_builtin .len #[26] 3 [false] [x3]) fun x15 =>
 dp Tryz.prog (o_bin .lss 3 false x5 x15) fun x16 =>
 qguard x16 true (fun k => dp Tryz.prog (o_move x3) k) fun x18 =>
 qguard x16 true (fun k => dp Tryz.prog (o_move x5) k) fun x19 =>
 qguard x16 true (fun k => dp Tryz.prog (o_indexAddr 26 x18 x19) k) fun x20 =>
 qguard x16 true (fun k => dp Tryz.prog (o_fieldAddr 43 x20 0) k) fun x21 =>
 qguard x16 true (fun k => dq Tryz.prog w4 (o_load 3 x21) k) fun x22 =>
 qguard x16 true (fun k => dp Tryz.prog (o_move x0) k) fun x23 =>
 qguard x16 true (fun k => dp Tryz.prog (o_move x4) k) fun x24 =>
 qguard x16 true (fun k => dp Tryz.prog (o_indexAddr 26 x23 x24) k) fun x25 =>
 qguard x16 true (fun k => dp Tryz.prog (o_fieldAddr 43 x25 0) k) fun x26 =>
 qguard x16 true (fun k => dq Tryz.prog w4 (o_load 3 x26) k) fun x27 =>
 qguard x16 true (fun k => dp Tryz.prog (o_bin .lss 3 false x22 x27) k) fun x28 =>
 dp Tryz.prog (o_pick x16 x28 (.bool false)) fun x29 =>
 dend w4 fun w5 =>
 mif x29 (
 j7 w5) (
 mj0 (fun j9 =>
 dp Tryz.prog (o_builtin .len #[26] 3 [false] [x3]) fun x34 =>
 dp Tryz.prog (o_bin .lss 3 false x5 x34) fun x35 =>
 qguard x35 true (fun k => dp Tryz.prog (o_move x3) k) fun x37 =>
 qguard x35 true (fun k => dp Tryz.prog (o_move x5) k) fun x38 =>
 qguard x35 true (fun k => dp Tryz.prog (o_indexAddr 26 x37 x38) k) fun x39 =>
 qguard x35 true (fun k => dp Tryz.prog (o_fieldAddr 43 x39 0) k) fun x40 =>
 qguard x35 true (fun k => dq Tryz.prog w5 (o_load 3 x40) k) fun x41 =>
 qguard x35 true (fun k => dp Tryz.prog (o_move x0) k) fun x42 =>
 qguard x35 true (fun k => dp Tryz.prog (o_move x4) k) fun x43 =>
 qguard x35 true (fun k => dp Tryz.prog (o_indexAddr 26 x42 x43) k) fun x44 =>
 qguard x35 true (fun k => dp Tryz.prog (o_fieldAddr 43 x44 0) k) fun x45 =>
 qguard x35 true (fun k => dq Tryz.prog w5 (o_load 3 x45) k) fun x46 =>
 qguard x35 true (fun k => dp Tryz.prog (o_bin .eql 3 false x41 x46) k) fun x47 =>
 dp Tryz.prog (o_pick x35 x47 (.bool false)) fun x48 =>
 dend w5 fun w6 =>
 mif x48 (
 j4 x3 w6) (
 j9 w6)) fun u9 w7 =>
 m R (o_slice 26 x3 none (some x5) none) w7 fun x52 w8 =>
 m R (o_builtin .append #[26, 26] 26 [false, false] [(.slice none 0 0), x52]) w8 fun x53 w9 =>
 m R (o_indexAddr 26 x0 x4) w9 fun x57 w10 =>
 m R (o_load 43 x57) w10 fun x58 w11 =>
 m R (o_buildSlice 26 1 [(0, x58)]) w11 fun x59 w12 =>
 m R (o_builtin .append #[26, 26] 26 [false, false] [x53, x59]) w12 fun x60 w13 =>
 m R (o_slice 26 x3 (some x5) none none) w13 fun x64 w14 =>
 m R (o_builtin .append #[26, 26] 26 [false, false] [x60, x64]) w14 fun x65 w15 =>
 j4 x65 w15)) fun u7 w16 =>
 m R (o_bin .add 3 true x5 (.int .i64 1)) w16 fun x31 w17 =>
 next6 x31 w17) fun x3 u4 w18 =>
 m R (o_bin .add 3 true x4 (.int .i64 1)) w18 fun x12 w19 =>
 next3 x3 x12 w19) (
 R (.returned x3) w3)
def A_bevyref09_Sorted : Ann := ⟨[(3, [3, 4], 73786976294838206456), (6, [5], 4294959136)], [(4, [3], 73786976294838198376), (7, [], 1073733632), (9, [], 562945658454016)], [(6, [⟨0, .q none, 32, 0, 8192⟩, ⟨1, .q none, 8, 0, 16384⟩, ⟨2, .q none, 16384, 2, 32768⟩, ⟨3, .q none, 40960, 7, 65536⟩, ⟨4, .q none, 65536, 15, 131072⟩, ⟨5, .q none, 131080, 31, 262144⟩, ⟨6, .q none, 131104, 31, 524288⟩, ⟨7, .q none, 917504, 127, 1048576⟩, ⟨8, .q none, 1179648, 255, 2097152⟩, ⟨9, .q (some 0), 2228224, 511, 4194304⟩, ⟨10, .q none, 131073, 31, 8388608⟩, ⟨11, .q none, 131088, 31, 16777216⟩, ⟨12, .q none, 25296896, 3103, 33554432⟩, ⟨13, .q none, 33685504, 7199, 67108864⟩, ⟨14, .q (some 0), 67239936, 15391, 134217728⟩, ⟨15, .q none, 138543104, 32767, 268435456⟩, ⟨16, .q none, 268566528, 65535, 536870912⟩]), (8, [⟨0, .q none, 32, 0, 4294967296⟩, ⟨1, .q none, 8, 0, 8589934592⟩, ⟨2, .q none, 8589934592, 2, 17179869184⟩, ⟨3, .q none, 21474836480, 7, 34359738368⟩, ⟨4, .q none, 34359738368, 15, 68719476736⟩, ⟨5, .q none, 68719476744, 31, 137438953472⟩, ⟨6, .q none, 68719476768, 31, 274877906944⟩, ⟨7, .q none, 481036337152, 127, 549755813888⟩, ⟨8, .q none, 618475290624, 255, 1099511627776⟩, ⟨9, .q (some 0), 1168231104512, 511, 2199023255552⟩, ⟨10, .q none, 68719476737, 31, 4398046511104⟩, ⟨11, .q none, 68719476752, 31, 8796093022208⟩, ⟨12, .q none, 13262859010048, 3103, 17592186044416⟩, ⟨13, .q none, 17660905521152, 7199, 35184372088832⟩, ⟨14, .q (some 0), 35253091565568, 15391, 70368744177664⟩, ⟨15, .q none, 72636486909952, 32767, 140737488355328⟩, ⟨16, .q none, 140806207832064, 65535, 281474976710656⟩])], [], []⟩
theorem C_bevyref09_Sorted {x0 : Value} {w : World} {R : Ending → World → Prop} (h : F_bevyref09_Sorted x0 w R) : Calls Tryz.prog 29 #[x0] w R :=
 calls_cwp (A := A_bevyref09_Sorted) (args := [x0]) mixed Tryz.func29 (c := Tryz.f29.body.getD .skip) (by kernel_rfl) (by kernel_rfl) (by kernel_rfl) (Eq.mpr (by kernel_rfl) h)
def F_tree_clone (x0 : Value) (w : World) (R : Ending → World → Prop) : Prop :=
 m R (o_box 25 x0) w fun x1 w1 =>
 m R (o_alloc 25) w1 fun x2 w2 =>
 mj1 (fun j2 =>
 ((
 dp Tryz.prog (o_fieldAddr 25 x1 0) fun x5 =>
 dq Tryz.prog w2 (o_load 22 x5) fun x6 =>
 dp Tryz.prog (o_fieldAddr 25 x1 1) fun x8 =>
 dq Tryz.prog w2 (o_load 23 x8) fun x9 =>
 df Tryz.prog w2 (o_call (fv 72) [x6]) true fun x7 w3 =>
 df Tryz.prog w3 (o_call (fv 73) [x9]) false fun x10 w4 =>
 dp Tryz.prog (o_build 25 [(0, x7), (1, x10)]) fun x11 =>
 df Tryz.prog w4 (o_alloc 25) true fun x3 w5 =>
 df Tryz.prog w5 (o_store 25 x3 x11) false fun _ w6 =>
 dend w6 fun w7 =>
 j2 x3 w7) ∧ (
 dp Tryz.prog (o_fieldAddr 25 x1 0) fun x5 =>
 dq Tryz.prog w2 (o_load 22 x5) fun x6 =>
 dp Tryz.prog (o_fieldAddr 25 x1 1) fun x8 =>
 dq Tryz.prog w2 (o_load 23 x8) fun x9 =>
 df Tryz.prog w2 (o_call (fv 72) [x6]) true fun x7 w8 =>
 df Tryz.prog w8 (o_alloc 25) true fun x3 w9 =>
 df Tryz.prog w9 (o_call (fv 73) [x9]) false fun x10 w10 =>
 dp Tryz.prog (o_build 25 [(0, x7), (1, x10)]) fun x11 =>
 df Tryz.prog w10 (o_store 25 x3 x11) false fun _ w11 =>
 dend w11 fun w12 =>
 j2 x3 w12) ∧ (
 dp Tryz.prog (o_fieldAddr 25 x1 0) fun x5 =>
 dq Tryz.prog w2 (o_load 22 x5) fun x6 =>
 dp Tryz.prog (o_fieldAddr 25 x1 1) fun x8 =>
 dq Tryz.prog w2 (o_load 23 x8) fun x9 =>
 df Tryz.prog w2 (o_alloc 25) true fun x3 w13 =>
 df Tryz.prog w13 (o_call (fv 72) [x6]) true fun x7 w14 =>
 df Tryz.prog w14 (o_call (fv 73) [x9]) false fun x10 w15 =>
 dp Tryz.prog (o_build 25 [(0, x7), (1, x10)]) fun x11 =>
 df Tryz.prog w15 (o_store 25 x3 x11) false fun _ w16 =>
 dend w16 fun w17 =>
 j2 x3 w17))) fun x3 u2 w18 =>
 m R (o_fieldAddr 25 x3 1) w18 fun x12 w19 =>
 m R (o_load 23 x12) w19 fun x13 w20 =>
 m R (o_builtin .len #[23] 3 [false] [x13]) w20 fun x14 w21 =>
 ml1 (.int .i64 0) w21 fun x15 u3 w22 next3 =>
 m R (o_bin .lss 3 false x15 x14) w22 fun x16 w23 =>
 mif x16 (
 dp Tryz.prog (o_fieldAddr 25 x3 1) fun x18 =>
 dq Tryz.prog w23 (o_load 23 x18) fun x19 =>
 dp Tryz.prog (o_fieldAddr 25 x3 1) fun x21 =>
 dq Tryz.prog w23 (o_load 23 x21) fun x22 =>
 dp Tryz.prog (o_indexAddr 23 x22 x15) fun x24 =>
 dp Tryz.prog (o_fieldAddr 69 x24 3) fun x25 =>
 dq Tryz.prog w23 (o_load 47 x25) fun x26 =>
 df Tryz.prog w23 (o_call (fv 74) [x26]) true fun x27 w24 =>
 dp Tryz.prog (o_indexAddr 23 x19 x15) fun x28 =>
 dp Tryz.prog (o_fieldAddr 69 x28 3) fun x29 =>
 df Tryz.prog w24 (o_store 47 x29 x27) false fun _ w25 =>
 dend w25 fun w26 =>
 m R (o_bin .add 3 true x15 (.int .i64 1)) w26 fun x30 w27 =>
 next3 x30 w27) (
 m R (o_load 25 x3) w23 fun x31 w28 =>
 m R (o_store 25 x2 x31) w28 fun _ w29 =>
 rcell Tryz.prog 25 x2 w29 fun r2 =>
 R (.returned r2) w29)
def A_tree_clone : Ann := ⟨[(3, [15], 2147450896)], [(2, [3], 4072)], [(5, [⟨0, .q none, 8, 0, 262144⟩, ⟨1, .q (some 0), 262144, 1, 524288⟩, ⟨2, .q none, 16, 0, 1048576⟩, ⟨3, .q none, 8, 0, 2097152⟩, ⟨4, .q (some 0), 2097152, 8, 4194304⟩, ⟨5, .q none, 16, 0, 8388608⟩, ⟨6, .q none, 12582912, 56, 16777216⟩, ⟨7, .q none, 16777216, 120, 33554432⟩, ⟨8, .q (some 0), 33554432, 248, 67108864⟩, ⟨9, .f 0 true, 67108864, 504, 134217728⟩, ⟨10, .q none, 1572864, 1023, 268435456⟩, ⟨11, .q none, 268435456, 2047, 536870912⟩, ⟨12, .f 1 false, 671088640, 4095, 0⟩])], [(1, [⟨[0, 1, 3, 4, 2, 5, 6, 7, 8], [⟨0, .q none, 2, 0, 32⟩, ⟨1, .q (some 0), 32, 1, 64⟩, ⟨2, .f 0 true, 64, 3, 128⟩, ⟨3, .q none, 2, 0, 256⟩, ⟨4, .q (some 0), 256, 8, 512⟩, ⟨5, .f 1 false, 512, 31, 1024⟩, ⟨6, .q none, 1152, 63, 2048⟩, ⟨7, .f 2 true, 0, 0, 8⟩, ⟨8, .f 3 false, 2056, 255, 0⟩]⟩, ⟨[0, 1, 3, 4, 2, 7, 5, 6, 8], [⟨0, .q none, 2, 0, 32⟩, ⟨1, .q (some 0), 32, 1, 64⟩, ⟨2, .f 0 true, 64, 3, 128⟩, ⟨3, .q none, 2, 0, 256⟩, ⟨4, .q (some 0), 256, 8, 512⟩, ⟨5, .f 2 false, 512, 31, 1024⟩, ⟨6, .q none, 1152, 63, 2048⟩, ⟨7, .f 1 true, 0, 0, 8⟩, ⟨8, .f 3 false, 2056, 255, 0⟩]⟩, ⟨[0, 1, 3, 4, 7, 2, 5, 6, 8], [⟨0, .q none, 2, 0, 32⟩, ⟨1, .q (some 0), 32, 1, 64⟩, ⟨2, .f 1 true, 64, 3, 128⟩, ⟨3, .q none, 2, 0, 256⟩, ⟨4, .q (some 0), 256, 8, 512⟩, ⟨5, .f 2 false, 512, 31, 1024⟩, ⟨6, .q none, 1152, 63, 2048⟩, ⟨7, .f 0 true, 0, 0, 8⟩, ⟨8, .f 3 false, 2056, 255, 0⟩]⟩])], []⟩
theorem C_tree_clone {x0 : Value} {w : World} {R : Ending → World → Prop} (h : F_tree_clone x0 w R) : Calls Tryz.prog 30 #[x0] w R :=
 calls_cwp (A := A_tree_clone) (args := [x0]) mixed Tryz.func30 (c := Tryz.f30.body.getD .skip) (by kernel_rfl) (by kernel_rfl) (by kernel_rfl) (Eq.mpr (by kernel_rfl) h)
def F_prim_public (x0 : Value) (w : World) (R : Ending → World → Prop) : Prop :=
 m R (o_box 34 x0) w fun x1 w1 =>
 m R (o_alloc 34) w1 fun x2 w2 =>
 m R (o_slice 34 x1 none none none) w2 fun x3 w3 =>
 m R (o_conv 99 9 x3) w3 fun x4 w4 =>
 m R (o_buildSlice 70 2 [(0, (.string (ByteArray.mk #[112, 117, 98]))), (1, x4)]) w4 fun x5 w5 =>
 m R (o_call (fv 80) [x5]) w5 fun x6 w6 =>
 m R (o_store 34 x2 x6) w6 fun _ w7 =>
 rcell Tryz.prog 34 x2 w7 fun r2 =>
 R (.returned r2) w7
def A_prim_public : Ann := ⟨[], [], [], [], []⟩
theorem C_prim_public {x0 : Value} {w : World} {R : Ending → World → Prop} (h : F_prim_public x0 w R) : Calls Tryz.prog 35 #[x0] w R :=
 calls_cwp (A := A_prim_public) (args := [x0]) mixed Tryz.func35 (c := Tryz.f35.body.getD .skip) (by kernel_rfl) (by kernel_rfl) (by kernel_rfl) (Eq.mpr (by kernel_rfl) h)
def F_book_Book_Note (x0 x1 : Value) (w : World) (R : Ending → World → Prop) : Prop :=
 m R (o_box 86 x1) w fun x3 w1 =>
 m R (o_fieldAddr 86 x3 1) w1 fun x8 w2 =>
 m R (o_load 54 x8) w2 fun x9 w3 =>
 m R (o_builtin .len #[54] 3 [false] [x9]) w3 fun x10 w4 =>
 m R (o_bin .eql 3 true x10 (.int .i64 0)) w4 fun x11 w5 =>
 mif x11 (
 R (.returned (.int .i64 1)) w5) (
 m R (o_bin .eql 82 true x0 (.pointer none)) w5 fun x13 w6 =>
 mif x13 (
 R (.returned (.int .i64 0)) w6) (
 m R (o_load 86 x3) w6 fun x14 w7 =>
 m R (o_call (fv 81) [x14]) w7 fun x15 w8 =>
 m R (o_nilCheck x0) w8 fun x18 w9 =>
 m R (o_fieldAddr 136 x18 1) w9 fun x19 w10 =>
 m R (o_load 132 x19) w10 fun x20 w11 =>
 m R (o_lookup 132 x20 x15 false) w11 fun x22 w12 =>
 mif x22 (
 R (.returned (.int .i64 0)) w12) (
 m R (o_nilCheck x0) w12 fun x25 w13 =>
 m R (o_fieldAddr 136 x25 0) w13 fun x26 w14 =>
 m R (o_load 131 x26) w14 fun x27 w15 =>
 m R (o_builtin .len #[131] 3 [false] [x27]) w15 fun x28 w16 =>
 m R (o_bin .geq 3 true x28 (.int .i64 1048576)) w16 fun x29 w17 =>
 mif x29 (
 R (.returned (.int .i64 9)) w17) (
 m R (o_nilCheck x0) w17 fun x31 w18 =>
 m R (o_fieldAddr 136 x31 1) w18 fun x32 w19 =>
 m R (o_load 132 x32) w19 fun x33 w20 =>
 m R (o_mapUpdate 132 x33 x15 (.bool true)) w20 fun _ w21 =>
 m R (o_fieldAddr 86 x3 0) w21 fun x35 w22 =>
 m R (o_load 54 x35) w22 fun x36 w23 =>
 m R (o_builtin .len #[54] 3 [false] [x36]) w23 fun x37 w24 =>
 ml1 (.int .i64 0) w24 fun x38 u12 w25 next12 =>
 m R (o_bin .lss 3 false x38 x37) w25 fun x39 w26 =>
 mif x39 (
 m R (o_indexAddr 54 x36 x38) w26 fun x40 w27 =>
 m R (o_load 34 x40) w27 fun x41 w28 =>
 m R (o_alloc 34) w28 fun x7 w29 =>
 m R (o_store 34 x7 x41) w29 fun _ w30 =>
 dp Tryz.prog (o_nilCheck x0) fun x43 =>
 dp Tryz.prog (o_fieldAddr 136 x43 2) fun x44 =>
 dq Tryz.prog w30 (o_load 133 x44) fun x45 =>
 dq Tryz.prog w30 (o_load 34 x7) fun x46 =>
 dp Tryz.prog (o_nilCheck x0) fun x49 =>
 dp Tryz.prog (o_fieldAddr 136 x49 0) fun x50 =>
 dq Tryz.prog w30 (o_load 131 x50) fun x51 =>
 dp Tryz.prog (o_builtin .len #[131] 3 [false] [x51]) fun x52 =>
 df Tryz.prog w30 (o_buildSlice 47 1 [(0, x52)]) true fun x53 w31 =>
 df Tryz.prog w31 (o_mapEntry 133 x45 x46) false fun x54 w32 =>
 dp Tryz.prog (o_extract x54 0) fun x47 =>
 df Tryz.prog w32 (o_builtin .append #[47, 47] 47 [false, false] [x47, x53]) false fun x55 w33 =>
 dp Tryz.prog (o_extract x54 1) fun x56 =>
 df Tryz.prog w33 (o_entryStore 133 x45 x56 x55) false fun _ w34 =>
 dend w34 fun w35 =>
 m R (o_bin .add 3 true x38 (.int .i64 1)) w35 fun x57 w36 =>
 next12 x57 w36) (
 dp Tryz.prog (o_nilCheck x0) fun x60 =>
 dp Tryz.prog (o_fieldAddr 136 x60 0) fun x61 =>
 dq Tryz.prog w26 (o_load 131 x61) fun x62 =>
 dp Tryz.prog (o_fieldAddr 86 x3 0) fun x63 =>
 dq Tryz.prog w26 (o_load 54 x63) fun x64 =>
 df Tryz.prog w26 (o_call (fv 82) [x64]) true fun x65 w37 =>
 dp Tryz.prog (o_fieldAddr 86 x3 1) fun x66 =>
 dq Tryz.prog w26 (o_load 54 x66) fun x67 =>
 df Tryz.prog w37 (o_call (fv 82) [x67]) true fun x68 w38 =>
 dp Tryz.prog (o_build 86 [(0, x65), (1, x68)]) fun x69 =>
 df Tryz.prog w38 (o_buildSlice 131 1 [(0, x69)]) true fun x70 w39 =>
 df Tryz.prog w39 (o_builtin .append #[131, 131] 131 [false, false] [x62, x70]) false fun x71 w40 =>
 dp Tryz.prog (o_nilCheck x0) fun x72 =>
 dp Tryz.prog (o_fieldAddr 136 x72 0) fun x73 =>
 df Tryz.prog w40 (o_store 131 x73 x71) false fun _ w41 =>
 dend w41 fun w42 =>
 R (.returned (.int .i64 0)) w42)))))
def A_book_Book_Note : Ann := ⟨[(12, [38], 288230101273804928)], [], [(14, [⟨0, .q none, 1, 0, 4398046511104⟩, ⟨1, .q none, 4398046511104, 1, 8796093022208⟩, ⟨2, .q none, 8796093022208, 3, 17592186044416⟩, ⟨3, .q (some 0), 17592186044416, 7, 35184372088832⟩, ⟨4, .q (some 0), 128, 0, 70368744177664⟩, ⟨5, .q none, 1, 0, 281474976710656⟩, ⟨6, .q none, 281474976710656, 32, 562949953421312⟩, ⟨7, .q none, 562949953421312, 96, 1125899906842624⟩, ⟨8, .q (some 0), 1125899906842624, 224, 2251799813685248⟩, ⟨9, .q none, 2251799813685248, 480, 4503599627370496⟩, ⟨10, .f 0 true, 4503599627370496, 992, 9007199254740992⟩, ⟨11, .f 1 false, 105553116266496, 2047, 18014398509481984⟩, ⟨12, .q none, 18014398509481984, 4095, 140737488355328⟩, ⟨13, .f 2 false, 9147936743096320, 8191, 36028797018963968⟩, ⟨14, .q none, 18014398509481984, 4095, 72057594037927936⟩, ⟨15, .f 3 false, 108121575428980736, 32767, 0⟩]), (16, [⟨0, .q none, 1, 0, 288230376151711744⟩, ⟨1, .q none, 1, 0, 576460752303423488⟩, ⟨2, .q none, 576460752303423488, 2, 1152921504606846976⟩, ⟨3, .q none, 1152921504606846976, 6, 2305843009213693952⟩, ⟨4, .q (some 0), 2305843009213693952, 14, 4611686018427387904⟩, ⟨5, .q none, 8, 0, 9223372036854775808⟩, ⟨6, .q (some 0), 9223372036854775808, 32, 18446744073709551616⟩, ⟨7, .f 0 true, 18446744073709551616, 96, 36893488147419103232⟩, ⟨8, .q none, 8, 0, 73786976294838206464⟩, ⟨9, .q (some 0), 73786976294838206464, 256, 147573952589676412928⟩, ⟨10, .f 1 true, 147573952589676412928, 992, 295147905179352825856⟩, ⟨11, .q none, 332041393326771929088, 2016, 590295810358705651712⟩, ⟨12, .f 2 true, 590295810358705651712, 4064, 1180591620717411303424⟩, ⟨13, .f 3 false, 1185203306735838691328, 8190, 2361183241434822606848⟩, ⟨14, .q none, 288230376151711744, 16383, 4722366482869645213696⟩, ⟨15, .q none, 4722366482869645213696, 32767, 9444732965739290427392⟩, ⟨16, .f 4 false, 11805916207174113034240, 65535, 0⟩])], [], []⟩
theorem C_book_Book_Note {x0 x1 : Value} {w : World} {R : Ending → World → Prop} (h : F_book_Book_Note x0 x1 w R) : Calls Tryz.prog 36 #[x0, x1] w R :=
 calls_cwp (A := A_book_Book_Note) (args := [x0, x1]) mixed Tryz.func36 (c := Tryz.f36.body.getD .skip) (by kernel_rfl) (by kernel_rfl) (by kernel_rfl) (Eq.mpr (by kernel_rfl) h)
def F_prim_Mark (x0 : Value) (w : World) (R : Ending → World → Prop) : Prop :=
 m R (o_box 34 x0) w fun x1 w1 =>
 m R (o_alloc 34) w1 fun x2 w2 =>
 m R (o_slice 34 x1 none none none) w2 fun x3 w3 =>
 m R (o_conv 99 9 x3) w3 fun x4 w4 =>
 m R (o_buildSlice 70 2 [(0, (.string (ByteArray.mk #[109, 97, 114, 107]))), (1, x4)]) w4 fun x5 w5 =>
 m R (o_call (fv 80) [x5]) w5 fun x6 w6 =>
 m R (o_store 34 x2 x6) w6 fun _ w7 =>
 rcell Tryz.prog 34 x2 w7 fun r2 =>
 R (.returned r2) w7
def A_prim_Mark : Ann := ⟨[], [], [], [], []⟩
theorem C_prim_Mark {x0 : Value} {w : World} {R : Ending → World → Prop} (h : F_prim_Mark x0 w R) : Calls Tryz.prog 37 #[x0] w R :=
 calls_cwp (A := A_prim_Mark) (args := [x0]) mixed Tryz.func37 (c := Tryz.f37.body.getD .skip) (by kernel_rfl) (by kernel_rfl) (by kernel_rfl) (Eq.mpr (by kernel_rfl) h)
def F_tree_sound (x0 : Value) (w : World) (R : Ending → World → Prop) : Prop :=
 m R (o_box 25 x0) w fun x1 w1 =>
 m R (o_alloc 25) w1 fun x2 w2 =>
 m R (o_load 25 x1) w2 fun x3 w3 =>
 m R (o_call (fv 24) [x3]) w3 fun x4 w4 =>
 mif x4 (
 m R (o_load 25 x1) w4 fun x5 w5 =>
 m R (o_store 25 x2 x5) w5 fun _ w6 =>
 rcell Tryz.prog 25 x2 w6 fun r2 =>
 R (.returned r2) w6) (
 m R (o_build 25 []) w4 fun x6 w7 =>
 m R (o_store 25 x2 x6) w7 fun _ w8 =>
 rcell Tryz.prog 25 x2 w8 fun r2 =>
 R (.returned r2) w8)
def A_tree_sound : Ann := ⟨[], [], [], [], []⟩
theorem C_tree_sound {x0 : Value} {w : World} {R : Ending → World → Prop} (h : F_tree_sound x0 w R) : Calls Tryz.prog 38 #[x0] w R :=
 calls_cwp (A := A_tree_sound) (args := [x0]) mixed Tryz.func38 (c := Tryz.f38.body.getD .skip) (by kernel_rfl) (by kernel_rfl) (by kernel_rfl) (Eq.mpr (by kernel_rfl) h)
def F_tree_none (x0 x1 : Value) (w : World) (R : Ending → World → Prop) : Prop :=
 m R (o_box 25 x0) w fun x2 w1 =>
 m R (o_bin .lss 3 true x1 (.int .i64 0)) w1 fun x6 w2 =>
 mguard x6 false (fun k => m R (o_move x1) w2 k) w2 fun x8 w3 =>
 mguard x6 false (fun k => m R (o_fieldAddr 25 x2 0) w3 k) w3 fun x9 w4 =>
 mguard x6 false (fun k => m R (o_load 22 x9) w4 k) w4 fun x10 w5 =>
 mguard x6 false (fun k => m R (o_builtin .len #[22] 3 [false] [x10]) w5 k) w5 fun x11 w6 =>
 mguard x6 false (fun k => m R (o_bin .geq 3 false x8 x11) w6 k) w6 fun x12 w7 =>
 m R (o_pick x6 (.bool true) x12) w7 fun x13 w8 =>
 mguard x13 false (fun k => m R (o_fieldAddr 25 x2 0) w8 k) w8 fun x15 w9 =>
 mguard x13 false (fun k => m R (o_load 22 x15) w9 k) w9 fun x16 w10 =>
 mguard x13 false (fun k => m R (o_move x1) w10 k) w10 fun x17 w11 =>
 mguard x13 false (fun k => m R (o_indexAddr 22 x16 x17) w11 k) w11 fun x18 w12 =>
 mguard x13 false (fun k => m R (o_fieldAddr 40 x18 0) w12 k) w12 fun x19 w13 =>
 mguard x13 false (fun k => m R (o_load 3 x19) w13 k) w13 fun x20 w14 =>
 mguard x13 false (fun k => m R (o_bin .eql 3 true x20 (.int .i64 0)) w14 k) w14 fun x21 w15 =>
 m R (o_pick x13 (.bool true) x21) w15 fun x22 w16 =>
 R (.returned x22) w16
def A_tree_none : Ann := ⟨[], [], [], [], []⟩
theorem C_tree_none {x0 x1 : Value} {w : World} {R : Ending → World → Prop} (h : F_tree_none x0 x1 w R) : Calls Tryz.prog 42 #[x0, x1] w R :=
 calls_cwp (A := A_tree_none) (args := [x0, x1]) mixed Tryz.func42 (c := Tryz.f42.body.getD .skip) (by kernel_rfl) (by kernel_rfl) (by kernel_rfl) (Eq.mpr (by kernel_rfl) h)
def F_climb_blank (x0 x1 : Value) (w : World) (R : Ending → World → Prop) : Prop :=
 m R (o_box 25 x0) w fun x2 w1 =>
 m R (o_bin .lss 3 true x1 (.int .i64 0)) w1 fun x6 w2 =>
 mguard x6 false (fun k => m R (o_move x1) w2 k) w2 fun x8 w3 =>
 mguard x6 false (fun k => m R (o_fieldAddr 25 x2 0) w3 k) w3 fun x9 w4 =>
 mguard x6 false (fun k => m R (o_load 22 x9) w4 k) w4 fun x10 w5 =>
 mguard x6 false (fun k => m R (o_builtin .len #[22] 3 [false] [x10]) w5 k) w5 fun x11 w6 =>
 mguard x6 false (fun k => m R (o_bin .geq 3 false x8 x11) w6 k) w6 fun x12 w7 =>
 m R (o_pick x6 (.bool true) x12) w7 fun x13 w8 =>
 mguard x13 false (fun k => m R (o_fieldAddr 25 x2 0) w8 k) w8 fun x15 w9 =>
 mguard x13 false (fun k => m R (o_load 22 x15) w9 k) w9 fun x16 w10 =>
 mguard x13 false (fun k => m R (o_move x1) w10 k) w10 fun x17 w11 =>
 mguard x13 false (fun k => m R (o_indexAddr 22 x16 x17) w11 k) w11 fun x18 w12 =>
 mguard x13 false (fun k => m R (o_fieldAddr 40 x18 0) w12 k) w12 fun x19 w13 =>
 mguard x13 false (fun k => m R (o_load 3 x19) w13 k) w13 fun x20 w14 =>
 mguard x13 false (fun k => m R (o_bin .eql 3 true x20 (.int .i64 0)) w14 k) w14 fun x21 w15 =>
 m R (o_pick x13 (.bool true) x21) w15 fun x22 w16 =>
 R (.returned x22) w16
def A_climb_blank : Ann := ⟨[], [], [], [], []⟩
theorem C_climb_blank {x0 x1 : Value} {w : World} {R : Ending → World → Prop} (h : F_climb_blank x0 x1 w R) : Calls Tryz.prog 44 #[x0, x1] w R :=
 calls_cwp (A := A_climb_blank) (args := [x0, x1]) mixed Tryz.func44 (c := Tryz.f44.body.getD .skip) (by kernel_rfl) (by kernel_rfl) (by kernel_rfl) (Eq.mpr (by kernel_rfl) h)
def F_climb_up (x0 x1 x2 : Value) (w : World) (R : Ending → World → Prop) : Prop :=
 m R (o_box 34 x2) w fun x5 w1 =>
 m R (o_alloc 34) w1 fun x8 w2 =>
 m R (o_builtin .len #[47] 3 [false] [x1]) w2 fun x14 w3 =>
 ml3 (.slice none 0 0) (.slice none 0 0) (.int .i64 0) w3 fun x9 x10 x15 u4 w4 next4 =>
 m R (o_bin .lss 3 false x15 x14) w4 fun x16 w5 =>
 mif x16 (
 m R (o_indexAddr 47 x1 x15) w5 fun x18 w6 =>
 m R (o_load 3 x18) w6 fun x19 w7 =>
 mj0 (fun j8 =>
 m R (o_bin .gtr 3 true x15 (.int .i64 0)) w7 fun x21 w8 =>
 mif x21 (
 m R (o_load 34 x5) w8 fun x23 w9 =>
 m R (o_call (fv 46) [x0, x23, (.string (ByteArray.mk #[112, 97, 116, 104])), (.string (ByteArray.mk #[]))]) w9 fun x24 w10 =>
 m R (o_store 34 x5 x24) w10 fun _ w11 =>
 j8 w11) (
 j8 w8)) fun u8 w12 =>
 m R (o_load 34 x5) w12 fun x26 w13 =>
 m R (o_buildSlice 54 1 [(0, x26)]) w13 fun x27 w14 =>
 m R (o_builtin .append #[54, 54] 54 [false, false] [x9, x27]) w14 fun x28 w15 =>
 m R (o_load 34 x5) w15 fun x32 w16 =>
 m R (o_call (fv 46) [x0, x32, (.string (ByteArray.mk #[110, 111, 100, 101])), (.string (ByteArray.mk #[]))]) w16 fun x33 w17 =>
 m R (o_build 43 [(0, x19), (1, x33)]) w17 fun x34 w18 =>
 m R (o_buildSlice 26 1 [(0, x34)]) w18 fun x35 w19 =>
 m R (o_builtin .append #[26, 26] 26 [false, false] [x10, x35]) w19 fun x36 w20 =>
 m R (o_bin .add 3 true x15 (.int .i64 1)) w20 fun x37 w21 =>
 next4 x28 x36 x37 w21) (
 m R (o_load 34 x5) w5 fun x41 w22 =>
 m R (o_call (fv 46) [x0, x41, (.string (ByteArray.mk #[99, 111, 109, 109, 105, 116])), (.string (ByteArray.mk #[]))]) w22 fun x42 w23 =>
 m R (o_store 34 x8 x42) w23 fun _ w24 =>
 rcell Tryz.prog 34 x8 w24 fun r8 =>
 R (.returned (.tuple #[x9, x10, r8])) w24)
def A_climb_up : Ann := ⟨[(4, [9, 10, 15], 274877881856)], [(8, [], 32505856)], [], [], []⟩
theorem C_climb_up {x0 x1 x2 : Value} {w : World} {R : Ending → World → Prop} (h : F_climb_up x0 x1 x2 w R) : Calls Tryz.prog 45 #[x0, x1, x2] w R :=
 calls_cwp (A := A_climb_up) (args := [x0, x1, x2]) mixed Tryz.func45 (c := Tryz.f45.body.getD .skip) (by kernel_rfl) (by kernel_rfl) (by kernel_rfl) (Eq.mpr (by kernel_rfl) h)
def F_prim_Derive (x0 x1 x2 x3 : Value) (w : World) (R : Ending → World → Prop) : Prop :=
 m R (o_box 34 x1) w fun x5 w1 =>
 m R (o_alloc 34) w1 fun x8 w2 =>
 m R (o_load 34 x5) w2 fun x10 w3 =>
 m R (o_call (fv 85) [x10, x2, x3]) w3 fun x13 w4 =>
 m R (o_alloc 34) w4 fun x9 w5 =>
 m R (o_store 34 x9 x13) w5 fun _ w6 =>
 m R (o_load 34 x5) w6 fun x15 w7 =>
 m R (o_buildSlice 54 1 [(0, x15)]) w7 fun x16 w8 =>
 m R (o_load 34 x9) w8 fun x17 w9 =>
 m R (o_buildSlice 54 1 [(0, x17)]) w9 fun x18 w10 =>
 m R (o_build 86 [(0, x16), (1, x18)]) w10 fun x19 w11 =>
 m R (o_call (fv 36) [x0, x19]) w11 fun x20 w12 =>
 m R (o_load 34 x9) w12 fun x21 w13 =>
 m R (o_store 34 x8 x21) w13 fun _ w14 =>
 rcell Tryz.prog 34 x8 w14 fun r8 =>
 R (.returned r8) w14
def A_prim_Derive : Ann := ⟨[], [], [], [], []⟩
theorem C_prim_Derive {x0 x1 x2 x3 : Value} {w : World} {R : Ending → World → Prop} (h : F_prim_Derive x0 x1 x2 x3 w R) : Calls Tryz.prog 46 #[x0, x1, x2, x3] w R :=
 calls_cwp (A := A_prim_Derive) (args := [x0, x1, x2, x3]) mixed Tryz.func46 (c := Tryz.f46.body.getD .skip) (by kernel_rfl) (by kernel_rfl) (by kernel_rfl) (Eq.mpr (by kernel_rfl) h)
def F_climb_beside (x0 x1 x2 x3 : Value) (w : World) (R : Ending → World → Prop) : Prop :=
 m R (o_box 25 x0) w fun x4 w1 =>
 m R (o_box 47 x3) w1 fun x7 w2 =>
 m R (o_bin .mul 3 true (.int .i64 2) x1) w2 fun x15 w3 =>
 m R (o_builtin .len #[47] 3 [false] [x2]) w3 fun x17 w4 =>
 ml3 (.slice none 0 0) x15 (.int .i64 0) w4 fun x9 x10 x18 u4 w5 next4 =>
 m R (o_bin .lss 3 false x18 x17) w5 fun x19 w6 =>
 mif x19 (
 m R (o_indexAddr 47 x2 x18) w6 fun x20 w7 =>
 m R (o_load 3 x20) w7 fun x21 w8 =>
 dq Tryz.prog w8 (o_load 25 x4) fun x22 =>
 dp Tryz.prog (o_fieldAddr 25 x4 0) fun x23 =>
 dq Tryz.prog w8 (o_load 22 x23) fun x24 =>
 dp Tryz.prog (o_builtin .len #[22] 3 [false] [x24]) fun x25 =>
 df Tryz.prog w8 (o_call (fv 87) [x25, x10]) true fun x27 w9 =>
 df Tryz.prog w9 (o_call (fv 86) [x22, x27]) false fun x28 w10 =>
 dend w10 fun w11 =>
 m R (o_func (.func 89) [] [x7]) w11 fun x31 w12 =>
 m R (o_call (fv 88) [x28, x31]) w12 fun x32 w13 =>
 m R (o_buildSlice 95 1 [(0, x32)]) w13 fun x33 w14 =>
 m R (o_builtin .append #[95, 95] 95 [false, false] [x9, x33]) w14 fun x34 w15 =>
 m R (o_bin .add 3 true x18 (.int .i64 1)) w15 fun x36 w16 =>
 next4 x34 x21 x36 w16) (
 R (.returned x9) w6)
def A_climb_beside : Ann := ⟨[(4, [9, 10, 18], 137438705152)], [], [(6, [⟨0, .q (some 0), 16, 0, 4194304⟩, ⟨1, .q none, 16, 0, 8388608⟩, ⟨2, .q (some 0), 8388608, 2, 16777216⟩, ⟨3, .q none, 16777216, 6, 33554432⟩, ⟨4, .q none, 1024, 0, 67108864⟩, ⟨5, .f 0 true, 100663296, 30, 134217728⟩, ⟨6, .f 1 false, 138412032, 63, 268435456⟩, ⟨7, .q none, 268435456, 127, 8192⟩])], [], []⟩
theorem C_climb_beside {x0 x1 x2 x3 : Value} {w : World} {R : Ending → World → Prop} (h : F_climb_beside x0 x1 x2 x3 w R) : Calls Tryz.prog 47 #[x0, x1, x2, x3] w R :=
 calls_cwp (A := A_climb_beside) (args := [x0, x1, x2, x3]) mixed Tryz.func47 (c := Tryz.f47.body.getD .skip) (by kernel_rfl) (by kernel_rfl) (by kernel_rfl) (Eq.mpr (by kernel_rfl) h)
def F_prim_Wrap (x0 x1 x2 x3 x4 x5 : Value) (w : World) (R : Ending → World → Prop) : Prop :=
 m R (o_box 34 x1) w fun x7 w1 =>
 m R (o_box 34 x2) w1 fun x8 w2 =>
 m R (o_builtin .len #[9] 3 [false] [x4]) w2 fun x15 w3 =>
 m R (o_bin .gtr 3 true x15 (.int .i64 65536)) w3 fun x16 w4 =>
 mif x16 (
 R (.returned (.string (ByteArray.mk #[]))) w4) (
 mj1 (fun j4 =>
 ((
 dq Tryz.prog w4 (o_load 34 x7) fun x17 =>
 dp Tryz.prog (o_slice 34 x8 none none none) fun x18 =>
 dq Tryz.prog w4 (o_conv 99 9 x18) fun x19 =>
 df Tryz.prog w4 (o_call (fv 91) [x17, x19]) false fun x20 w5 =>
 df Tryz.prog w5 (o_alloc 34) true fun x13 w6 =>
 df Tryz.prog w6 (o_store 34 x13 x20) false fun _ w7 =>
 dend w7 fun w8 =>
 j4 x13 w8) ∧ (
 dq Tryz.prog w4 (o_load 34 x7) fun x17 =>
 dp Tryz.prog (o_slice 34 x8 none none none) fun x18 =>
 dq Tryz.prog w4 (o_conv 99 9 x18) fun x19 =>
 df Tryz.prog w4 (o_alloc 34) true fun x13 w9 =>
 df Tryz.prog w9 (o_call (fv 91) [x17, x19]) false fun x20 w10 =>
 df Tryz.prog w10 (o_store 34 x13 x20) false fun _ w11 =>
 dend w11 fun w12 =>
 j4 x13 w12))) fun x13 u4 w13 =>
 mj0 (fun j5 =>
 ((
 dq Tryz.prog w13 (o_load 34 x7) fun x22 =>
 dq Tryz.prog w13 (o_load 34 x13) fun x25 =>
 df Tryz.prog w13 (o_call (fv 37) [x22]) true fun x23 w14 =>
 df Tryz.prog w14 (o_buildSlice 54 1 [(0, x23)]) true fun x24 w15 =>
 df Tryz.prog w15 (o_buildSlice 54 1 [(0, x25)]) true fun x26 w16 =>
 dp Tryz.prog (o_build 86 [(0, x24), (1, x26)]) fun x27 =>
 df Tryz.prog w16 (o_call (fv 36) [x0, x27]) false fun x28 w17 =>
 dend w17 fun w18 =>
 j5 w18) ∧ (
 dq Tryz.prog w13 (o_load 34 x7) fun x22 =>
 dq Tryz.prog w13 (o_load 34 x13) fun x25 =>
 df Tryz.prog w13 (o_call (fv 37) [x22]) true fun x23 w19 =>
 df Tryz.prog w19 (o_buildSlice 54 1 [(0, x25)]) true fun x26 w20 =>
 df Tryz.prog w20 (o_buildSlice 54 1 [(0, x23)]) true fun x24 w21 =>
 dp Tryz.prog (o_build 86 [(0, x24), (1, x26)]) fun x27 =>
 df Tryz.prog w21 (o_call (fv 36) [x0, x27]) false fun x28 w22 =>
 dend w22 fun w23 =>
 j5 w23) ∧ (
 dq Tryz.prog w13 (o_load 34 x7) fun x22 =>
 dq Tryz.prog w13 (o_load 34 x13) fun x25 =>
 df Tryz.prog w13 (o_buildSlice 54 1 [(0, x25)]) true fun x26 w24 =>
 df Tryz.prog w24 (o_call (fv 37) [x22]) true fun x23 w25 =>
 df Tryz.prog w25 (o_buildSlice 54 1 [(0, x23)]) true fun x24 w26 =>
 dp Tryz.prog (o_build 86 [(0, x24), (1, x26)]) fun x27 =>
 df Tryz.prog w26 (o_call (fv 36) [x0, x27]) false fun x28 w27 =>
 dend w27 fun w28 =>
 j5 w28))) fun u5 w29 =>
 m R (o_load 34 x8) w29 fun x30 w30 =>
 m R (o_buildSlice 54 1 [(0, x30)]) w30 fun x31 w31 =>
 m R (o_load 34 x13) w31 fun x32 w32 =>
 m R (o_buildSlice 54 1 [(0, x32)]) w32 fun x33 w33 =>
 m R (o_build 86 [(0, x31), (1, x33)]) w33 fun x34 w34 =>
 m R (o_call (fv 36) [x0, x34]) w34 fun x35 w35 =>
 dp Tryz.prog (o_slice 34 x8 none none none) fun x36 =>
 dq Tryz.prog w35 (o_conv 99 9 x36) fun x37 =>
 dq Tryz.prog w35 (o_load 34 x13) fun x39 =>
 df Tryz.prog w35 (o_call (fv 92) [x0, x39, x3, x4, x5]) true fun x43 w36 =>
 dp Tryz.prog (o_bin .add 9 false x37 x43) fun x44 =>
 dend w36 fun w37 =>
 R (.returned x44) w37)
def A_prim_Wrap : Ann := ⟨[], [(4, [13], 1974272), (5, [], 534773760)], [(6, [⟨0, .q none, 256, 0, 68719476736⟩, ⟨1, .q (some 0), 68719476736, 1, 137438953472⟩, ⟨2, .q none, 1, 0, 274877906944⟩, ⟨3, .q (some 0), 8192, 0, 549755813888⟩, ⟨4, .q none, 8, 0, 1099511627776⟩, ⟨5, .q none, 16, 0, 2199023255552⟩, ⟨6, .q none, 32, 0, 4398046511104⟩, ⟨7, .f 0 true, 8521215115264, 124, 8796093022208⟩, ⟨8, .q none, 8933531975680, 255, 17592186044416⟩, ⟨9, .q none, 17592186044416, 511, 4096⟩])], [(3, [⟨[0, 1, 2, 3, 4, 5], [⟨0, .q (some 0), 128, 0, 131072⟩, ⟨1, .q none, 256, 0, 262144⟩, ⟨2, .q (some 0), 262144, 2, 524288⟩, ⟨3, .f 0 false, 655360, 7, 1048576⟩, ⟨4, .f 1 true, 0, 0, 8192⟩, ⟨5, .f 2 false, 1056768, 31, 0⟩]⟩, ⟨[0, 1, 2, 4, 3, 5], [⟨0, .q (some 0), 128, 0, 131072⟩, ⟨1, .q none, 256, 0, 262144⟩, ⟨2, .q (some 0), 262144, 2, 524288⟩, ⟨3, .f 1 false, 655360, 7, 1048576⟩, ⟨4, .f 0 true, 0, 0, 8192⟩, ⟨5, .f 2 false, 1056768, 31, 0⟩]⟩]), (4, [⟨[0, 1, 4, 2, 3, 5, 6, 7], [⟨0, .q none, 1, 0, 2097152⟩, ⟨1, .q (some 0), 128, 0, 4194304⟩, ⟨2, .f 0 true, 4194304, 2, 8388608⟩, ⟨3, .f 1 true, 8388608, 6, 16777216⟩, ⟨4, .q (some 0), 8192, 0, 33554432⟩, ⟨5, .f 2 true, 33554432, 16, 67108864⟩, ⟨6, .q none, 83886080, 62, 134217728⟩, ⟨7, .f 3 false, 136314880, 127, 268435456⟩]⟩, ⟨[0, 1, 4, 2, 5, 3, 6, 7], [⟨0, .q none, 1, 0, 2097152⟩, ⟨1, .q (some 0), 128, 0, 4194304⟩, ⟨2, .f 0 true, 4194304, 2, 8388608⟩, ⟨3, .f 2 true, 8388608, 6, 16777216⟩, ⟨4, .q (some 0), 8192, 0, 33554432⟩, ⟨5, .f 1 true, 33554432, 16, 67108864⟩, ⟨6, .q none, 83886080, 62, 134217728⟩, ⟨7, .f 3 false, 136314880, 127, 268435456⟩]⟩, ⟨[0, 1, 4, 5, 2, 3, 6, 7], [⟨0, .q none, 1, 0, 2097152⟩, ⟨1, .q (some 0), 128, 0, 4194304⟩, ⟨2, .f 1 true, 4194304, 2, 8388608⟩, ⟨3, .f 2 true, 8388608, 6, 16777216⟩, ⟨4, .q (some 0), 8192, 0, 33554432⟩, ⟨5, .f 0 true, 33554432, 16, 67108864⟩, ⟨6, .q none, 83886080, 62, 134217728⟩, ⟨7, .f 3 false, 136314880, 127, 268435456⟩]⟩])], []⟩
theorem C_prim_Wrap {x0 x1 x2 x3 x4 x5 : Value} {w : World} {R : Ending → World → Prop} (h : F_prim_Wrap x0 x1 x2 x3 x4 x5 w R) : Calls Tryz.prog 48 #[x0, x1, x2, x3, x4, x5] w R :=
 calls_cwp (A := A_prim_Wrap) (args := [x0, x1, x2, x3, x4, x5]) mixed Tryz.func48 (c := Tryz.f48.body.getD .skip) (by kernel_rfl) (by kernel_rfl) (by kernel_rfl) (Eq.mpr (by kernel_rfl) h)
def F_climb_num (x0 : Value) (w : World) (R : Ending → World → Prop) : Prop :=
 m R (o_call (fv 93) []) w fun x8 w1 =>
 m R (o_builtin .len #[47] 3 [false] [x0]) w1 fun x10 w2 =>
 ml1 (.int .i64 0) w2 fun x11 u3 w3 next3 =>
 m R (o_bin .lss 3 false x11 x10) w3 fun x12 w4 =>
 mif x12 (
 m R (o_indexAddr 47 x0 x11) w4 fun x13 w5 =>
 m R (o_load 3 x13) w5 fun x14 w6 =>
 m R (o_call (fv 94) [x8, x14]) w6 fun x17 w7 =>
 m R (o_bin .add 3 true x11 (.int .i64 1)) w7 fun x18 w8 =>
 next3 x18 w8) (
 m R (o_call (fv 95) [x8]) w4 fun x21 w9 =>
 m R (o_extract x21 0) w9 fun x22 w10 =>
 m R (o_extract x21 1) w10 fun x23 w11 =>
 R (.returned x22) w11)
def A_climb_num : Ann := ⟨[(3, [11], 522272)], [], [], [], []⟩
theorem C_climb_num {x0 : Value} {w : World} {R : Ending → World → Prop} (h : F_climb_num x0 w R) : Calls Tryz.prog 49 #[x0] w R :=
 calls_cwp (A := A_climb_num) (args := [x0]) mixed Tryz.func49 (c := Tryz.f49.body.getD .skip) (by kernel_rfl) (by kernel_rfl) (by kernel_rfl) (Eq.mpr (by kernel_rfl) h)
def F_tree_Path (x0 x1 x2 x3 : Value) (w : World) (R : Ending → World → Prop) : Prop :=
 m R (o_box 25 x0) w fun x4 w1 =>
 m R (o_box 34 x2) w1 fun x6 w2 =>
 m R (o_alloc 25) w2 fun x8 w3 =>
 m R (o_load 25 x4) w3 fun x17 w4 =>
 m R (o_call (fv 24) [x17]) w4 fun x18 w5 =>
 m R (o_un .not x18) w5 fun x19 w6 =>
 mif x19 (
 m R (o_build 25 []) w6 fun x20 w7 =>
 m R (o_store 25 x8 x20) w7 fun _ w8 =>
 rcell Tryz.prog 25 x8 w8 fun r8 =>
 R (.returned (.tuple #[r8, (.int .i64 1)])) w8) (
 m R (o_load 25 x4) w6 fun x22 w9 =>
 m R (o_call (fv 42) [x22, x1]) w9 fun x24 w10 =>
 mif x24 (
 m R (o_build 25 []) w10 fun x25 w11 =>
 m R (o_store 25 x8 x25) w11 fun _ w12 =>
 rcell Tryz.prog 25 x8 w12 fun r8 =>
 R (.returned (.tuple #[r8, (.int .i64 7)])) w12) (
 m R (o_fieldAddr 25 x4 0) w10 fun x26 w13 =>
 m R (o_load 22 x26) w13 fun x27 w14 =>
 m R (o_builtin .len #[22] 3 [false] [x27]) w14 fun x28 w15 =>
 m R (o_call (fv 32) [x28, x1]) w15 fun x31 w16 =>
 m R (o_builtin .len #[47] 3 [false] [x31]) w16 fun x33 w17 =>
 m R (o_builtin .len #[54] 3 [false] [x3]) w17 fun x35 w18 =>
 m R (o_bin .neq 3 false x33 x35) w18 fun x36 w19 =>
 mif x36 (
 m R (o_build 25 []) w19 fun x37 w20 =>
 m R (o_store 25 x8 x37) w20 fun _ w21 =>
 rcell Tryz.prog 25 x8 w21 fun r8 =>
 R (.returned (.tuple #[r8, (.int .i64 16)])) w21) (
 m R (o_load 25 x4) w19 fun x38 w22 =>
 m R (o_call (fv 30) [x38]) w22 fun x39 w23 =>
 m R (o_store 25 x4 x39) w23 fun _ w24 =>
 m R (o_build 34 []) w24 fun x40 w25 =>
 m R (o_alloc 34) w25 fun x12 w26 =>
 m R (o_store 34 x12 x40) w26 fun _ w27 =>
 m R (o_builtin .len #[47] 3 [false] [x31]) w27 fun x42 w28 =>
 m R (o_bin .sub 3 true x42 (.int .i64 1)) w28 fun x43 w29 =>
 ml1 x43 w29 fun x13 u12 w30 next12 =>
 m R (o_bin .geq 3 true x13 (.int .i64 0)) w30 fun x45 w31 =>
 mif x45 (
 dp Tryz.prog (o_fieldAddr 25 x4 1) fun x48 =>
 dq Tryz.prog w31 (o_load 23 x48) fun x49 =>
 dp Tryz.prog (o_indexAddr 47 x31 x13) fun x52 =>
 dq Tryz.prog w31 (o_load 3 x52) fun x53 =>
 dp Tryz.prog (o_bin .quo 3 true x53 (.int .i64 2)) fun x54 =>
 dp Tryz.prog (o_indexAddr 54 x3 x13) fun x57 =>
 dq Tryz.prog w31 (o_load 34 x57) fun x58 =>
 dq Tryz.prog w31 (o_load 34 x12) fun x59 =>
 dp Tryz.prog (o_build 69 [(0, (.bool true)), (1, x58), (2, x59)]) fun x60 =>
 dp Tryz.prog (o_indexAddr 23 x49 x54) fun x61 =>
 df Tryz.prog w31 (o_store 69 x61 x60) false fun _ w32 =>
 dend w32 fun w33 =>
 m R (o_bin .mul 3 true (.int .i64 2) x1) w33 fun x63 w34 =>
 mj1 (fun j18 =>
 m R (o_bin .gtr 3 true x13 (.int .i64 0)) w34 fun x65 w35 =>
 mif x65 (
 m R (o_bin .sub 3 true x13 (.int .i64 1)) w35 fun x68 w36 =>
 m R (o_indexAddr 47 x31 x68) w36 fun x69 w37 =>
 m R (o_load 3 x69) w37 fun x70 w38 =>
 j18 x70 w38) (
 j18 x63 w35)) fun x14 u18 w39 =>
 mj1 (fun j19 =>
 ((
 dq Tryz.prog w39 (o_load 25 x4) fun x71 =>
 df Tryz.prog w39 (o_call (fv 87) [x28, x14]) true fun x74 w40 =>
 df Tryz.prog w40 (o_call (fv 96) [x71, x74]) false fun x75 w41 =>
 df Tryz.prog w41 (o_alloc 34) true fun x15 w42 =>
 df Tryz.prog w42 (o_store 34 x15 x75) false fun _ w43 =>
 dend w43 fun w44 =>
 j19 x15 w44) ∧ (
 dq Tryz.prog w39 (o_load 25 x4) fun x71 =>
 df Tryz.prog w39 (o_call (fv 87) [x28, x14]) true fun x74 w45 =>
 df Tryz.prog w45 (o_alloc 34) true fun x15 w46 =>
 df Tryz.prog w46 (o_call (fv 96) [x71, x74]) false fun x75 w47 =>
 df Tryz.prog w47 (o_store 34 x15 x75) false fun _ w48 =>
 dend w48 fun w49 =>
 j19 x15 w49) ∧ (
 dq Tryz.prog w39 (o_load 25 x4) fun x71 =>
 df Tryz.prog w39 (o_alloc 34) true fun x15 w50 =>
 df Tryz.prog w50 (o_call (fv 87) [x28, x14]) true fun x74 w51 =>
 df Tryz.prog w51 (o_call (fv 96) [x71, x74]) false fun x75 w52 =>
 df Tryz.prog w52 (o_store 34 x15 x75) false fun _ w53 =>
 dend w53 fun w54 =>
 j19 x15 w54))) fun x15 u19 w55 =>
 dp Tryz.prog (o_indexAddr 54 x3 x13) fun x78 =>
 dp Tryz.prog (o_slice 34 x78 none none none) fun x79 =>
 dq Tryz.prog w55 (o_conv 99 9 x79) fun x80 =>
 dp Tryz.prog (o_slice 34 x12 none none none) fun x81 =>
 dq Tryz.prog w55 (o_conv 99 9 x81) fun x82 =>
 dp Tryz.prog (o_slice 34 x15 none none none) fun x83 =>
 dq Tryz.prog w55 (o_conv 99 9 x83) fun x84 =>
 df Tryz.prog w55 (o_buildSlice 70 4 [(0, (.string (ByteArray.mk #[97, 98, 111, 118, 101]))), (1, x80), (2, x82), (3, x84)]) false fun x85 w56 =>
 df Tryz.prog w56 (o_call (fv 80) [x85]) false fun x86 w57 =>
 df Tryz.prog w57 (o_store 34 x12 x86) false fun _ w58 =>
 dend w58 fun w59 =>
 m R (o_bin .sub 3 true x13 (.int .i64 1)) w59 fun x47 w60 =>
 next12 x47 w60) (
 ∃ S : Rl,
 dp Tryz.prog (o_fieldAddr 25 x4 0) fun x87 =>
 dqS Tryz.prog S w31 (o_load 22 x87) fun x88 =>
 dp Tryz.prog (o_fieldAddr 25 x4 0) fun x90 =>
 dqS Tryz.prog S w31 (o_load 22 x90) fun x91 =>
 dqS Tryz.prog S w31 (o_load 34 x6) fun x93 =>
 dqS Tryz.prog S w31 (o_load 34 x12) fun x94 =>
 dp Tryz.prog (o_indexAddr 22 x88 x1) fun x95 =>
 dp Tryz.prog (o_fieldAddr 40 x95 1) fun x96 =>
 dfS Tryz.prog S w31 (o_store 34 x96 x93) true fun _ w61 =>
 dp Tryz.prog (o_indexAddr 22 x91 x1) fun x97 =>
 dp Tryz.prog (o_fieldAddr 40 x97 3) fun x98 =>
 dfS Tryz.prog S w61 (o_store 34 x98 x94) false fun _ w62 =>
 dend w62 fun w63 =>
 m R (o_load 25 x4) w63 fun x99 w64 =>
 m R (o_store 25 x8 x99) w64 fun _ w65 =>
 rcell Tryz.prog 25 x8 w65 fun r8 =>
 R (.returned (.tuple #[r8, (.int .i64 0)])) w65))))
def A_tree_Path : Ann := ⟨[(12, [13], 154742504910654942176403456)], [(18, [14], 2342736497361113071616), (19, [15], 73196680484479500845056)], [(14, [⟨0, .q none, 16, 0, 281474976710656⟩, ⟨1, .q (some 0), 281474976710656, 1, 562949953421312⟩, ⟨2, .q none, 2048, 0, 1125899906842624⟩, ⟨3, .q none, 8192, 0, 2251799813685248⟩, ⟨4, .q none, 3377699720527872, 12, 4503599627370496⟩, ⟨5, .q (some 0), 4503599627370496, 28, 9007199254740992⟩, ⟨6, .q none, 9007199254740992, 60, 18014398509481984⟩, ⟨7, .q none, 8, 0, 36028797018963968⟩, ⟨8, .q none, 8192, 0, 72057594037927936⟩, ⟨9, .q none, 108086391056891904, 384, 144115188075855872⟩, ⟨10, .q (some 0), 144115188075855872, 896, 288230376151711744⟩, ⟨11, .q (some 0), 4096, 0, 576460752303423488⟩, ⟨12, .q none, 864691128455135232, 3968, 1152921504606846976⟩, ⟨13, .q none, 18577348462903296, 8191, 2305843009213693952⟩, ⟨14, .f 0 false, 3458764513820540928, 16383, 0⟩]), (19, [⟨0, .q none, 8, 0, 75557863725914323419136⟩, ⟨1, .q none, 8192, 0, 151115727451828646838272⟩, ⟨2, .q none, 226673591177742970257408, 3, 302231454903657293676544⟩, ⟨3, .q none, 302231454903657293676544, 7, 604462909807314587353088⟩, ⟨4, .q (some 0), 604462909807314587353088, 15, 1208925819614629174706176⟩, ⟨5, .q none, 4096, 0, 2417851639229258349412352⟩, ⟨6, .q (some 0), 2417851639229258349412352, 32, 4835703278458516698824704⟩, ⟨7, .q none, 32768, 0, 9671406556917033397649408⟩, ⟨8, .q (some 0), 9671406556917033397649408, 128, 19342813113834066795298816⟩, ⟨9, .f 0 false, 25387442211907212668829696, 511, 38685626227668133590597632⟩, ⟨10, .f 1 false, 38685626227668133590597632, 1023, 77371252455336267181195264⟩, ⟨11, .f 2 false, 77371252455336267181199360, 2047, 0⟩]), (20, [⟨0, .q none, 16, 0, 154742504910672534362390528⟩, ⟨1, .q (some 0), 154742504910672534362390528, 1, 309485009821345068724781056⟩, ⟨2, .q none, 2, 0, 618970019642690137449562112⟩, ⟨3, .q none, 16, 0, 1237940039285380274899124224⟩, ⟨4, .q (some 0), 1237940039285380274899124224, 8, 2475880078570760549798248448⟩, ⟨5, .q none, 2, 0, 4951760157141521099596496896⟩, ⟨6, .q (some 0), 64, 0, 9903520314283042199192993792⟩, ⟨7, .q (some 0), 4096, 0, 19807040628566084398385987584⟩, ⟨8, .q none, 928455029464035206174343168, 199, 39614081257132168796771975168⟩, ⟨9, .q none, 39614081257132168796771975168, 455, 79228162514264337593543950336⟩, ⟨10, .f 0 true, 89131682828547379792736944128, 967, 0⟩, ⟨11, .q none, 7427640235712281649394745344, 2047, 158456325028528675187087900672⟩, ⟨12, .q none, 158456325028528675187087900672, 4095, 316912650057057350374175801344⟩, ⟨13, .f 1 false, 336719690685623434772561788928, 8191, 0⟩])], [(18, [⟨[0, 1, 2, 3, 4, 5, 6], [⟨0, .q (some 0), 16, 0, 2361183241434822606848⟩, ⟨1, .q none, 1024, 0, 4722366482869645213696⟩, ⟨2, .q none, 16384, 0, 9444732965739290427392⟩, ⟨3, .f 0 true, 14167099448608935641088, 6, 18889465931478580854784⟩, ⟨4, .f 1 false, 21250649172913403461632, 15, 37778931862957161709568⟩, ⟨5, .f 2 true, 0, 0, 32768⟩, ⟨6, .f 3 false, 37778931862957161742336, 63, 0⟩]⟩, ⟨[0, 1, 2, 3, 5, 4, 6], [⟨0, .q (some 0), 16, 0, 2361183241434822606848⟩, ⟨1, .q none, 1024, 0, 4722366482869645213696⟩, ⟨2, .q none, 16384, 0, 9444732965739290427392⟩, ⟨3, .f 0 true, 14167099448608935641088, 6, 18889465931478580854784⟩, ⟨4, .f 2 false, 21250649172913403461632, 15, 37778931862957161709568⟩, ⟨5, .f 1 true, 0, 0, 32768⟩, ⟨6, .f 3 false, 37778931862957161742336, 63, 0⟩]⟩, ⟨[0, 1, 2, 5, 3, 4, 6], [⟨0, .q (some 0), 16, 0, 2361183241434822606848⟩, ⟨1, .q none, 1024, 0, 4722366482869645213696⟩, ⟨2, .q none, 16384, 0, 9444732965739290427392⟩, ⟨3, .f 1 true, 14167099448608935641088, 6, 18889465931478580854784⟩, ⟨4, .f 2 false, 21250649172913403461632, 15, 37778931862957161709568⟩, ⟨5, .f 0 true, 0, 0, 32768⟩, ⟨6, .f 3 false, 37778931862957161742336, 63, 0⟩]⟩])], [20]⟩
theorem C_tree_Path {x0 x1 x2 x3 : Value} {w : World} {R : Ending → World → Prop} (h : F_tree_Path x0 x1 x2 x3 w R) : Calls Tryz.prog 50 #[x0, x1, x2, x3] w R :=
 calls_cwp (A := A_tree_Path) (args := [x0, x1, x2, x3]) mixed Tryz.func50 (c := Tryz.f50.body.getD .skip) (by kernel_rfl) (by kernel_rfl) (by kernel_rfl) (Eq.mpr (by kernel_rfl) h)
def F_bevyref07_There (x0 x1 : Value) (w : World) (R : Ending → World → Prop) : Prop :=
 m R (o_bin .geq 3 true x0 (.int .i64 1)) w fun x6 w1 =>
 mguard x6 true (fun k => m R (o_move x0) w1 k) w1 fun x8 w2 =>
 mguard x6 true (fun k => m R (o_bin .leq 3 true x8 (.int .i64 64)) w2 k) w2 fun x9 w3 =>
 m R (o_pick x6 x9 (.bool false)) w3 fun x10 w4 =>
 mguard x10 true (fun k => m R (o_move x1) w4 k) w4 fun x12 w5 =>
 mguard x10 true (fun k => m R (o_bin .geq 3 true x12 (.int .i64 0)) w5 k) w5 fun x13 w6 =>
 m R (o_pick x10 x13 (.bool false)) w6 fun x14 w7 =>
 mguard x14 true (fun k => m R (o_move x1) w7 k) w7 fun x16 w8 =>
 mguard x14 true (fun k => m R (o_move x0) w8 k) w8 fun x17 w9 =>
 mguard x14 true (fun k => m R (o_bin .mul 3 true (.int .i64 2) x17) w9 k) w9 fun x18 w10 =>
 mguard x14 true (fun k => m R (o_bin .sub 3 true x18 (.int .i64 2)) w10 k) w10 fun x19 w11 =>
 mguard x14 true (fun k => m R (o_bin .leq 3 false x16 x19) w11 k) w11 fun x20 w12 =>
 m R (o_pick x14 x20 (.bool false)) w12 fun x21 w13 =>
 R (.returned x21) w13
def A_bevyref07_There : Ann := ⟨[], [], [], [], []⟩
theorem C_bevyref07_There {x0 x1 : Value} {w : World} {R : Ending → World → Prop} (h : F_bevyref07_There x0 x1 w R) : Calls Tryz.prog 51 #[x0, x1] w R :=
 calls_cwp (A := A_bevyref07_There) (args := [x0, x1]) mixed Tryz.func51 (c := Tryz.f51.body.getD .skip) (by kernel_rfl) (by kernel_rfl) (by kernel_rfl) (Eq.mpr (by kernel_rfl) h)
def F_bevyref07_Holds (x0 x1 x2 : Value) (w : World) (R : Ending → World → Prop) : Prop :=
 m R (o_call (fv 98) [x0, x1]) w fun x12 w1 =>
 m R (o_extract x12 0) w1 fun x13 w2 =>
 m R (o_extract x12 1) w2 fun x14 w3 =>
 m R (o_bin .geq 3 false x2 x13) w3 fun x17 w4 =>
 mguard x17 true (fun k => m R (o_move x2) w4 k) w4 fun x19 w5 =>
 mguard x17 true (fun k => m R (o_move x14) w5 k) w5 fun x20 w6 =>
 mguard x17 true (fun k => m R (o_bin .lss 3 false x19 x20) w6 k) w6 fun x21 w7 =>
 m R (o_pick x17 x21 (.bool false)) w7 fun x22 w8 =>
 R (.returned x22) w8
def A_bevyref07_Holds : Ann := ⟨[], [], [], [], []⟩
theorem C_bevyref07_Holds {x0 x1 x2 : Value} {w : World} {R : Ending → World → Prop} (h : F_bevyref07_Holds x0 x1 x2 w R) : Calls Tryz.prog 53 #[x0, x1, x2] w R :=
 calls_cwp (A := A_bevyref07_Holds) (args := [x0, x1, x2]) mixed Tryz.func53 (c := Tryz.f53.body.getD .skip) (by kernel_rfl) (by kernel_rfl) (by kernel_rfl) (Eq.mpr (by kernel_rfl) h)
def F_slices_Index_int_int (x0 x1 : Value) (w : World) (R : Ending → World → Prop) : Prop :=
 m R (o_builtin .len #[47] 3 [false] [x0]) w fun x7 w1 =>
 ml1 (.int .i64 0) w1 fun x8 u2 w2 next2 =>
 m R (o_bin .lss 3 false x8 x7) w2 fun x9 w3 =>
 mif x9 (
 m R (o_indexAddr 47 x0 x8) w3 fun x14 w4 =>
 m R (o_load 3 x14) w4 fun x15 w5 =>
 m R (o_bin .eql 3 false x1 x15) w5 fun x16 w6 =>
 mif x16 (
 R (.returned x8) w6) (
 m R (o_bin .add 3 true x8 (.int .i64 1)) w6 fun x18 w7 =>
 next2 x18 w7)) (
 R (.returned (.int .i64 (-1))) w3)
def A_slices_Index_int_int : Ann := ⟨[(2, [8], 524080)], [], [], [], []⟩
theorem C_slices_Index_int_int {x0 x1 : Value} {w : World} {R : Ending → World → Prop} (h : F_slices_Index_int_int x0 x1 w R) : Calls Tryz.prog 54 #[x0, x1] w R :=
 calls_cwp (A := A_slices_Index_int_int) (args := [x0, x1]) mixed Tryz.func54 (c := Tryz.f54.body.getD .skip) (by kernel_rfl) (by kernel_rfl) (by kernel_rfl) (Eq.mpr (by kernel_rfl) h)
def F_climb_risen (x0 x1 x2 x3 : Value) (w : World) (R : Ending → World → Prop) : Prop :=
 m R (o_box 34 x2) w fun x6 w1 =>
 m R (o_alloc 56) w1 fun x8 w2 =>
 m R (o_load 34 x6) w2 fun x20 w3 =>
 m R (o_call (fv 45) [(.pointer none), x1, x20]) w3 fun x21 w4 =>
 m R (o_extract x21 0) w4 fun x22 w5 =>
 m R (o_extract x21 1) w5 fun x23 w6 =>
 m R (o_extract x21 2) w6 fun x24 w7 =>
 m R (o_alloc 34) w7 fun x12 w8 =>
 m R (o_store 34 x12 x24) w8 fun _ w9 =>
 m R (o_builtin .len #[26] 3 [false] [x23]) w9 fun x26 w10 =>
 ml1 (.int .i64 0) w10 fun x27 u3 w11 next3 =>
 m R (o_bin .lss 3 false x27 x26) w11 fun x28 w12 =>
 mif x28 (
 m R (o_indexAddr 26 x23 x27) w12 fun x30 w13 =>
 m R (o_load 43 x30) w13 fun x31 w14 =>
 m R (o_alloc 43) w14 fun x14 w15 =>
 m R (o_store 43 x14 x31) w15 fun _ w16 =>
 dp Tryz.prog (o_fieldAddr 43 x14 1) fun x32 =>
 dq Tryz.prog w16 (o_load 34 x32) fun x33 =>
 df Tryz.prog w16 (o_call (fv 11) [(.pointer none), x33]) true fun x34 w17 =>
 dp Tryz.prog (o_indexAddr 54 x3 x27) fun x37 =>
 dq Tryz.prog w16 (o_load 34 x37) fun x38 =>
 dp Tryz.prog (o_bin .neq 34 false x34 x38) fun x39 =>
 dend w17 fun w18 =>
 mif x39 (
 m R (o_build 56 []) w18 fun x40 w19 =>
 m R (o_store 56 x8 x40) w19 fun _ w20 =>
 rcell Tryz.prog 56 x8 w20 fun r8 =>
 R (.returned (.tuple #[r8, (.bool false)])) w20) (
 m R (o_bin .add 3 true x27 (.int .i64 1)) w18 fun x41 w21 =>
 next3 x41 w21)) (
 m R (o_alloc 56) w12 fun x15 w22 =>
 m R (o_load 34 x6) w22 fun x45 w23 =>
 m R (o_call (fv 45) [x0, x1, x45]) w23 fun x46 w24 =>
 m R (o_extract x46 0) w24 fun x47 w25 =>
 m R (o_extract x46 1) w25 fun x48 w26 =>
 m R (o_extract x46 2) w26 fun x49 w27 =>
 m R (o_fieldAddr 56 x15 2) w27 fun x50 w28 =>
 m R (o_store 54 x50 x47) w28 fun _ w29 =>
 m R (o_fieldAddr 56 x15 3) w29 fun x51 w30 =>
 m R (o_store 26 x51 x48) w30 fun _ w31 =>
 m R (o_fieldAddr 56 x15 4) w31 fun x52 w32 =>
 m R (o_store 34 x52 x49) w32 fun _ w33 =>
 m R (o_fieldAddr 56 x15 3) w33 fun x53 w34 =>
 m R (o_load 26 x53) w34 fun x54 w35 =>
 m R (o_builtin .len #[26] 3 [false] [x54]) w35 fun x55 w36 =>
 ml1 (.int .i64 0) w36 fun x56 u11 w37 next11 =>
 m R (o_bin .lss 3 false x56 x55) w37 fun x57 w38 =>
 mif x57 (
 m R (o_indexAddr 26 x54 x56) w38 fun x58 w39 =>
 m R (o_load 43 x58) w39 fun x59 w40 =>
 m R (o_alloc 43) w40 fun x17 w41 =>
 m R (o_store 43 x17 x59) w41 fun _ w42 =>
 m R (o_fieldAddr 43 x17 1) w42 fun x61 w43 =>
 m R (o_load 34 x61) w43 fun x62 w44 =>
 m R (o_call (fv 11) [x0, x62]) w44 fun x63 w45 =>
 m R (o_bin .add 3 true x56 (.int .i64 1)) w45 fun x64 w46 =>
 next11 x64 w46) (
 m R (o_load 56 x15) w38 fun x65 w47 =>
 m R (o_store 56 x8 x65) w47 fun _ w48 =>
 rcell Tryz.prog 56 x8 w48 fun r8 =>
 R (.returned (.tuple #[r8, (.bool true)])) w48))
def A_climb_risen : Ann := ⟨[(3, [27], 4397912318464), (11, [56], 36821430553381306368)], [], [(5, [⟨0, .q none, 16384, 0, 4294967296⟩, ⟨1, .q (some 0), 4294967296, 1, 8589934592⟩, ⟨2, .f 0 true, 8589934592, 3, 17179869184⟩, ⟨3, .q none, 8, 0, 34359738368⟩, ⟨4, .q none, 8192, 0, 68719476736⟩, ⟨5, .q none, 103079215104, 24, 137438953472⟩, ⟨6, .q (some 0), 137438953472, 56, 274877906944⟩, ⟨7, .q none, 292057776128, 127, 549755813888⟩])], [], []⟩
theorem C_climb_risen {x0 x1 x2 x3 : Value} {w : World} {R : Ending → World → Prop} (h : F_climb_risen x0 x1 x2 x3 w R) : Calls Tryz.prog 56 #[x0, x1, x2, x3] w R :=
 calls_cwp (A := A_climb_risen) (args := [x0, x1, x2, x3]) mixed Tryz.func56 (c := Tryz.f56.body.getD .skip) (by kernel_rfl) (by kernel_rfl) (by kernel_rfl) (Eq.mpr (by kernel_rfl) h)
def F_slices_IndexFunc_int_int (x0 x1 : Value) (w : World) (R : Ending → World → Prop) : Prop :=
 m R (o_builtin .len #[47] 3 [false] [x0]) w fun x7 w1 =>
 ml1 (.int .i64 0) w1 fun x8 u2 w2 next2 =>
 m R (o_bin .lss 3 false x8 x7) w2 fun x9 w3 =>
 mif x9 (
 m R (o_indexAddr 47 x0 x8) w3 fun x14 w4 =>
 m R (o_load 3 x14) w4 fun x15 w5 =>
 m R (o_call x1 [x15]) w5 fun x16 w6 =>
 mif x16 (
 R (.returned x8) w6) (
 m R (o_bin .add 3 true x8 (.int .i64 1)) w6 fun x18 w7 =>
 next2 x18 w7)) (
 R (.returned (.int .i64 (-1))) w3)
def A_slices_IndexFunc_int_int : Ann := ⟨[(2, [8], 524080)], [], [], [], []⟩
theorem C_slices_IndexFunc_int_int {x0 x1 : Value} {w : World} {R : Ending → World → Prop} (h : F_slices_IndexFunc_int_int x0 x1 w R) : Calls Tryz.prog 58 #[x0, x1] w R :=
 calls_cwp (A := A_slices_IndexFunc_int_int) (args := [x0, x1]) mixed Tryz.func58 (c := Tryz.f58.body.getD .skip) (by kernel_rfl) (by kernel_rfl) (by kernel_rfl) (Eq.mpr (by kernel_rfl) h)
def F_climb_Follow_1 (x0 x1 x2 : Value) (w : World) (R : Ending → World → Prop) : Prop :=
 m R (o_load 3 x1) w fun x5 w1 =>
 m R (o_load 3 x2) w1 fun x7 w2 =>
 m R (o_call (fv 60) [x5, x0, x7]) w2 fun x8 w3 =>
 R (.returned x8) w3
def A_climb_Follow_1 : Ann := ⟨[], [], [], [], []⟩
theorem C_climb_Follow_1 {x0 x1 x2 : Value} {w : World} {R : Ending → World → Prop} (h : F_climb_Follow_1 x0 x1 x2 w R) : Calls Tryz.prog 59 #[x0, x1, x2] w R :=
 calls_cwp (A := A_climb_Follow_1) (args := [x0, x1, x2]) mixed Tryz.func59 (c := Tryz.f59.body.getD .skip) (by kernel_rfl) (by kernel_rfl) (by kernel_rfl) (Eq.mpr (by kernel_rfl) h)
def F_bough_Holds (x0 x1 x2 : Value) (w : World) (R : Ending → World → Prop) : Prop :=
 m R (o_call (fv 100) [x0, x1]) w fun x12 w1 =>
 m R (o_extract x12 0) w1 fun x13 w2 =>
 m R (o_extract x12 1) w2 fun x14 w3 =>
 m R (o_bin .geq 3 false x2 x13) w3 fun x17 w4 =>
 mguard x17 true (fun k => m R (o_move x2) w4 k) w4 fun x19 w5 =>
 mguard x17 true (fun k => m R (o_move x14) w5 k) w5 fun x20 w6 =>
 mguard x17 true (fun k => m R (o_bin .lss 3 false x19 x20) w6 k) w6 fun x21 w7 =>
 m R (o_pick x17 x21 (.bool false)) w7 fun x22 w8 =>
 R (.returned x22) w8
def A_bough_Holds : Ann := ⟨[], [], [], [], []⟩
theorem C_bough_Holds {x0 x1 x2 : Value} {w : World} {R : Ending → World → Prop} (h : F_bough_Holds x0 x1 x2 w R) : Calls Tryz.prog 60 #[x0, x1, x2] w R :=
 calls_cwp (A := A_bough_Holds) (args := [x0, x1, x2]) mixed Tryz.func60 (c := Tryz.f60.body.getD .skip) (by kernel_rfl) (by kernel_rfl) (by kernel_rfl) (Eq.mpr (by kernel_rfl) h)
def F_climb_opened (x0 x1 x2 x3 : Value) (w : World) (R : Ending → World → Prop) : Prop :=
 m R (o_alloc 34) w fun x8 w1 =>
 m R (o_builtin .len #[47] 3 [false] [x0]) w1 fun x16 w2 =>
 ml1 (.int .i64 0) w2 fun x17 u2 w3 next2 =>
 m R (o_bin .lss 3 false x17 x16) w3 fun x18 w4 =>
 mif x18 (
 m R (o_indexAddr 47 x0 x17) w4 fun x20 w5 =>
 m R (o_load 3 x20) w5 fun x21 w6 =>
 m R (o_alloc 3) w6 fun x11 w7 =>
 m R (o_store 3 x11 x21) w7 fun _ w8 =>
 m R (o_func (.func 102) [] [x11]) w8 fun x23 w9 =>
 m R (o_call (fv 101) [x3, x23]) w9 fun x24 w10 =>
 m R (o_bin .lss 3 true x24 (.int .i64 0)) w10 fun x26 w11 =>
 mif x26 (
 m R (o_bin .add 3 true x17 (.int .i64 1)) w11 fun x55 w12 =>
 next2 x55 w12) (
 dp Tryz.prog (o_indexAddr 26 x3 x24) fun x30 =>
 dp Tryz.prog (o_fieldAddr 43 x30 1) fun x31 =>
 dq Tryz.prog w11 (o_load 34 x31) fun x32 =>
 dp Tryz.prog (o_indexAddr 70 x1 x17) fun x36 =>
 dq Tryz.prog w11 (o_load 9 x36) fun x37 =>
 df Tryz.prog w11 (o_call (fv 103) [x32, x2, x37]) false fun x38 w13 =>
 dp Tryz.prog (o_extract x38 0) fun x39 =>
 dp Tryz.prog (o_extract x38 1) fun x40 =>
 dend w13 fun w14 =>
 m R (o_bin .neq 35 true x40 (.int .i64 0)) w14 fun x43 w15 =>
 mif x43 (
 m R (o_build 34 []) w15 fun x44 w16 =>
 m R (o_store 34 x8 x44) w16 fun _ w17 =>
 rcell Tryz.prog 34 x8 w17 fun r8 =>
 R (.returned (.tuple #[r8, x40])) w17) (
 m R (o_builtin .len #[9] 3 [false] [x39]) w15 fun x48 w18 =>
 m R (o_bin .neq 3 true x48 (.int .i64 32)) w18 fun x49 w19 =>
 mif x49 (
 m R (o_build 34 []) w19 fun x50 w20 =>
 m R (o_store 34 x8 x50) w20 fun _ w21 =>
 rcell Tryz.prog 34 x8 w21 fun r8 =>
 R (.returned (.tuple #[r8, (.int .i64 3)])) w21) (
 m R (o_conv 9 99 x39) w19 fun x52 w22 =>
 m R (o_arrayAt 34 x52) w22 fun x53 w23 =>
 m R (o_load 34 x53) w23 fun x54 w24 =>
 m R (o_store 34 x8 x54) w24 fun _ w25 =>
 rcell Tryz.prog 34 x8 w25 fun r8 =>
 R (.returned (.tuple #[r8, (.int .i64 0)])) w25)))) (
 m R (o_build 34 []) w4 fun x56 w26 =>
 m R (o_store 34 x8 x56) w26 fun _ w27 =>
 rcell Tryz.prog 34 x8 w27 fun r8 =>
 R (.returned (.tuple #[r8, (.int .i64 10)])) w27)
def A_climb_opened : Ann := ⟨[(2, [17], 72057594037829120)], [], [(6, [⟨0, .q none, 8, 0, 268435456⟩, ⟨1, .q none, 4096, 0, 536870912⟩, ⟨2, .q none, 805306368, 3, 1073741824⟩, ⟨3, .q none, 1073741824, 7, 2147483648⟩, ⟨4, .q (some 0), 2147483648, 15, 4294967296⟩, ⟨5, .q none, 4, 0, 8589934592⟩, ⟨6, .q none, 2, 0, 17179869184⟩, ⟨7, .q none, 1024, 0, 34359738368⟩, ⟨8, .q none, 51539607552, 192, 68719476736⟩, ⟨9, .q (some 0), 68719476736, 448, 137438953472⟩, ⟨10, .f 0 false, 150323855360, 1023, 274877906944⟩, ⟨11, .q none, 274877906944, 2047, 134217728⟩, ⟨12, .q none, 134217728, 4095, 549755813888⟩, ⟨13, .q none, 134217728, 4095, 1099511627776⟩, ⟨14, .q none, 549755813888, 8191, 8192⟩, ⟨15, .q none, 1099511627776, 32767, 16384⟩])], [], []⟩
theorem C_climb_opened {x0 x1 x2 x3 : Value} {w : World} {R : Ending → World → Prop} (h : F_climb_opened x0 x1 x2 x3 w R) : Calls Tryz.prog 61 #[x0, x1, x2, x3] w R :=
 calls_cwp (A := A_climb_opened) (args := [x0, x1, x2, x3]) mixed Tryz.func61 (c := Tryz.f61.body.getD .skip) (by kernel_rfl) (by kernel_rfl) (by kernel_rfl) (Eq.mpr (by kernel_rfl) h)
def F_slices_Clone_string_string (x0 : Value) (w : World) (R : Ending → World → Prop) : Prop :=
 m R (o_bin .eql 70 true x0 (.slice none 0 0)) w fun x4 w1 =>
 mif x4 (
 R (.returned (.slice none 0 0)) w1) (
 m R (o_buildSlice 70 0 []) w1 fun x5 w2 =>
 m R (o_builtin .append #[70, 70] 70 [false, false] [x5, x0]) w2 fun x7 w3 =>
 R (.returned x7) w3)
def A_slices_Clone_string_string : Ann := ⟨[], [], [], [], []⟩
theorem C_slices_Clone_string_string {x0 : Value} {w : World} {R : Ending → World → Prop} (h : F_slices_Clone_string_string x0 w R) : Calls Tryz.prog 62 #[x0] w R :=
 calls_cwp (A := A_slices_Clone_string_string) (args := [x0]) mixed Tryz.func62 (c := Tryz.f62.body.getD .skip) (by kernel_rfl) (by kernel_rfl) (by kernel_rfl) (Eq.mpr (by kernel_rfl) h)
def F_bevyref07_Same (x0 x1 : Value) (w : World) (R : Ending → World → Prop) : Prop :=
 m R (o_builtin .len #[47] 3 [false] [x0]) w fun x7 w1 =>
 m R (o_builtin .len #[47] 3 [false] [x1]) w1 fun x9 w2 =>
 m R (o_bin .neq 3 false x7 x9) w2 fun x10 w3 =>
 mif x10 (
 R (.returned (.bool false)) w3) (
 ml1 (.int .i64 0) w3 fun x5 u4 w4 next4 =>
 m R (o_builtin .len #[47] 3 [false] [x0]) w4 fun x13 w5 =>
 m R (o_bin .lss 3 false x5 x13) w5 fun x14 w6 =>
 mif x14 (
 dp Tryz.prog (o_indexAddr 47 x0 x5) fun x19 =>
 dq Tryz.prog w6 (o_load 3 x19) fun x20 =>
 dp Tryz.prog (o_indexAddr 47 x1 x5) fun x23 =>
 dq Tryz.prog w6 (o_load 3 x23) fun x24 =>
 dp Tryz.prog (o_bin .neq 3 false x20 x24) fun x25 =>
 dend w6 fun w7 =>
 mif x25 (
 R (.returned (.bool false)) w7) (
 m R (o_bin .add 3 true x5 (.int .i64 1)) w7 fun x16 w8 =>
 next4 x16 w8)) (
 R (.returned (.bool true)) w6))
def A_bevyref07_Same : Ann := ⟨[(4, [5], 67106864)], [], [(6, [⟨0, .q none, 1, 0, 131072⟩, ⟨1, .q none, 32, 0, 262144⟩, ⟨2, .q none, 393216, 3, 524288⟩, ⟨3, .q (some 0), 524288, 7, 1048576⟩, ⟨4, .q none, 2, 0, 2097152⟩, ⟨5, .q none, 32, 0, 4194304⟩, ⟨6, .q none, 6291456, 48, 8388608⟩, ⟨7, .q (some 0), 8388608, 112, 16777216⟩, ⟨8, .q none, 17825792, 255, 33554432⟩])], [], []⟩
theorem C_bevyref07_Same {x0 x1 : Value} {w : World} {R : Ending → World → Prop} (h : F_bevyref07_Same x0 x1 w R) : Calls Tryz.prog 63 #[x0, x1] w R :=
 calls_cwp (A := A_bevyref07_Same) (args := [x0, x1]) mixed Tryz.func63 (c := Tryz.f63.body.getD .skip) (by kernel_rfl) (by kernel_rfl) (by kernel_rfl) (Eq.mpr (by kernel_rfl) h)
end Go.Proofs.YtpjodlnlmaaihaaGreat
