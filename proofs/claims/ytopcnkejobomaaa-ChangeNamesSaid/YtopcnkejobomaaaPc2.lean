/- Part 2 of the proof. -/
import Derived.Test.YtopcnkejobomaaaPc1
import Derived.ProofKit
import Derived.OpenShut
import Derived.ShutString
import Derived.ChangeOld
import Derived.Below
import Derived.SliceStrings
import Derived.Deep.Slices
import Derived.Deep.Strs
import Derived.ChangeSame
import Derived.WideKeyArr2
import Derived.ChangeMaps5
import Derived.Test.YtopcnkejobomaaaProg
import Derived.KernelRfl
namespace Go.Proofs.Ytopcnkejobomaaa
open Go.RowKit
section
variable {P : Program} {H H' : Hp} {w0 w w' : World} {L R R' : List Res} {g i j : Nat} {t t' tx ty : TypeId} {fs gs fs' : List Fd} {put : Res → List Res} {q : Bool} {n m cap cap' capx e e' ex sz by_ : Nat} {v x : Value} {K : Value → World → Prop} {X : List PanicEntry → World → Prop} {Kq : Value → Prop} {A A' B : Option Addr} {ps qs : List (List Fd)} {ks : List Bool}
theorem AtR.nil (L : List Res) (e sz : Nat) : AtR (rowR e sz none 0 0 [] :: L) none 0 0 e sz [] L := ⟨.refl _⟩
theorem SliC.und (c : SliC P t e sz by_) : P.underlying t = some (.slice e) := (sli_spec c.ok).1
theorem mm_appo (h : Mem H w0 L w) [c : SliC P t e sz by_] [k : AtR L A n cap e sz ps R] [k' : AtR R B m capx ex sz qs R'] [cx : SliC P tx e' sz by_] (hb : n + m ≤ 9223372036854775807 ∧ (n + m) * by_ ≤ 140737488355328)
    (hk : ∀ A' cap' w', Mem H w0 (rowR e sz A' (n + m) cap' (ps ++ qs) :: R') w' → K (.slice A' (n + m) cap') w') : mop P (o_builtin .append #[t, tx] ty ks [.slice A n cap, .slice B m capx]) w K X := by
  have h2 := h.perm k.perm
  have kx : AtR (rowR e sz A n cap ps :: R) B m capx ex sz qs (rowR e sz A n cap ps :: R') := inferInstance
  have hs := h2.src kx cx.und capx
  obtain ⟨h3, _, _, h4⟩ := h2.rowLen kx
  exact mm_app h k hs h4 h3 hb.1 hb.2 fun A' cap' w' h5 => hk A' cap' w' ((h5.perm ((k'.perm.cons _).trans (.swap ..))).drop)
theorem df_no (h : Mem H w0 L w) {s : Sem Next} (hk : ∀ w', Mem H w0 L w' → mop P s w' K (fun _ _ => False)) : df P w s false K := df_mop fun w1 hd => mop_mono (hk w1 (h.drawn hd)) (fun _ _ h => ⟨(fun e => by cases e), h⟩) (fun _ _ h => h)
theorem Mem.ne {k : Nat} {tt : TypeId} (h : Mem H w0 L w) (a : AtR L A n cap e sz ps R) (b : AtB R k tt fs put) : ¬ A = some ⟨k, 0, none⟩ := by
  rintro rfl
  obtain ⟨R', h1, _⟩ := b.perm
  obtain ⟨B, ⟨B1, B2, rfl, ⟨_, _, h3⟩, B3, B4, rfl, ⟨_, rfl⟩, _⟩, hs, _⟩ := (h.perm (a.perm.trans (h1.cons _))).own
  rcases h3 with ⟨hA, _⟩ | ⟨g', sp, hA, rfl, _⟩
  · cases hA
  · cases hA
    have := (List.pairwise_cons.1 hs.ne).1 ⟨k, tt, fl fs, true⟩ (by simp)
    exact this rfl
theorem dS_ld {k : Nat} {tt : TypeId} {gs : List Fd} {S : Nat → Prop} (h : Mem H w0 L w) [c : ShpC P t q n] [a : AtB L k tt fs put] [s : Sub fs i n gs] [f : Fv q gs v] (hS : ¬ S k) (hk : Kq v) : dqS P (Rl.only S) w (o_load t (.pointer (some ⟨k, i, none⟩))) Kq := by
  obtain ⟨h1, h2, h3⟩ := h.field a s
  obtain ⟨hb, _⟩ := h.blf a
  refine ⟨v, fun w' hw => ?_, hk⟩
  have := pw_fields (w := w') (b := k) (o := i) c.ok h1 h2 f fun j u hu => (hw.cell (p := ⟨k, i + j, none⟩) hb.lt hS).trans (h3 j u hu)
  unfold opq
  rw [this]
  exact ⟨rfl, Drawn.refl w'⟩
theorem dS_st {S : Rl} {tt : TypeId} {gs fs' : List Fd} {k : Nat} (h : Mem H w0 L w) [c : ShpC P t q n] [a : AtB L k tt fs put] [f : Vf v n gs] [p : Put fs i gs fs'] (hk : ∀ w', Mem H w0 (put (fb k tt fs')) w' → K undef w') : dfS P S w (o_store t (.pointer (some ⟨k, i, none⟩)) v) false K :=
  ⟨fun w1 hd => mop_mono ((dm_st h hk).out w1 hd) (fun _ _ h => ⟨(fun e => by cases e), h.2⟩) (fun _ _ h => h)⟩
theorem Mem.freeze (h : Mem H w0 L w) (k : AtR L A n cap e sz ps R) : ∃ H', Le w0 H H' ∧ Mem H' w0 R w ∧ Sl H' sz A ps ∧ ps.length = n := by
  obtain ⟨B, ⟨B1, B2, rfl, ⟨h1, h2, h3⟩, h4⟩, hs, hb⟩ := (h.perm k.perm).own
  rcases h3 with ⟨rfl, hn, _, rfl⟩ | ⟨g, sp, rfl, rfl, h5⟩
  · have : ps = [] := List.eq_nil_of_length_eq_zero (by omega)
    subst this
    exact ⟨H, Le.refl _ _, ⟨⟨B2, h4, hs, hb⟩, h.fz⟩, Sl.nil H sz _, h2⟩
  · have hs : St w0 (⟨g, e, fls ps ++ sp, true⟩ :: B2) w := hs
    have hg := hb ⟨g, e, fls ps ++ sp, true⟩ (by simp)
    have hbf := hs.head
    have hne := (List.pairwise_cons.1 hs.ne).1
    refine ⟨fun b => if b = g then some (fls ps ++ sp).toArray else H b, ⟨fun b c hc => ?_, fun b hb1 hc => ?_⟩, ⟨⟨B2, h4, hs.drop, fun b hm => ⟨(hb b (List.mem_append.2 (.inr hm))).1, ?_⟩⟩, fun b c hc => ?_⟩, ⟨h1, .inr ⟨g, 0, (fls ps ++ sp).toArray, rfl, if_pos rfl, fun j u hu => ?_⟩⟩, h2⟩
    · show (if b = g then _ else H b) = _
      rw [if_neg]
      · exact hc
      · rintro rfl
        have := hg.2
        simp only [hc] at this
        cases this
    · show (if b = g then _ else H b) = _
      rw [if_neg]
      · exact hc
      · rintro rfl
        have := hs.new _ (List.mem_cons_self ..) rfl
        simp only at this
        omega
    · show (if b.g = g then _ else H b.g) = _
      rw [if_neg]
      · exact (hb b (List.mem_append.2 (.inr hm))).2
      · intro e
        exact hne b hm e.symm
    · have hc : (if b = g then some (fls ps ++ sp).toArray else H b) = some c := hc
      split at hc
      · rename_i e
        cases hc
        obtain ⟨fr, hh, _⟩ := hbf
        exact ⟨_, _, by rw [e]; exact hh⟩
      · exact h.fz b c hc
    · rw [Nat.zero_add]
      simp only [List.getElem?_toArray]
      rw [List.getElem?_append_left (List.getElem?_eq_some_iff.1 hu).1]
      exact hu
def Outp (H : Hp) (w : World) (Q : Hp → Value → Prop) : Ending → World → Prop := fun en w' => ∃ v H', en = .returned v ∧ Le w H H' ∧ Mem H' w [] w' ∧ Q H' v
theorem Mem.out {Q : Hp → Value → Prop} (h : Mem H' w0 L w) (hl : Le w0 H H') (hq : Q H' v) : Outp H w0 Q (.returned v) w := ⟨v, H', rfl, hl, h.nil, hq⟩
theorem Outp.ext {Q : Hp → Value → Prop} {en : Ending} (h : Outp H w Q en w') : Ext w w' := by
  obtain ⟨_, _, _, _, h, _⟩ := h
  exact h.ext
theorem mm_call {f : Nat} {args : List Value} {Q : Hp → Value → Prop} (h : Mem H w0 L w) [hf : FunC P f] (hc : Calls P f args.toArray w (Outp H w Q)) (hk : ∀ H' v w', Le w0 H H' → Mem H' w0 L w' → Q H' v → K v w') : mop P (o_call (fv f) args) w K X :=
  mop_to hc fun en w' ⟨v, H', he, hl, hm, hq⟩ => by
    subst he
    exact hk H' v w' (hl.old h.ext.size) (h.call hm hl.new) hq
theorem dm_call {f : Nat} {args : List Value} {ext : Bool} {Q : Hp → Value → Prop} (h : Mem H w0 L w) [hf : FunC P f] (hc : ∀ w, Mem H w0 L w → Calls P f args.toArray w (Outp H w Q)) (hk : ∀ H' v w', Ext w w' → Le w0 H H' → Mem H' w0 L w' → Q H' v → K v w') : df P w (o_call (fv f) args) ext K :=
  df_mop fun w1 hd => mop_to (hc w1 (h.drawn hd)) fun en w' ⟨v, H', he, hl, hm, hq⟩ => by
    subst he
    have hx := hd.ext.trans hm.ext
    exact ⟨fun _ => hx, hk H' v w' hx (hl.old (h.drawn hd).ext.size) ((h.drawn hd).call hm hl.new) hq⟩
theorem mm_pure {f : Nat} {args : List Value} (h : Mem H w0 L w) [hf : FunC P f] (hc : Calls P f args.toArray w fun en w' => en = .returned v ∧ St w [] w') (hk : ∀ w', Mem H w0 L w' → K v w') : mop P (o_call (fv f) args) w K X :=
  mop_to hc fun en w' ⟨he, hs⟩ => by
    subst he
    exact hk w' (h.call0 hs)
theorem dm_pure {f : Nat} {args : List Value} {ext : Bool} (h : Mem H w0 L w) [hf : FunC P f] (hc : ∀ w, Mem H w0 L w → Calls P f args.toArray w fun en w' => en = .returned v ∧ St w [] w') (hk : ∀ w', Ext w w' → Mem H w0 L w' → K v w') : df P w (o_call (fv f) args) ext K :=
  df_mop fun w1 hd => mop_to (hc w1 (h.drawn hd)) fun en w' ⟨he, hs⟩ => by
    subst he
    have hx : Ext w w' := hd.ext.trans (hs.only.mono fun _ _ ⟨_, hm, _⟩ => by cases hm)
    exact ⟨fun _ => hx, hk w' hx ((h.drawn hd).call0 hs)⟩
theorem mm_own {f : Nat} {args : List Value} {Q : Value → World → Prop} [hf : FunC P f] (hc : Calls P f args.toArray w fun en w' => ∃ v, en = .returned v ∧ Q v w') (hk : ∀ v w', Q v w' → K v w') : mop P (o_call (fv f) args) w K X :=
  mop_to hc fun en w' ⟨v, he, hq⟩ => by
    subst he
    exact hk v w' hq
theorem dm_own {f : Nat} {args : List Value} {Q : Value → World → Prop} (h : Mem H w0 L w) [hf : FunC P f] (hc : ∀ w, Mem H w0 L w → Calls P f args.toArray w fun en w' => ∃ v, en = .returned v ∧ Q v w') (hk : ∀ v w', Q v w' → K v w') : df P w (o_call (fv f) args) false K :=
  df_mop fun w1 hd => mop_to (hc w1 (h.drawn hd)) fun en w' ⟨v, he, hq⟩ => by
    subst he
    exact ⟨(fun e => by cases e), hk v w' hq⟩
theorem p_func (fn : Fn) (a b : List Value) (hfn : ∃ f, fn = .func f) : Pur P (o_func fn a b) (.func fn a.toArray b.toArray) := fun w => by
  obtain ⟨f, rfl⟩ := hfn
  simp [o_func, sv, Instr.makeFunc]
instance (f : Nat) (a b : List Value) : StepC P (o_func (.func f) a b) True (.func (.func f) a.toArray b.toArray) := ⟨fun _ => p_func _ a b ⟨f, rfl⟩⟩
theorem mop_callv {f : Nat} {first captured : Array Value} {args : List Value} {Q : Ending → World → Prop} [hf : FunC P f] (h : Calls P f (first ++ args.toArray ++ captured) w Q) (hk : ∀ en w', Q en w' → match en with
      | .returned v => K v w'
      | .panicked c => X c w'
      | .outgrown => False) : mop P (o_call (.func (.func f) first captured) args) w K X := by
  constructor
  have hb := hf.ok
  have hr : (o_call (.func (.func f) first captured) args).run P w = .ok (.enter f (first ++ args.toArray ++ captured)) w := by
    cases hff : P.funcs[f]? with
    | none => simp [hff] at hb
    | some fn =>
      simp [hff] at hb
      have hb1 : ¬ fn.body = none := by intro h; rw [h] at hb; simp at hb
      simp [o_call, Deferred.ofValue, invoke, callFunc, hff, go_sem, hb.2, hb1]
  rw [hr]
  exact h.mono fun en w' he => by
    have := hk en w' he
    cases en <;> exact this
theorem run_equalIn_nil (d : Nat) (t e : TypeId) (a : Option Addr) (n cp : Nat) (he : P.underlying t = some (.slice e)) : (Op.equalIn (d + 1) t (.slice a n cp) (.slice none 0 0)).run P w = .ok a.isNone w := by
  cases a <;> simp [Op.equalIn, run_underlying he]
theorem run_equalIn_pnil (d : Nat) (t e : TypeId) (a : Option Addr) (he : P.underlying t = some (.pointer e)) : (Op.equalIn (d + 1) t (.pointer a) (.pointer none)).run P w = .ok a.isNone w := by
  cases a <;> simp [Op.equalIn, run_underlying he]
theorem run_o_eql {t : TypeId} {c : Bool} {x y : Value} {b : Bool} (hg : ∀ u v, (eqGuard .eql t u v x y).run P w = .ok () w) (hb : binOp .eql t x y = (do pure (.bool (← Op.equal t x y)))) (h : (Op.equalIn 10000 t x y).run P w = .ok b w) : (o_bin .eql t c x y).run P w = .ok (.value (.bool b)) w := by
  have h' : (Op.equal t x y).run P w = .ok b w := h
  simp only [o_bin, sv, Sem.run_bind, hg, hb, Result.andThen_ok, h', Sem.run_pure]
theorem run_o_neq {t : TypeId} {c : Bool} {x y : Value} {b : Bool} (hg : ∀ u v, (eqGuard .neq t u v x y).run P w = .ok () w) (hb : binOp .neq t x y = (do pure (.bool !(← Op.equal t x y)))) (h : (Op.equalIn 10000 t x y).run P w = .ok b w) : (o_bin .neq t c x y).run P w = .ok (.value (.bool !b)) w := by
  have h' : (Op.equal t x y).run P w = .ok b w := h
  simp only [o_bin, sv, Sem.run_bind, hg, hb, Result.andThen_ok, h', Sem.run_pure]
theorem p_eq_nil (t : TypeId) (c : Bool) (a : Option Addr) (n cp e : Nat) (he : P.underlying t = some (.slice e)) : Pur P (o_bin .eql t c (.slice a n cp) (.slice none 0 0)) (.bool a.isNone) := fun w =>
  run_o_eql (fun _ _ => by simp only [eqGuard]; rfl) (by simp only [binOp]) (run_equalIn_nil (P := P) (w := w) 9999 t e a n cp he)
theorem p_ptr_nil (t : TypeId) (c : Bool) (a : Option Addr) (e : TypeId) (he : P.underlying t = some (.pointer e)) : Pur P (o_bin .eql t c (.pointer a) (.pointer none)) (.bool a.isNone) := fun w =>
  run_o_eql (fun _ _ => by simp only [eqGuard]; rfl) (by simp only [binOp]) (run_equalIn_pnil (P := P) (w := w) 9999 t e a he)
theorem p_ptr_nnil (t : TypeId) (c : Bool) (a : Option Addr) (e : TypeId) (he : P.underlying t = some (.pointer e)) : Pur P (o_bin .neq t c (.pointer a) (.pointer none)) (.bool (!a.isNone)) := fun w =>
  run_o_neq (fun _ _ => by simp only [eqGuard]; rfl) (by simp only [binOp]) (run_equalIn_pnil (P := P) (w := w) 9999 t e a he)
end
end Go.Proofs.Ytopcnkejobomaaa
namespace Go.Proofs.Ytopcnkejobomaaa
open Go.RowKit
def hzero : H32 := ⟨List.replicate 32 0, by simp, by intro x hx; rw [List.eq_of_mem_replicate hx]; omega⟩
class EqF (fs gs : List Fd) (ks : outParam (List CK)) (p : outParam Prop) : Prop where
  ok : Of (fl fs) ks ∧ Of (fl gs) ks ∧ (fl fs = fl gs ↔ p)
theorem one_app {a b : Value} {k : CK} {x y : List Value} {ks : List CK} {p q : Prop} (h : Of [a] [k] ∧ Of [b] [k] ∧ (a = b ↔ p)) (h' : Of x ks ∧ Of y ks ∧ (x = y ↔ q)) : Of ([a] ++ x) (k :: ks) ∧ Of ([b] ++ y) (k :: ks) ∧ ([a] ++ x = [b] ++ y ↔ p ∧ q) :=
  ⟨h.1.app h'.1, h.2.1.app h'.2.1, by rw [← h.2.2, ← h'.2.2]; simp⟩
theorem ok_int (k : IntKind) (a b : Int) : Of [.int k a] [.int k] ∧ Of [.int k b] [.int k] ∧ (Value.int k a = .int k b ↔ a = b) := ⟨rfl, rfl, by simp⟩
instance (k : IntKind) (a b : Int) (fs gs : List Fd) (ks : List CK) (p : Prop) [h : EqF fs gs ks p] : EqF (.one (.int k a) :: fs) (.one (.int k b) :: gs) (.int k :: ks) (a = b ∧ p) := ⟨one_app (ok_int k a b) h.ok⟩
theorem EqF.last {f g : Fd} {k : List CK} {p : Prop} (h : Of f.cells k ∧ Of g.cells k ∧ (f.cells = g.cells ↔ p)) : Of (fl [f]) k ∧ Of (fl [g]) k ∧ (fl [f] = fl [g] ↔ p) := by simpa [fl] using h
theorem of_h32 (h : H32) : Of (u8s h.1) (List.replicate 32 (.int .u8)) := by have := of_u8s h.1; rwa [h.2.1] at this
theorem h32_eq {a b : H32} : u8s a.1 = u8s b.1 ↔ a = b := by rw [u8s_inj]; exact Subtype.ext_iff.symm
instance (a b : H32) (fs gs : List Fd) (ks : List CK) (p : Prop) [h : EqF fs gs ks p] : EqF (.arr 32 (u8s a.1) :: fs) (.arr 32 (u8s b.1) :: gs) (List.replicate 32 (.int .u8) ++ ks) (a = b ∧ p) := ⟨by
  obtain ⟨h1, h2, h3⟩ := h.ok
  refine ⟨(of_h32 a).app h1, (of_h32 b).app h2, ?_⟩
  show u8s a.1 ++ fl fs = u8s b.1 ++ fl gs ↔ _
  rw [← h3, ← h32_eq]
  constructor
  · intro e
    exact List.append_inj e (by simp [u8s, a.2.1, b.2.1])
  · rintro ⟨e1, e2⟩
    rw [e1, e2]⟩
instance (priority := 1100) (a b : H32) : EqF [.arr 32 (u8s a.1)] [.arr 32 (u8s b.1)] (List.replicate 32 (.int .u8)) (a = b) := ⟨EqF.last ⟨of_h32 a, of_h32 b, h32_eq⟩⟩
section
variable {P : Program} {t : TypeId} {q : Bool}
instance (fs gs : List Fd) (ks : List CK) (p : Prop) [Decidable p] [h : EqF fs gs ks p] [k : KindC P t ks] : StepC P (o_bin .eql t q (.agg (fl fs).toArray) (.agg (fl gs).toArray)) True (.bool (decide p)) := ⟨fun _ => p_eql_agg q h.ok.1 h.ok.2.1 h.ok.2.2⟩
instance (a b : H32) [k : KindC P t (List.replicate 32 (.int .u8))] : StepC P (o_bin .eql t q (.agg (u8s a.1).toArray) (.agg (u8s b.1).toArray)) True (.bool (decide (a = b))) := ⟨fun _ => p_eql_agg q (of_h32 a) (of_h32 b) h32_eq⟩
class IsSl (P : Program) (t : TypeId) : Prop where
  ok : ∃ e, P.underlying t = some (.slice e)
class IsPt (P : Program) (t : TypeId) : Prop where
  ok : ∃ e, P.underlying t = some (.pointer e)
theorem isSl_of {P : Program} {t : TypeId} (h : (match P.underlying t with
    | some (.slice _) => true
    | _ => false) = true) : IsSl P t := ⟨by
  split at h
  · rename_i e hu; exact ⟨e, hu⟩
  · cases h⟩
theorem isPt_of {P : Program} {t : TypeId} (h : (match P.underlying t with
    | some (.pointer _) => true
    | _ => false) = true) : IsPt P t := ⟨by
  split at h
  · rename_i e hu; exact ⟨e, hu⟩
  · cases h⟩
instance (a : Option Addr) (n c : Nat) [h : IsSl P t] : StepC P (o_bin .eql t q (.slice a n c) (.slice none 0 0)) True (.bool a.isNone) := ⟨fun _ => by obtain ⟨e, he⟩ := h.ok; exact p_eq_nil t q a n c e he⟩
instance (a : Addr) [h : IsPt P t] : StepC P (o_bin .eql t q (.pointer (some a)) (.pointer none)) True (.bool false) := ⟨fun _ => by obtain ⟨e, he⟩ := h.ok; exact p_ptr_nil t q (some a) e he⟩
instance (a : Addr) [h : IsPt P t] : StepC P (o_bin .neq t q (.pointer (some a)) (.pointer none)) True (.bool true) := ⟨fun _ => by obtain ⟨e, he⟩ := h.ok; exact p_ptr_nnil t q (some a) e he⟩
end
end Go.Proofs.Ytopcnkejobomaaa
namespace Go.Proofs.Ytopcnkejobomaaa
open Go.RowKit
section
variable {P : Program} {s : Sem Next} {c p : Prop} [Decidable p] {v : Value} {w w' w0 : World} {K : Value → World → Prop} {X : List PanicEntry → World → Prop} {Kq : Value → Prop} {t : TypeId} {q : Bool}
theorem mop_cT [h : StepC P s c (.bool (decide p))] (hc : c) (hp : p) (hk : K (.bool true) w) : mop P s w K X := mop_c (h := h) hc (by rw [decide_eq_true hp]; exact hk)
theorem mop_cF [h : StepC P s c (.bool (decide p))] (hc : c) (hp : ¬ p) (hk : K (.bool false) w) : mop P s w K X := mop_c (h := h) hc (by rw [decide_eq_false hp]; exact hk)
theorem mop_cS [h : StepC P s c (.bool (decide p))] (hc : c) (ht : p → K (.bool true) w) (hf : ¬ p → K (.bool false) w) : mop P s w K X := mop_c (h := h) hc (by
  by_cases hp : p
  · rw [decide_eq_true hp]; exact ht hp
  · rw [decide_eq_false hp]; exact hf hp)
theorem dp_cT [h : StepC P s c (.bool (decide p))] (hc : c) (hp : p) (hk : Kq (.bool true)) : dp P s Kq := dp_c (h := h) hc (by rw [decide_eq_true hp]; exact hk)
theorem dp_cF [h : StepC P s c (.bool (decide p))] (hc : c) (hp : ¬ p) (hk : Kq (.bool false)) : dp P s Kq := dp_c (h := h) hc (by rw [decide_eq_false hp]; exact hk)
theorem dp_cS [h : StepC P s c (.bool (decide p))] (hc : c) (ht : p → Kq (.bool true)) (hf : ¬ p → Kq (.bool false)) : dp P s Kq := dp_c (h := h) hc (by
  by_cases hp : p
  · rw [decide_eq_true hp]; exact ht hp
  · rw [decide_eq_false hp]; exact hf hp)
theorem map_at {α β : Type} {f : α → β} {l : List α} {i : Nat} (h : i < l.length) : (l.map f)[i]? = some (f l[i]) := by simp [h]
theorem map_atI {α β : Type} {f : α → β} {l : List α} {i : Nat} (h : i < l.length) : (l.map f)[(i : Int).toNat]? = some (f l[i]) := by simp [h]
class AtA (L : List Res) (A : Option Addr) (n cap e sz : outParam Nat) (ps : outParam (List (List Fd))) (R : outParam (List Res)) : Prop where
  perm : L.Perm (rowR e sz A n cap ps :: R)
instance (L : List Res) (A : Option Addr) (n cap e sz : Nat) (ps : List (List Fd)) : AtA (rowR e sz A n cap ps :: L) A n cap e sz ps L := ⟨.refl _⟩
instance (priority := 900) (L R : List Res) (A : Option Addr) (n cap e sz : Nat) (ps : List (List Fd)) (x : Res) [h : AtA L A n cap e sz ps R] : AtA (x :: L) A n cap e sz ps (x :: R) := ⟨(h.perm.cons x).trans (.swap ..)⟩
class AtF (L : List Res) (g : Nat) (t : outParam Nat) (fs : outParam (List Fd)) (R : outParam (List Res)) : Prop where
  perm : L.Perm (fb g t fs :: R)
instance (L : List Res) (g t : Nat) (fs : List Fd) : AtF (fb g t fs :: L) g t fs L := ⟨.refl _⟩
instance (priority := 900) (L R : List Res) (g t : Nat) (fs : List Fd) (x : Res) [h : AtF L g t fs R] : AtF (x :: L) g t fs (x :: R) := ⟨(h.perm.cons x).trans (.swap ..)⟩
theorem Mem.up {H : Hp} {L R : List Res} {n cap e sz : Nat} {ps : List (List Fd)} (h : Mem H w0 L w) (A : Option Addr) [k : AtA L A n cap e sz ps R] : Mem H w0 (rowR e sz A n cap ps :: R) w := h.perm k.perm
theorem Mem.upB {H : Hp} {L R : List Res} {t : Nat} {fs : List Fd} (h : Mem H w0 L w) (g : Nat) [k : AtF L g t fs R] : Mem H w0 (fb g t fs :: R) w := h.perm k.perm
theorem Mem.fz1 {H : Hp} {L R : List Res} {n cap e sz : Nat} {ps : List (List Fd)} (h : Mem H w0 L w) (A : Option Addr) [k : AtA L A n cap e sz ps R] : ∃ H', Le w0 H H' ∧ Mem H' w0 R w ∧ Sl H' sz A ps ∧ ps.length = n := h.freeze ⟨k.perm⟩
theorem Mem.fz0 {H : Hp} {L : List Res} {n cap e sz : Nat} {ps : List (List Fd)} {A : Option Addr} (h : Mem H w0 (rowR e sz A n cap ps :: L) w) : ∃ H', Le w0 H H' ∧ Mem H' w0 L w ∧ Sl H' sz A ps ∧ ps.length = n := h.freeze ⟨.refl _⟩
theorem Mem.reads {H : Hp} {L R : List Res} {n cap e sz : Nat} {ps : List (List Fd)} {A : Option Addr} (h : Mem H w0 L w) [k : AtA L A n cap e sz ps R] : Sl (Hp.of w) sz A ps := by
  obtain ⟨B, ⟨B1, B2, rfl, ⟨h1, h2, h3⟩, _⟩, hs, _⟩ := (h.perm k.perm).own
  rcases h3 with ⟨_, hn, _, _⟩ | ⟨g, sp, rfl, rfl, _⟩
  · have : ps = [] := List.eq_nil_of_length_eq_zero (by omega)
    subst this
    exact Sl.nil _ _ _
  · obtain ⟨fr, hb, _⟩ := hs.own ⟨g, e, fls ps ++ sp, true⟩ (by simp)
    refine ⟨h1, .inr ⟨g, 0, (fls ps ++ sp).toArray, rfl, by simp [Hp.of, hb], fun j u hu => ?_⟩⟩
    rw [Nat.zero_add]
    simp only [List.getElem?_toArray]
    rw [List.getElem?_append_left (List.getElem?_eq_some_iff.1 hu).1]
    exact hu
theorem dm_ownE {H : Hp} {L : List Res} {f : Nat} {args : List Value} {ext : Bool} {Q : Value → World → Prop} (h : Mem H w0 L w) [hf : FunC P f] (hc : ∀ w, Mem H w0 L w → Calls P f args.toArray w fun en w' => ∃ v, en = .returned v ∧ Ext w w' ∧ Q v w') (hk : ∀ v w', Ext w w' → Q v w' → K v w') : df P w (o_call (fv f) args) ext K :=
  df_mop fun w1 hd => mop_to (hc w1 (h.drawn hd)) fun en w' ⟨v, he, hx, hq⟩ => by
    subst he
    exact ⟨fun _ => hd.ext.trans hx, hk v w' (hd.ext.trans hx) hq⟩
class SubL (L L' : List Res) : Prop where
  ok : ∃ R, L.Perm (R ++ L')
instance (L : List Res) : SubL L [] := ⟨⟨L, by simp⟩⟩
instance (priority := 1100) (L : List Res) : SubL L L := ⟨⟨[], .refl _⟩⟩
instance (priority := 900) (L R L' : List Res) (r : Res) [h : AtX L r R] [k : SubL R L'] : SubL L (r :: L') := ⟨by
  obtain ⟨Q, hq⟩ := k.ok
  exact ⟨Q, h.perm.trans ((hq.cons r).trans List.perm_middle.symm)⟩⟩
theorem Mem.sub {H : Hp} {L L' : List Res} (h : Mem H w0 L w) [k : SubL L L'] : Mem H w0 L' w := by
  obtain ⟨R, hp⟩ := k.ok
  exact (h.perm hp).dropN
structure FbF (H : Hp) (g : Nat) (fs : List Fd) : Prop where
  ok : FOk fs
  at_ : ∃ c : Array Value, H g = some c ∧ ∀ (j : Nat) (u : Value), (fl fs)[j]? = some u → c[j]? = some u
theorem Mem.readsB {H : Hp} {L R : List Res} {tt : Nat} {fs : List Fd} {g : Nat} (h : Mem H w0 L w) [k : AtF L g tt fs R] : FbF (Hp.of w) g fs := by
  obtain ⟨B, ⟨B1, B2, rfl, ⟨h1, rfl⟩, _⟩, hs, _⟩ := (h.perm k.perm).own
  obtain ⟨fr, hb, _⟩ := hs.own ⟨g, tt, fl fs, true⟩ (by simp)
  exact ⟨h1, (fl fs).toArray, by simp [Hp.of, hb], fun j u hu => by simpa using hu⟩
theorem FbF.mono {H H' : Hp} {g : Nat} {fs : List Fd} (h : FbF H g fs) (k : H.le H') : FbF H' g fs := by
  obtain ⟨c, h1, h2⟩ := h.at_
  exact ⟨h.ok, c, k g c h1, h2⟩
theorem FbF.load {H : Hp} {g i n : Nat} {fs gs : List Fd} {q : Bool} {v : Value} (h : FbF H g fs) (hf : Fz H w) (c : ShpC P t q n) (s : Sub fs i n gs) (f : Fv q gs v) : PurW P w (o_load t (.pointer (some ⟨g, i, none⟩))) v := by
  obtain ⟨c', h1, h2⟩ := h.at_
  obtain ⟨k1, k2, k3⟩ := s.cells h.ok
  exact pw_fields c.ok k1 (by rw [← k1.len]; exact k2) f fun j u hu => by rw [hf.cell h1]; exact h2 _ _ (k3 j u hu)
abbrev Mem.now {H : Hp} {L : List Res} (_ : Mem H w0 L w) (w' : World) : Prop := Mem H w0 L w'
theorem mguard_n1 {run : (Value → World → Prop) → Prop} (h : K undef w) : mguard (.bool true) false run w K := mguard_no (by simp) h
theorem mguard_n2 {run : (Value → World → Prop) → Prop} (h : K undef w) : mguard (.bool false) true run w K := mguard_no (by simp) h
theorem qguard_n1 {run : (Value → Prop) → Prop} (h : Kq undef) : qguard (.bool true) false run Kq := qguard_no (by simp) h
theorem qguard_n2 {run : (Value → Prop) → Prop} (h : Kq undef) : qguard (.bool false) true run Kq := qguard_no (by simp) h
instance (b : Bool) : StepC P (o_un .not (.bool b)) True (.bool (!b)) := ⟨fun _ w => by simp [o_un, sv, go_sem]⟩
class IsBo (P : Program) (t : TypeId) : Prop where
  ok : P.underlying t = some .bool
instance (priority := 1100) (a b : H32) [k : KindC P t (List.replicate 32 (.int .u8))] : StepC P (o_bin .neq t q (.agg (u8s a.1).toArray) (.agg (u8s b.1).toArray)) True (.bool (decide (a ≠ b))) := ⟨fun _ => by
  have := p_neq_agg (P := P) (t := t) q (of_h32 a) (of_h32 b) h32_eq
  rwa [show (!decide (a = b)) = decide (a ≠ b) by simp] at this⟩
instance (a b : Value) : StepC P (o_extract (.tuple #[a, b]) 0) True a := ⟨fun _ => p_extract [a, b] 0 a rfl⟩
instance (a b : Value) : StepC P (o_extract (.tuple #[a, b]) 1) True b := ⟨fun _ => p_extract [a, b] 1 b rfl⟩
instance (a b c : Value) : StepC P (o_extract (.tuple #[a, b, c]) 0) True a := ⟨fun _ => p_extract [a, b, c] 0 a rfl⟩
instance (a b c : Value) : StepC P (o_extract (.tuple #[a, b, c]) 1) True b := ⟨fun _ => p_extract [a, b, c] 1 b rfl⟩
instance (a b c : Value) : StepC P (o_extract (.tuple #[a, b, c]) 2) True c := ⟨fun _ => p_extract [a, b, c] 2 c rfl⟩
def hset (h : H32) (i : Nat) (a : Int) : H32 := ⟨h.1.set i (a % 256), by simp [h.2.1], fun x hx => by
  rcases List.mem_or_eq_of_mem_set hx with hx | rfl
  · exact h.2.2 x hx
  · omega⟩
theorem lay_set (h : H32) (i : Nat) (a : Int) (hi : i < 32) (ha : 0 ≤ a ∧ a < 256) : lay (u8s h.1) [.int .u8 a] i = u8s (hset h i a).1 := by
  have e : a % 256 = a := by omega
  unfold hset u8s lay
  simp only [e]
  rw [List.set_eq_take_append_cons_drop, if_pos (by simp [h.2.1, hi])]
  simp
class HFill (P : Program) (t : TypeId) (h : H32) (ps : List (Nat × Value)) (c : outParam Prop) (h' : outParam H32) : Prop where
  ok : c → Instr.fill (fun i => some (i * 1, 1)) (u8s h.1).toArray ps = some (u8s h'.1).toArray
instance (h : H32) : HFill P t h [] True h := ⟨fun _ => rfl⟩
instance (h h' : H32) (i : Nat) (a : Int) (ps : List (Nat × Value)) (c : Prop) [k : HFill P t (hset h i a) ps c h'] : HFill P t h ((i, .int .u8 a) :: ps) ((i < 32 ∧ 0 ≤ a ∧ a < 256) ∧ c) h' := ⟨fun ⟨⟨h1, h2⟩, hc⟩ => by
  have hl : (u8s h.1).length = 32 := by simp [u8s, h.2.1]
  have := fill_lay (.int .u8 a) (i * 1) (u8s h.1) (by simp [Value.cells, hl]; omega)
  unfold Instr.fill
  simp only
  rw [if_neg (by simp [Value.cells, hl]; omega), this]
  have e : lay (u8s h.1) (Value.cells (.int .u8 a)).toList (i * 1) = u8s (hset h i a).1 := by rw [Nat.mul_one]; exact lay_set h i a h1 h2
  rw [e]
  exact k.ok hc⟩
class HshC (P : Program) (t : TypeId) : Prop where
  ok : ∃ e, P.underlying t = some (.array 32 e) ∧ (P.info? e).map (·.size) = some 1
  zer : zer P t = some (u8s hzero.1)
instance (priority := 1100) (ps : List (Nat × Value)) (c : Prop) (h' : H32) [k : HshC P t] [f : HFill P t hzero ps c h'] : StepC P (o_build t ps) c (.agg (u8s h'.1).toArray) := ⟨fun hc w => by
  obtain ⟨e, hu, hs⟩ := k.ok
  have hz := k.zer
  have hf := f.ok hc
  unfold Go.Proofs.Ytopcnkejobomaaa.zer at hz
  cases hi : P.info? t with
  | none => simp [hi] at hz
  | some x =>
    cases hzz : x.zero with
    | none => simp [hi, hzz] at hz
    | some z =>
      simp [hi, hzz] at hz
      have hz' : z.cells = (u8s hzero.1).toArray := by rw [← hz]
      have h1 : (zeroValue t).run P w = .ok z w := by simp [zeroValue, typeInfo, hi, hzz]
      have h2 : (sizeOf e).run P w = .ok 1 w := run_size hs w
      simp only [o_build, sv, Instr.build, Sem.run_bind, h1, Result.andThen_ok, run_underlying hu, hz', h2]
      rw [hf]
      rfl⟩
end
end Go.Proofs.Ytopcnkejobomaaa
namespace Go.Proofs.Ytopcnkejobomaaa
open Go.RowKit
def byts (l : List Int) : List (List Fd) := l.map fun x => [.one (.int .u8 x)]
theorem byts_app (a b : List Int) : byts (a ++ b) = byts a ++ byts b := by simp [byts]
theorem byts_length (l : List Int) : (byts l).length = l.length := by simp [byts]
theorem fls_byts (l : List Int) : fls (byts l) = u8s l := by
  induction l with
  | nil => rfl
  | cons x l ih =>
    show fl [.one (.int .u8 x)] ++ fls (byts l) = _
    rw [ih]
    rfl
theorem els_byts (l : List Int) : Els 1 (byts l) := Els.map (f := fun x => [.one (.int .u8 x)]) l fun _ => ⟨inferInstance, rfl⟩
class StrC (P : Program) (s d : TypeId) : Prop where
  ok : (∃ e, P.underlying s = some (.slice e) ∧ P.underlying e = some (.int .u8)) ∧ P.underlying d = some .string
section
variable {P : Program} {H H' : Hp} {w0 w w' : World} {L R R' : List Res} {g i : Nat} {t t' tx ty : TypeId} {fs gs : List Fd} {put : Res → List Res} {n m c cap e e' sz by_ : Nat} {K : Value → World → Prop} {X : List PanicEntry → World → Prop} {Kq : Value → Prop} {A : Option Addr} {l l' : List Int} {ps : List (List Fd)} {ks : List Bool}
theorem pw_str {s d : TypeId} (h : StrC P s d) {b o : Nat} (hl : l.length = n) (hc : ∀ j u, (u8s l)[j]? = some u → w.cell? ⟨b, o + j, none⟩ = some u) : PurW P w (o_conv s d (.slice (some ⟨b, o, none⟩) n c)) (.string (strOfNums l)) := by
  obtain ⟨⟨e, h1, h2⟩, h3⟩ := h.ok
  exact pw_conv_bytes s d e b o n c l h1 h2 h3 hl fun j hj => hc j _ (u8s_at l j (by omega))
theorem Mem.bytesF (h : Mem H w0 L w) (k : AtB L g t' fs put) (s : Sub fs i n [.arr n (u8s l)]) : l.length = n ∧ ∀ j u, (u8s l)[j]? = some u → w.cell? ⟨g, i + j, none⟩ = some u := by
  obtain ⟨h1, h2, h3⟩ := h.field k s
  have := (h1.ok _ (List.mem_singleton.2 rfl)).len
  refine ⟨by simpa [Fd.cells, Fd.size, u8s] using this, fun j u hu => h3 j u (by simpa [fl, Fd.cells] using hu)⟩
theorem mm_cvb {s d : TypeId} (h : Mem H w0 L w) [st : StrC P s d] [k : AtB L g t' fs put] [q : Sub fs i n [.arr n (u8s l)]] (hk : K (.string (strOfNums l)) w) : mop P (o_conv s d (.slice (some ⟨g, i, none⟩) n c)) w K X := by
  obtain ⟨h1, h2⟩ := h.bytesF k q
  exact mop_purW (pw_str st h1 h2) hk
theorem Mem.rd (h : Mem H w0 L w) (k : AtA L A n cap e sz ps R) : Rd w A (fls ps) := by
  rcases Nat.eq_zero_or_pos n with hn | hn
  · have := (h.rowLen (A := A) (n := n) ⟨k.perm⟩).1
    have : ps = [] := List.eq_nil_of_length_eq_zero (by omega)
    subst this
    exact .inl rfl
  · obtain ⟨g, rfl⟩ := h.rowAt (n := n) ⟨k.perm⟩ hn
    have hc := (h.perm k.perm).rowCells (put := fun r => r :: R) ⟨⟨R, .refl _, fun _ => .refl _⟩⟩
    have hlt : g < w.heap.size := by
      obtain ⟨B, ⟨B1, B2, rfl, ⟨_, _, h3⟩, _⟩, hs, _⟩ := (h.perm k.perm).own
      rcases h3 with ⟨hA, _⟩ | ⟨g', sp, hA, rfl, _⟩
      · cases hA
      · cases hA
        exact (hs.own ⟨g, e, fls ps ++ sp, true⟩ (by simp)).lt
    exact .inr ⟨g, 0, rfl, hlt, fun j u hu => by rw [Nat.zero_add]; exact hc.2.2 j u hu⟩
theorem mm_cvr {s d : TypeId} {k : Nat} (h : Mem H w0 L w) [st : StrC P s d] [a : AtA L A n cap e 1 (byts l) R] (hk' : k ≤ l.length) (hk : K (.string (strOfNums (l.take k))) w) : mop P (o_conv s d (.slice A k c)) w K X := by
  have hr := h.rd a
  rw [fls_byts] at hr
  rcases Nat.eq_zero_or_pos k with h0 | h0
  · subst h0
    obtain ⟨⟨e, h1, h2⟩, h3⟩ := st.ok
    refine mop_purW ?_ hk
    cases A with
    | none =>
      have : (convert s d (.slice none 0 c)).run P w = .ok (.string (strOfNums [])) w := by
        rw [run_convert_bytes_string w s d e none 0 c h1 h2 h3]
        rfl
      simp only [PurW, o_conv, sv, Sem.run_bind, this, Result.andThen_ok]
      rfl
    | some a' =>
      have := run_convert_bytes_back (P := P) w s d e a' c [] h1 h2 h3 (fun j hj => by simp at hj)
      simp only [PurW, o_conv, sv, Sem.run_bind]
      rw [show ([] : List UInt8).length = 0 from rfl] at this
      rw [this]
      rfl
  · rcases hr with hr | ⟨b, o, rfl, _, hc⟩
    · have : l = [] := by simpa [u8s] using hr
      subst this
      simp at hk'
      omega
    · refine mop_purW (pw_str st (by simp; omega) fun j u hu => hc j u ?_) hk
      have hj : j < k := by have := (List.getElem?_eq_some_iff.1 hu).1; simp [u8s] at this; omega
      rw [show u8s (l.take k) = (u8s l).take k by simp [u8s, List.map_take], List.getElem?_take] at hu
      simpa [hj] using hu
class SubA (fs : List Fd) (o : Nat) (n : outParam Nat) (ls : outParam (List Value)) (put : outParam (List Value → List Fd)) : Prop where
  ok : ∃ a b, fs = a ++ [.arr n ls] ++ b ∧ fsz a = o ∧ ∀ l', put l' = a ++ [.arr n l'] ++ b
instance (fs : List Fd) (n : Nat) (ls : List Value) : SubA (.arr n ls :: fs) 0 n ls (fun l' => .arr n l' :: fs) := ⟨⟨[], fs, rfl, rfl, fun _ => rfl⟩⟩
instance (fs : List Fd) (o n : Nat) (ls : List Value) (v : Value) (put : List Value → List Fd) [h : SubA fs o n ls put] : SubA (.one v :: fs) (o + 1) n ls (fun l' => .one v :: put l') := ⟨by
  obtain ⟨a, b, rfl, rfl, h3⟩ := h.ok
  exact ⟨.one v :: a, b, rfl, by simp [fsz, Fd.size]; omega, fun l' => by rw [h3]; rfl⟩⟩
theorem SubA.cell {fs : List Fd} {o : Nat} {ls : List Value} {putA : List Value → List Fd} (s : SubA fs o n ls putA) (hf : FOk fs) {j : Nat} {v : Value} (hv : ls[j]? = some v) : (fl fs)[o + j]? = some v := by
  obtain ⟨a, b, rfl, rfl, _⟩ := s.ok
  have h1 := hf.left.left.len
  rw [fl_append, fl_append, List.append_assoc, List.getElem?_append_right (by omega), h1, show fsz a + j - fsz a = j by omega]
  rw [List.getElem?_append_left (by have := (List.getElem?_eq_some_iff.1 hv).1; simpa [fl, Fd.cells] using this)]
  simpa [fl, Fd.cells] using hv
theorem mm_lda {o j : Nat} {ls : List Value} {v : Value} {putA : List Value → List Fd} (h : Mem H w0 L w) [cc : ShpC P t false 1] [k : AtB L g t' fs put] [s : SubA fs o n ls putA] (hv : ls[j]? = some v) (hk : K v w) : mop P (o_load t (.pointer (some ⟨g, o + j, none⟩))) w K X := by
  obtain ⟨hb, hf⟩ := h.blf k
  exact mop_purW (pw_load1 cc.ok (by rw [hb.cell]; exact s.cell hf hv)) hk
theorem dm_lda {o j : Nat} {ls : List Value} {v : Value} {putA : List Value → List Fd} (h : Mem H w0 L w) [cc : ShpC P t false 1] [k : AtB L g t' fs put] [s : SubA fs o n ls putA] (hv : ls[j]? = some v) (hk : Kq v) : dq P w (o_load t (.pointer (some ⟨g, o + j, none⟩))) Kq := by
  obtain ⟨hb, hf⟩ := h.blf k
  exact dq_pur (fun _ hw => pw_load1 cc.ok (hw.cell (by rw [hb.cell]; exact s.cell hf hv))) hk
theorem mm_appb (h : Mem H w0 L w) [cc : SliC P t e 1 by_] [k : AtR L A n cap e 1 (byts l) R] [cx : SliC P tx e' 1 by_] [b : AtB L g t' fs put] [q : Sub fs i m [.arr m (u8s l')]] (hb : n + m ≤ 9223372036854775807 ∧ (n + m) * by_ ≤ 140737488355328)
    (hk : ∀ A' cap' w', Mem H w0 (rowR e 1 A' (n + m) cap' (byts (l ++ l')) :: R) w' → K (.slice A' (n + m) cap') w') : mop P (o_builtin .append #[t, tx] ty ks [.slice A n cap, .slice (some ⟨g, i, none⟩) m c]) w K X := by
  obtain ⟨h1, h2⟩ := h.bytesF b q
  have hs : Src P 1 tx (.slice (some ⟨g, i, none⟩) m c) m (fls (byts l')) w := by
    rw [fls_byts]
    exact Src.ofSlice w cx.und ⟨g, i, none⟩ m c (u8s l') (by simp [u8s, h1]) (fun j u hu => by rw [Addr.add_lit]; exact h2 j u hu) (u8s_one l')
  refine mm_app h k hs (els_byts l') (by rw [byts_length, h1]) hb.1 hb.2 fun A' cap' w' h3 => hk A' cap' w' (by rwa [byts_app])
theorem addr_add0 (a : Option Addr) : a.map (·.add 0) = a := by
  cases a with
  | none => rfl
  | some a => obtain ⟨b, o, s⟩ := a; rfl
instance (a : Option Addr) (n cap : Nat) (kk : IntKind) (hh : Int) [cs : SliS P t sz] : StepC P (o_slice t (.slice a n cap) none (some (.int kk hh)) none) (0 ≤ hh ∧ hh ≤ cap) (.slice a hh.toNat cap) := ⟨fun ⟨h0, h1⟩ w => by
  have h2 := run_slice_h (P := P) w t a n cap cs.ok.1 kk hh h0 h1
  have h3 : (sizeOf (P.elem t)).run P w = .ok sz w := run_size cs.ok.2 w
  simp only [o_slice, sv, Sem.run_bind, run_sliceAt_slice w t _ _ _ _ cs.ok.1, h2, h3, Result.andThen_ok, sliced, Nat.zero_mul, addr_add0, ite_self, Nat.sub_zero]
  rfl⟩
instance (b o n cap : Nat) (kk : IntKind) (ll : Int) [cs : SliS P t sz] : StepC P (o_slice t (.slice (some ⟨b, o, none⟩) n cap) (some (.int kk ll)) none none) (0 ≤ ll ∧ ll ≤ n ∧ ll < cap) (.slice (some ⟨b, o + ll.toNat * sz, none⟩) (n - ll.toNat) (cap - ll.toNat)) := ⟨fun ⟨h0, h1, h4⟩ w => by
  have h2 := run_slice_l (P := P) w t (some ⟨b, o, none⟩) n cap cs.ok.1 kk ll h0 h1
  have h3 : (sizeOf (P.elem t)).run P w = .ok sz w := run_size cs.ok.2 w
  have h5 : ¬ cap = ll.toNat := by omega
  simp only [o_slice, sv, Sem.run_bind, run_sliceAt_slice w t _ _ _ _ cs.ok.1, h2, h3, Result.andThen_ok, sliced, if_neg h5, Option.map_some, Addr.add_lit]
  rfl⟩
end
class ZvC (P : Program) (t : TypeId) (z : outParam Value) : Prop where
  ok : (P.info? t).bind (·.zero) = some z
end Go.Proofs.Ytopcnkejobomaaa
namespace Go.Proofs.Ytopcnkejobomaaa
open Go.RowKit Go.ChangeShapes Go.WideShapes
end Go.Proofs.Ytopcnkejobomaaa
namespace Go.Proofs.Ytopcnkejobomaaa
open Go.RowKit Go.ChangeShapes Go.WideShapes Go.Deep
end Go.Proofs.Ytopcnkejobomaaa
namespace Go.Proofs.Ytopcnkejobomaaa
open Go.RowKit Go.ChangeShapes Go.WideShapes
theorem byte_range {n : Int} (h : (Lit.int .u8 n).wf = true) : 0 ≤ n ∧ n < 256 := by have := bounds_u8 h; omega
end Go.Proofs.Ytopcnkejobomaaa
namespace Go.Proofs.Ytopcnkejobomaaa
open Go.RowKit Go.ChangeShapes Go.WideShapes Go.Deep
structure Rdr (P : Program) (t : TypeId) (sz : Nat) {α : Type} (rel : Hp → List Fd → α → Prop) : Prop where
  size : P.cellsOf t = sz
  read : ∀ {H : Type} (enc : TypeId × Value → H) (w : World) (base : Nat) (spare : Nat → Bool) (held : Bool) (n : Nat) (cs : List Value) (y : DataW H × List MemPlace), DataW.trod enc P w base spare held n t cs = some y → ∃ fs x, cs = fl fs ∧ FOk fs ∧ fsz fs = sz ∧ rel (Hp.of w) fs x
section
variable {P : Program} {t e : TypeId} {sz : Nat} {α β : Type} {rel : Hp → List Fd → α → Prop}
theorem Rdr.map (h : Rdr P t sz rel) {rel' : Hp → List Fd → β → Prop} (hm : ∀ H fs x, FOk fs → rel H fs x → ∃ y, rel' H fs y) : Rdr P t sz rel' :=
  ⟨h.size, fun enc w base spare held n cs y hy => by
    obtain ⟨fs, x, h1, h2, h3, h4⟩ := h.read enc w base spare held n cs y hy
    obtain ⟨z, hz⟩ := hm _ _ _ h2 h4
    exact ⟨fs, z, h1, h2, h3, hz⟩⟩
theorem rdr_int {k : IntKind} (ht : P.underlying t = some (.int k)) (hc : P.cellsOf t = 1) : Rdr P t 1 (fun _ fs (x : Int) => fs = [.one (.int k x)] ∧ (Lit.int k x).wf = true) :=
  ⟨hc, fun enc w base spare held n cs y hy => by
    obtain ⟨a, rfl, _, hw⟩ := DataW.trod_int ht hy
    exact ⟨[.one (.int k a)], a, rfl, inferInstance, rfl, rfl, hw⟩⟩
theorem rdr_bool (ht : P.underlying t = some .bool) (hc : P.cellsOf t = 1) : Rdr P t 1 (fun _ fs (x : Bool) => fs = [.one (.bool x)]) :=
  ⟨hc, fun enc w base spare held n cs y hy => by
    obtain ⟨a, rfl, _⟩ := DataW.trod_bool ht hy
    exact ⟨[.one (.bool a)], a, rfl, inferInstance, rfl, rfl⟩⟩
theorem rdr_arr {k : IntKind} {m : Nat} (ht : P.underlying t = some (.array m e)) (he : P.underlying e = some (.int k)) (hc : P.cellsOf t = m) (hce : P.cellsOf e = 1) : Rdr P t m (fun _ fs (x : List Int) => fs = [.arr m (x.map (.int k))] ∧ x.length = m ∧ ∀ z ∈ x, (Lit.int k z).wf = true) :=
  ⟨hc, fun enc w base spare held n cs y hy => by
    obtain ⟨ys, q, _, hx, hlen, hl, hcell⟩ := DataW.trod_array ht hy
    rw [hc] at hlen
    simp only [hce, Nat.mul_one] at hcell
    have hone : ∀ i (hi : i < m), ∃ a, cs[i]? = some (.int k a) ∧ (Lit.int k a).wf = true := fun i hi => by
      have h1 := hcell i hi
      rw [List.getElem?_eq_getElem (by omega)] at h1
      obtain ⟨a, ea, _, wa⟩ := DataW.trod_int he h1
      refine ⟨a, ?_, wa⟩
      have := congrArg (·[0]?) ea
      simpa using this
    let f : Value → Int := fun v => match v with | .int _ a => a | _ => 0
    have hcs : cs = (cs.map f).map (.int k) := by
      rw [List.map_map]
      refine List.ext_getElem (by simp) fun i g1 g2 => ?_
      obtain ⟨a, ha, _⟩ := hone i (by omega)
      rw [List.getElem?_eq_getElem g1] at ha
      simp only [Option.some.injEq] at ha
      simp only [List.getElem_map, ha, Function.comp, f]
    refine ⟨[.arr m ((cs.map f).map (.int k))], cs.map f, by simp only [fl, Fd.cells, List.append_nil]; exact hcs, ?_, by simp [fsz, Fd.size], rfl, by simp [hlen], ?_⟩
    · have : FdOk (.arr m ((cs.map f).map (.int k))) := ⟨by simp [Fd.cells, Fd.size, hlen], fun u hu => by
        simp only [Fd.cells, List.mem_map] at hu
        obtain ⟨_, _, rfl⟩ := hu
        rfl⟩
      infer_instance
    · intro z hz
      obtain ⟨v, hv, rfl⟩ := List.mem_map.1 hz
      obtain ⟨i, g1, rfl⟩ := List.mem_iff_getElem.1 hv
      obtain ⟨a, ha, hw⟩ := hone i (by omega)
      rw [List.getElem?_eq_getElem g1] at ha
      simp only [Option.some.injEq] at ha
      rw [ha]
      exact hw⟩
theorem rdr_h32 (ht : P.underlying t = some (.array 32 e)) (he : P.underlying e = some (.int .u8)) (hc : P.cellsOf t = 32) (hce : P.cellsOf e = 1) : Rdr P t 32 (fun _ fs (x : H32) => fs = [.arr 32 (u8s x.1)]) :=
  (rdr_arr ht he hc hce).map fun _ _ x _ ⟨h1, h2, h3⟩ => ⟨⟨x, h2, fun z hz => byte_range (h3 z hz)⟩, h1⟩
structure Rdf (P : Program) (fds : List Field) (off sz : Nat) {α : Type} (rel : Hp → List Fd → α → Prop) : Prop where
  read : ∀ {H : Type} (enc : TypeId × Value → H) (w : World) (base : Nat) (spare : Nat → Bool) (held : Bool) (n : Nat) (cs : List Value), cs.length = off + sz → (∀ f ∈ fds, ∃ y, DataW.trod enc P w base spare held n f.type ((cs.drop f.offset).take (P.cellsOf f.type)) = some y) → ∃ fs x, cs.drop off = fl fs ∧ FOk fs ∧ fsz fs = sz ∧ rel (Hp.of w) fs x
theorem Rdf.nil (off : Nat) : Rdf P [] off 0 (fun _ fs (_ : Unit) => fs = []) := ⟨fun enc w base spare held n cs hl _ => ⟨[], (), by rw [List.drop_eq_nil_of_le (by omega)]; rfl, inferInstance, rfl, rfl⟩⟩
theorem Rdf.cons {f : Field} {fds : List Field} {off a b s ty : Nat} {rel' : Hp → List Fd → β → Prop} (h : Rdr P ty a rel) (hty : f.type = ty) (ho : f.offset = off) (hs : s = b + a) (k : Rdf P fds (off + a) b rel') : Rdf P (f :: fds) off s (fun H fs (x : α × β) => ∃ gs hs, fs = gs ++ hs ∧ FOk gs ∧ rel H gs x.1 ∧ rel' H hs x.2) :=
  ⟨fun enc w base spare held n cs hl hf => by
    subst hs; subst hty
    obtain ⟨y, hy⟩ := hf f (List.mem_cons_self ..)
    obtain ⟨gs, x, h1, h2, h3, h4⟩ := h.read enc w base spare held n _ y hy
    obtain ⟨hs, z, k1, k2, k3, k4⟩ := k.read enc w base spare held n cs (by omega) fun g hg => hf g (List.mem_cons_of_mem _ hg)
    refine ⟨gs ++ hs, (x, z), ?_, h2.app k2, by rw [fsz_append, h3, k3]; omega, gs, hs, rfl, h2, h4, k4⟩
    rw [fl_append, ← h1, ← k1, h.size, ho, ← List.drop_drop, List.take_append_drop]⟩
theorem rdr_struct {fds : Array Field} (ht : P.underlying t = some (.struct fds)) (hc : P.cellsOf t = sz) (k : Rdf P fds.toList 0 sz rel) : Rdr P t sz rel :=
  ⟨hc, fun enc w base spare held n cs y hy => by
    obtain ⟨xs, m, _, _, hl, hlen, hf⟩ := DataW.trod_struct ht hy
    have := k.read enc w base spare held m cs (by omega) fun f hm => by
      obtain ⟨i, hi, rfl⟩ := List.mem_iff_getElem.1 hm
      have hi' : i < fds.size := by simpa using hi
      have := hf i fds[i] (by simp [hi'])
      rw [List.getElem?_eq_getElem (by omega)] at this
      simp only [Array.getElem_toList]
      exact ⟨_, this⟩
    simpa using this⟩
def All2 (r : List Fd → α → Prop) : List (List Fd) → List α → Prop
  | [], [] => True
  | p :: ps, x :: xs => r p x ∧ All2 r ps xs
  | _, _ => False
theorem All2.len {r : List Fd → α → Prop} : ∀ {ps : List (List Fd)} {xs : List α}, All2 r ps xs → ps.length = xs.length
  | [], [], _ => rfl
  | _ :: _, _ :: _, h => by simp [All2.len h.2]
  | [], _ :: _, h => h.elim
  | _ :: _, [], h => h.elim
theorem All2.eq_map {f : α → List Fd} {good : α → Prop} : ∀ {ps : List (List Fd)} {xs : List α}, All2 (fun p x => p = f x ∧ good x) ps xs → ps = xs.map f ∧ ∀ x ∈ xs, good x
  | [], [], _ => ⟨rfl, fun _ h => by cases h⟩
  | p :: ps, x :: xs, h => by
    obtain ⟨⟨rfl, hg⟩, h2⟩ := h
    obtain ⟨rfl, h4⟩ := All2.eq_map h2
    exact ⟨rfl, fun y hy => by
      cases hy with
      | head => exact hg
      | tail _ hy => exact h4 y hy⟩
  | [], _ :: _, h => h.elim
  | _ :: _, [], h => h.elim
theorem rdr_slice (ht : P.underlying t = some (.slice e)) (hc : P.cellsOf t = 1) (hsz : 0 < sz) (k : Rdr P e sz rel) : Rdr P t 1 (fun H fs (xs : List α) => ∃ A cap ps, fs = [.one (.slice A xs.length cap)] ∧ xs.length ≤ maxLen ∧ Sl H sz A ps ∧ All2 (rel H) ps xs) :=
  ⟨hc, fun enc w base spare held n cs y hy => by
    rcases DataW.trod_slice ht hy with ⟨rfl, _⟩ | ⟨a, len, cap, elems, rest, m, _, rfl, _, hb, hlc, hcm, hel, hat, _⟩
    · exact ⟨[.one (.slice none 0 0)], [], rfl, inferInstance, rfl, none, 0, [], rfl, by simp, Sl.nil _ _ _, trivial⟩
    · have key : ∀ j, j ≤ len → ∃ (ps : List (List Fd)) (xs : List α), ps.length = j ∧ Els sz ps ∧ All2 (rel (Hp.of w)) ps xs ∧ ∀ i u, (fls ps)[i]? = some u → w.cell? (a.add i) = some u := by
        intro j
        induction j with
        | zero => exact fun _ => ⟨[], [], rfl, Els.nil sz, trivial, fun i u h => by simp [fls] at h⟩
        | succ j ih =>
          intro hj
          obtain ⟨ps, xs, h1, h2, h3, h4⟩ := ih (by omega)
          have := hat j (by omega)
          rw [List.getElem?_eq_getElem (by omega)] at this
          obtain ⟨cs, hcs, htr⟩ := Option.bind_eq_some_iff.1 this
          obtain ⟨_, hcl, hcat⟩ := World.cells?_some hcs
          obtain ⟨fs, x, e1, e2, e3, e4⟩ := k.read enc w base spare held m cs _ htr
          have app : ∀ {ps : List (List Fd)} {xs : List α}, All2 (rel (Hp.of w)) ps xs → All2 (rel (Hp.of w)) (ps ++ [fs]) (xs ++ [x]) := by
            intro ps
            induction ps with
            | nil => intro xs h; cases xs with
              | nil => exact ⟨e4, trivial⟩
              | cons _ _ => exact h.elim
            | cons p ps ih => intro xs h; cases xs with
              | nil => exact h.elim
              | cons y xs => exact ⟨h.1, ih h.2⟩
          refine ⟨ps ++ [fs], xs ++ [x], by simp [h1], h2.app (Els.cons e2 e3 (Els.nil sz)), app h3, fun i u hu => ?_⟩
          rw [fls_app] at hu
          rcases Nat.lt_or_ge i (fls ps).length with hlt | hge
          · rw [List.getElem?_append_left hlt] at hu
            exact h4 i u hu
          · rw [List.getElem?_append_right hge] at hu
            have hl := h2.len
            simp only [fls, List.map_cons, List.map_nil, List.flatten_cons, List.flatten_nil, List.append_nil] at hu
            have hu2 : cs[i - (ps.map fl).flatten.length]? = some u := by rw [e1]; exact hu
            obtain ⟨hj1, hj2⟩ := List.getElem?_eq_some_iff.1 hu2
            have hq := hcat (i - (ps.map fl).flatten.length) (by rw [hcl] at hj1; exact hj1)
            rw [hu2, Go.Deep.add_add, k.size] at hq
            have hl2 : (ps.map fl).flatten.length = j * sz := by rw [← h1]; exact hl
            have hge2 : j * sz ≤ i := by rw [← hl2]; exact hge
            rw [hl2, show j * sz + (i - j * sz) = i by omega] at hq
            exact hq
      obtain ⟨ps, xs, h1, h2, h3, h4⟩ := key len (Nat.le_refl _)
      have hxl : xs.length = len := by rw [← h3.len, h1]
      refine ⟨[.one (.slice (some a) len cap)], xs, rfl, inferInstance, rfl, some a, cap, ps, by rw [hxl], by rw [hxl]; omega, ⟨h2, ?_⟩, h3⟩
      rcases Nat.eq_zero_or_pos (fls ps).length with h0 | h0
      · left
        rw [h2.len] at h0
        rcases Nat.mul_eq_zero.1 h0 with h | h
        · exact List.eq_nil_of_length_eq_zero h
        · omega
      · obtain ⟨u, hu⟩ : ∃ u, (fls ps)[0]? = some u := ⟨_, List.getElem?_eq_getElem h0⟩
        have hc0 := h4 0 u hu
        obtain ⟨b, off, spot⟩ := a
        have hs : spot = none := by simpa [Addr.add] using World.cell?_spot hc0
        subst hs
        have hcell : ∃ c t' fr, w.heap[b]? = some (.cells c t' fr) := by
          rw [Addr.add_lit] at hc0
          unfold World.cell? at hc0
          split at hc0
          · rename_i c t' fr hh
            exact ⟨c, t', fr, hh⟩
          · cases hc0
        obtain ⟨c, t', fr, hh⟩ := hcell
        refine .inr ⟨b, off, c, rfl, by simp [Hp.of, hh], fun j v hv => ?_⟩
        have := h4 j v hv
        rw [Addr.add_lit, cell_of_row w b (off + j) c t' fr hh] at this
        exact this⟩
theorem arg_agg {w : World} {r : Reach} {b : Nat} {v : Value} {fs : List Fd} (hd : (match P.underlying t with
    | some (.struct _) | some (.array _ _) => true
    | _ => false) = true) (hv : Value.okWide P w r b t v) (h : v.cells.toList = fl fs) : v = .agg (fl fs).toArray := by
  unfold Value.okWide at hv
  split at hd
  · rename_i hu
    simp only [hu] at hv
    obtain ⟨cs, rfl, _⟩ := hv
    rw [← h]
    simp [Value.cells]
  · rename_i hu
    simp only [hu] at hv
    obtain ⟨cs, rfl, _⟩ := hv
    rw [← h]
    simp [Value.cells]
  · cases hd
theorem arg_one {w : World} {r : Reach} {b : Nat} {v u : Value} (hd : (match P.underlying t with
    | some .bool | some (.int _) | some .string | some (.slice _) => true
    | _ => false) = true) (hv : Value.okWide P w r b t v) (h : v.cells.toList = fl [.one u]) : v = u := by
  have key : ∀ cs, v ≠ .agg cs := by
    rintro cs rfl
    unfold Value.okWide Cell.okWide Cell.ok at hv
    split at hd
    all_goals first
      | (cases hd; done)
      | (rename_i hu; simp only [hu] at hv)
  cases v <;> first
    | (exact absurd rfl (key _))
    | (simpa [Value.cells, fl, Fd.cells] using h)
end
end Go.Proofs.Ytopcnkejobomaaa
namespace Go.Proofs.Ytopcnkejobomaaa
def pX (R : Ending → World → Prop) : List PanicEntry → World → Prop := fun c w => R (.panicked c) w
abbrev m (R : Ending → World → Prop) (s : Sem Next) (w : World) (K : Value → World → Prop) : Prop := mop Try.prog s w K (pX R)
theorem mixed : Try.prog.follows .mixedOrders = true := by kernel_rfl
abbrev ml1 (a0 : Value) (w : World) (F : Value → Env → World → (Value → World → Prop) → Prop) : Prop :=
  ∃ (I : Value → World → Prop) (μ : Value → World → Nat), I a0 w ∧ ∀ (x0 : Value) (u : Env) (w : World), I x0 w → F x0 u w (fun y0 w2 => I y0 w2 ∧ μ y0 w2 < μ x0 w)
abbrev ml2 (a0 a1 : Value) (w : World) (F : Value → Value → Env → World → (Value → Value → World → Prop) → Prop) : Prop :=
  ∃ (I : Value → Value → World → Prop) (μ : Value → Value → World → Nat), I a0 a1 w ∧ ∀ (x0 x1 : Value) (u : Env) (w : World), I x0 x1 w → F x0 x1 u w (fun y0 y1 w2 => I y0 y1 w2 ∧ μ y0 y1 w2 < μ x0 x1 w)
abbrev ml4 (a0 a1 a2 a3 : Value) (w : World) (F : Value → Value → Value → Value → Env → World → (Value → Value → Value → Value → World → Prop) → Prop) : Prop :=
  ∃ (I : Value → Value → Value → Value → World → Prop) (μ : Value → Value → Value → Value → World → Nat), I a0 a1 a2 a3 w ∧ ∀ (x0 x1 x2 x3 : Value) (u : Env) (w : World), I x0 x1 x2 x3 w → F x0 x1 x2 x3 u w (fun y0 y1 y2 y3 w2 => I y0 y1 y2 y3 w2 ∧ μ y0 y1 y2 y3 w2 < μ x0 x1 x2 x3 w)
abbrev ml9 (a0 a1 a2 a3 a4 a5 a6 a7 a8 : Value) (w : World) (F : Value → Value → Value → Value → Value → Value → Value → Value → Value → Env → World → (Value → Value → Value → Value → Value → Value → Value → Value → Value → World → Prop) → Prop) : Prop :=
  ∃ (I : Value → Value → Value → Value → Value → Value → Value → Value → Value → World → Prop) (μ : Value → Value → Value → Value → Value → Value → Value → Value → Value → World → Nat), I a0 a1 a2 a3 a4 a5 a6 a7 a8 w ∧ ∀ (x0 x1 x2 x3 x4 x5 x6 x7 x8 : Value) (u : Env) (w : World), I x0 x1 x2 x3 x4 x5 x6 x7 x8 w → F x0 x1 x2 x3 x4 x5 x6 x7 x8 u w (fun y0 y1 y2 y3 y4 y5 y6 y7 y8 w2 => I y0 y1 y2 y3 y4 y5 y6 y7 y8 w2 ∧ μ y0 y1 y2 y3 y4 y5 y6 y7 y8 w2 < μ x0 x1 x2 x3 x4 x5 x6 x7 x8 w)
abbrev mj0 (F : (World → Prop) → Prop) (G : Env → World → Prop) : Prop :=
  ∃ J : World → Prop, F J ∧ ∀ (u : Env) (w : World), J w → G u w
abbrev mj1 (F : (Value → World → Prop) → Prop) (G : Value → Env → World → Prop) : Prop :=
  ∃ J : Value → World → Prop, F J ∧ ∀ (x0 : Value) (u : Env) (w : World), J x0 w → G x0 u w
abbrev mj2 (F : (Value → Value → World → Prop) → Prop) (G : Value → Value → Env → World → Prop) : Prop :=
  ∃ J : Value → Value → World → Prop, F J ∧ ∀ (x0 x1 : Value) (u : Env) (w : World), J x0 x1 w → G x0 x1 u w
abbrev mj3 (F : (Value → Value → Value → World → Prop) → Prop) (G : Value → Value → Value → Env → World → Prop) : Prop :=
  ∃ J : Value → Value → Value → World → Prop, F J ∧ ∀ (x0 x1 x2 : Value) (u : Env) (w : World), J x0 x1 x2 w → G x0 x1 x2 u w
instance : ShpC Try.prog 73 true 101 := ⟨by kernel_rfl⟩
instance : FunC Try.prog 40 := ⟨by kernel_rfl⟩
instance (ty : TypeId) (cs : List Bool) (a : Option Addr) (n c : Nat) : StepC Try.prog (o_builtin .len #[74] ty cs [.slice a n c]) True (.int .i64 n) := ⟨fun _ => p_len_slice 74 ty 85 cs a n c (by kernel_rfl)⟩
instance : FunC Try.prog 41 := ⟨by kernel_rfl⟩
instance (priority := 1100) (b : Nat) : StepC Try.prog (o_fieldAddr 73 (.pointer (some ⟨b, 0, none⟩)) 0) True (.pointer (some ⟨b, 0, none⟩)) := ⟨fun _ => p_fieldAddr 73 b 0 0 0 2 (by kernel_rfl) (by decide)⟩
instance : ShpC Try.prog 27 true 2 := ⟨by kernel_rfl⟩
instance (priority := 1100) (b : Nat) : StepC Try.prog (o_fieldAddr 73 (.pointer (some ⟨b, 0, none⟩)) 1) True (.pointer (some ⟨b, 2, none⟩)) := ⟨fun _ => p_fieldAddr 73 b 0 1 2 64 (by kernel_rfl) (by decide)⟩
instance : ShpC Try.prog 70 true 64 := ⟨by kernel_rfl⟩
instance (priority := 1100) (b : Nat) : StepC Try.prog (o_fieldAddr 73 (.pointer (some ⟨b, 0, none⟩)) 2) True (.pointer (some ⟨b, 66, none⟩)) := ⟨fun _ => p_fieldAddr 73 b 0 2 66 1 (by kernel_rfl) (by decide)⟩
instance : ShpC Try.prog 71 false 1 := ⟨by kernel_rfl⟩
instance : FunC Try.prog 42 := ⟨by kernel_rfl⟩
instance : ZerF Try.prog 27 [.one (.slice none 0 0), .one (.slice none 0 0)] := ⟨by kernel_rfl, inferInstance⟩
instance : ZerF Try.prog 70 [.arr 64 (List.replicate 64 (.int .i64 0))] := ⟨by kernel_rfl, inferInstance⟩
instance (priority := 1100) (b : Nat) : StepC Try.prog (o_fieldAddr 73 (.pointer (some ⟨b, 0, none⟩)) 3) True (.pointer (some ⟨b, 67, none⟩)) := ⟨fun _ => p_fieldAddr 73 b 0 3 67 32 (by kernel_rfl) (by decide)⟩
instance : ShpC Try.prog 34 true 32 := ⟨by kernel_rfl⟩
instance (priority := 1100) (b : Nat) : StepC Try.prog (o_fieldAddr 73 (.pointer (some ⟨b, 0, none⟩)) 4) True (.pointer (some ⟨b, 99, none⟩)) := ⟨fun _ => p_fieldAddr 73 b 0 4 99 1 (by kernel_rfl) (by decide)⟩
instance : ShpC Try.prog 3 false 1 := ⟨by kernel_rfl⟩
instance (priority := 1100) (b : Nat) : StepC Try.prog (o_fieldAddr 73 (.pointer (some ⟨b, 0, none⟩)) 5) True (.pointer (some ⟨b, 100, none⟩)) := ⟨fun _ => p_fieldAddr 73 b 0 5 100 1 (by kernel_rfl) (by decide)⟩
instance : FunC Try.prog 44 := ⟨by kernel_rfl⟩
instance : FunC Try.prog 27 := ⟨by kernel_rfl⟩
instance : FunC Try.prog 34 := ⟨by kernel_rfl⟩
instance (b o : Nat) (k : IntKind) (i : Int) : StepC Try.prog (o_indexAddr 70 (.pointer (some ⟨b, o, none⟩)) (.int k i)) (0 ≤ i ∧ i < 64) (.pointer (some ⟨b, o + i.toNat, none⟩)) := ⟨fun h => by have := p_indexAddr_array (P := Try.prog) 70 b o 64 k i 1 (by kernel_rfl) (by kernel_rfl) (by kernel_rfl) h.1 h.2; rwa [Nat.mul_one] at this⟩
instance : SliS Try.prog 74 101 := ⟨by kernel_rfl, by kernel_rfl⟩
instance (priority := 1100) (b : Nat) : StepC Try.prog (o_fieldAddr 85 (.pointer (some ⟨b, 0, none⟩)) 4) True (.pointer (some ⟨b, 35, none⟩)) := ⟨fun _ => p_fieldAddr 85 b 0 4 35 34 (by kernel_rfl) (by decide)⟩
instance (b o : Nat) : StepC Try.prog (o_fieldAddr 85 (.pointer (some ⟨b, o, none⟩)) 4) True (.pointer (some ⟨b, o + 35, none⟩)) := ⟨fun _ => p_fieldAddr 85 b o 4 35 34 (by kernel_rfl) (by decide)⟩
instance : ShpC Try.prog 83 true 34 := ⟨by kernel_rfl⟩
instance : ZerF Try.prog 83 [.one (.int .i64 0), .one (.int .i64 0), .arr 32 (u8s hzero.1)] := ⟨by kernel_rfl, inferInstance⟩
instance (priority := 1100) (b : Nat) : StepC Try.prog (o_fieldAddr 83 (.pointer (some ⟨b, 0, none⟩)) 1) True (.pointer (some ⟨b, 1, none⟩)) := ⟨fun _ => p_fieldAddr 83 b 0 1 1 1 (by kernel_rfl) (by decide)⟩
instance (b o : Nat) : StepC Try.prog (o_fieldAddr 83 (.pointer (some ⟨b, o, none⟩)) 1) True (.pointer (some ⟨b, o + 1, none⟩)) := ⟨fun _ => p_fieldAddr 83 b o 1 1 1 (by kernel_rfl) (by decide)⟩
instance (priority := 1100) (b : Nat) : StepC Try.prog (o_fieldAddr 83 (.pointer (some ⟨b, 0, none⟩)) 0) True (.pointer (some ⟨b, 0, none⟩)) := ⟨fun _ => p_fieldAddr 83 b 0 0 0 1 (by kernel_rfl) (by decide)⟩
instance (b o : Nat) : StepC Try.prog (o_fieldAddr 83 (.pointer (some ⟨b, o, none⟩)) 0) True (.pointer (some ⟨b, o + 0, none⟩)) := ⟨fun _ => p_fieldAddr 83 b o 0 0 1 (by kernel_rfl) (by decide)⟩
instance (priority := 1100) (b : Nat) : StepC Try.prog (o_fieldAddr 27 (.pointer (some ⟨b, 0, none⟩)) 0) True (.pointer (some ⟨b, 0, none⟩)) := ⟨fun _ => p_fieldAddr 27 b 0 0 0 1 (by kernel_rfl) (by decide)⟩
instance : ShpC Try.prog 24 false 1 := ⟨by kernel_rfl⟩
instance : SliS Try.prog 24 97 := ⟨by kernel_rfl, by kernel_rfl⟩
instance (b o : Nat) : StepC Try.prog (o_fieldAddr 36 (.pointer (some ⟨b, o, none⟩)) 1) True (.pointer (some ⟨b, o + 1, none⟩)) := ⟨fun _ => p_fieldAddr 36 b o 1 1 32 (by kernel_rfl) (by decide)⟩
instance : SliS Try.prog 71 33 := ⟨by kernel_rfl, by kernel_rfl⟩
instance (priority := 1100) (b : Nat) : StepC Try.prog (o_fieldAddr 90 (.pointer (some ⟨b, 0, none⟩)) 1) True (.pointer (some ⟨b, 32, none⟩)) := ⟨fun _ => p_fieldAddr 90 b 0 1 32 1 (by kernel_rfl) (by decide)⟩
instance (b o : Nat) : StepC Try.prog (o_fieldAddr 90 (.pointer (some ⟨b, o, none⟩)) 1) True (.pointer (some ⟨b, o + 32, none⟩)) := ⟨fun _ => p_fieldAddr 90 b o 1 32 1 (by kernel_rfl) (by decide)⟩
instance : ShpC Try.prog 88 false 1 := ⟨by kernel_rfl⟩
instance : SliS Try.prog 88 64 := ⟨by kernel_rfl, by kernel_rfl⟩
instance (b o : Nat) : StepC Try.prog (o_fieldAddr 87 (.pointer (some ⟨b, o, none⟩)) 1) True (.pointer (some ⟨b, o + 32, none⟩)) := ⟨fun _ => p_fieldAddr 87 b o 1 32 32 (by kernel_rfl) (by decide)⟩
instance : KindC Try.prog 34 (List.replicate 32 (.int .u8)) := ⟨by kernel_rfl, by kernel_rfl, by kernel_rfl⟩
instance (priority := 1100) (b : Nat) : StepC Try.prog (o_fieldAddr 83 (.pointer (some ⟨b, 0, none⟩)) 2) True (.pointer (some ⟨b, 2, none⟩)) := ⟨fun _ => p_fieldAddr 83 b 0 2 2 32 (by kernel_rfl) (by decide)⟩
instance (b o : Nat) : StepC Try.prog (o_fieldAddr 83 (.pointer (some ⟨b, o, none⟩)) 2) True (.pointer (some ⟨b, o + 2, none⟩)) := ⟨fun _ => p_fieldAddr 83 b o 2 2 32 (by kernel_rfl) (by decide)⟩
instance : IsBo Try.prog 4 := ⟨by kernel_rfl⟩
instance (ty : TypeId) (cs : List Bool) (a : Option Addr) (n c : Nat) : StepC Try.prog (o_builtin .len #[29] ty cs [.slice a n c]) True (.int .i64 n) := ⟨fun _ => p_len_slice 29 ty 3 cs a n c (by kernel_rfl)⟩
instance (ty : TypeId) (cs : List Bool) (a : Option Addr) (n c : Nat) : StepC Try.prog (o_builtin .len #[24] ty cs [.slice a n c]) True (.int .i64 n) := ⟨fun _ => p_len_slice 24 ty 36 cs a n c (by kernel_rfl)⟩
instance (priority := 1100) (b : Nat) : StepC Try.prog (o_fieldAddr 27 (.pointer (some ⟨b, 0, none⟩)) 1) True (.pointer (some ⟨b, 1, none⟩)) := ⟨fun _ => p_fieldAddr 27 b 0 1 1 1 (by kernel_rfl) (by decide)⟩
instance : ShpC Try.prog 25 false 1 := ⟨by kernel_rfl⟩
instance (ty : TypeId) (cs : List Bool) (a : Option Addr) (n c : Nat) : StepC Try.prog (o_builtin .len #[25] ty cs [.slice a n c]) True (.int .i64 n) := ⟨fun _ => p_len_slice 25 ty 96 cs a n c (by kernel_rfl)⟩
instance : ShpC Try.prog 36 true 97 := ⟨by kernel_rfl⟩
instance : ZerF Try.prog 36 [.one (.int .i64 0), .arr 32 (u8s hzero.1), .arr 32 (u8s hzero.1), .arr 32 (u8s hzero.1)] := ⟨by kernel_rfl, inferInstance⟩
instance : BltC Try.prog 36 := ⟨by kernel_rfl⟩
instance : KindC Try.prog 36 ((.int .i64) :: (List.replicate 32 (.int .u8) ++ (List.replicate 32 (.int .u8) ++ (List.replicate 32 (.int .u8))))) := ⟨by kernel_rfl, by kernel_rfl, by kernel_rfl⟩
instance (priority := 1100) (b : Nat) : StepC Try.prog (o_fieldAddr 36 (.pointer (some ⟨b, 0, none⟩)) 0) True (.pointer (some ⟨b, 0, none⟩)) := ⟨fun _ => p_fieldAddr 36 b 0 0 0 1 (by kernel_rfl) (by decide)⟩
instance (b o : Nat) : StepC Try.prog (o_fieldAddr 36 (.pointer (some ⟨b, o, none⟩)) 0) True (.pointer (some ⟨b, o + 0, none⟩)) := ⟨fun _ => p_fieldAddr 36 b o 0 0 1 (by kernel_rfl) (by decide)⟩
instance : SliS Try.prog 25 66 := ⟨by kernel_rfl, by kernel_rfl⟩
instance : ShpC Try.prog 96 true 66 := ⟨by kernel_rfl⟩
instance : ZerF Try.prog 96 [.one (.bool false), .arr 32 (u8s hzero.1), .arr 32 (u8s hzero.1), .one (.slice none 0 0)] := ⟨by kernel_rfl, inferInstance⟩
instance (priority := 1100) (b : Nat) : StepC Try.prog (o_fieldAddr 96 (.pointer (some ⟨b, 0, none⟩)) 0) True (.pointer (some ⟨b, 0, none⟩)) := ⟨fun _ => p_fieldAddr 96 b 0 0 0 1 (by kernel_rfl) (by decide)⟩
instance (b o : Nat) : StepC Try.prog (o_fieldAddr 96 (.pointer (some ⟨b, o, none⟩)) 0) True (.pointer (some ⟨b, o + 0, none⟩)) := ⟨fun _ => p_fieldAddr 96 b o 0 0 1 (by kernel_rfl) (by decide)⟩
instance : ShpC Try.prog 4 false 1 := ⟨by kernel_rfl⟩
instance (priority := 1100) (b : Nat) : StepC Try.prog (o_fieldAddr 96 (.pointer (some ⟨b, 0, none⟩)) 1) True (.pointer (some ⟨b, 1, none⟩)) := ⟨fun _ => p_fieldAddr 96 b 0 1 1 32 (by kernel_rfl) (by decide)⟩
instance : ZerF Try.prog 34 [.arr 32 (u8s hzero.1)] := ⟨by kernel_rfl, inferInstance⟩
instance : HshC Try.prog 34 := ⟨⟨5, by kernel_rfl, by kernel_rfl⟩, by kernel_rfl⟩
instance (priority := 1100) (b : Nat) : StepC Try.prog (o_fieldAddr 96 (.pointer (some ⟨b, 0, none⟩)) 2) True (.pointer (some ⟨b, 33, none⟩)) := ⟨fun _ => p_fieldAddr 96 b 0 2 33 32 (by kernel_rfl) (by decide)⟩
instance (priority := 1100) (b : Nat) : StepC Try.prog (o_fieldAddr 96 (.pointer (some ⟨b, 0, none⟩)) 3) True (.pointer (some ⟨b, 65, none⟩)) := ⟨fun _ => p_fieldAddr 96 b 0 3 65 1 (by kernel_rfl) (by decide)⟩
instance (b o : Nat) : StepC Try.prog (o_fieldAddr 96 (.pointer (some ⟨b, o, none⟩)) 3) True (.pointer (some ⟨b, o + 65, none⟩)) := ⟨fun _ => p_fieldAddr 96 b o 3 65 1 (by kernel_rfl) (by decide)⟩
instance : ShpC Try.prog 29 false 1 := ⟨by kernel_rfl⟩
instance : SliS Try.prog 29 1 := ⟨by kernel_rfl, by kernel_rfl⟩
instance : ZerF Try.prog 67 [.arr 65 (List.replicate 65 (.bool false))] := ⟨by kernel_rfl, inferInstance⟩
instance (b o : Nat) (k : IntKind) (i : Int) : StepC Try.prog (o_indexAddr 67 (.pointer (some ⟨b, o, none⟩)) (.int k i)) (0 ≤ i ∧ i < 65) (.pointer (some ⟨b, o + i.toNat, none⟩)) := ⟨fun h => by have := p_indexAddr_array (P := Try.prog) 67 b o 65 k i 1 (by kernel_rfl) (by kernel_rfl) (by kernel_rfl) h.1 h.2; rwa [Nat.mul_one] at this⟩
instance : FunC Try.prog 67 := ⟨by kernel_rfl⟩
instance : FunC Try.prog 68 := ⟨by kernel_rfl⟩
instance : BltC Try.prog 27 := ⟨by kernel_rfl⟩
instance : FunC Try.prog 61 := ⟨by kernel_rfl⟩
instance : FunC Try.prog 69 := ⟨by kernel_rfl⟩
instance : BltC Try.prog 96 := ⟨by kernel_rfl⟩
instance : FunC Try.prog 60 := ⟨by kernel_rfl⟩
instance : FunC Try.prog 70 := ⟨by kernel_rfl⟩
instance : FunC Try.prog 71 := ⟨by kernel_rfl⟩
instance : FunC Try.prog 59 := ⟨by kernel_rfl⟩
instance (b o : Nat) : StepC Try.prog (o_fieldAddr 36 (.pointer (some ⟨b, o, none⟩)) 3) True (.pointer (some ⟨b, o + 65, none⟩)) := ⟨fun _ => p_fieldAddr 36 b o 3 65 32 (by kernel_rfl) (by decide)⟩
instance : FunC Try.prog 72 := ⟨by kernel_rfl⟩
instance : FunC Try.prog 46 := ⟨by kernel_rfl⟩
instance : FdC Try.prog 27 0 0 1 false := ⟨by kernel_rfl⟩
instance : FunC Try.prog 76 := ⟨by kernel_rfl⟩
instance : FunC Try.prog 75 := ⟨by kernel_rfl⟩
instance (ty : TypeId) (cs : List Bool) (a : Option Addr) (n c : Nat) : StepC Try.prog (o_builtin .len #[71] ty cs [.slice a n c]) True (.int .i64 n) := ⟨fun _ => p_len_slice 71 ty 90 cs a n c (by kernel_rfl)⟩
instance (ty : TypeId) (cs : List Bool) (a : Option Addr) (n c : Nat) : StepC Try.prog (o_builtin .len #[88] ty cs [.slice a n c]) True (.int .i64 n) := ⟨fun _ => p_len_slice 88 ty 87 cs a n c (by kernel_rfl)⟩
instance : BltC Try.prog 83 := ⟨by kernel_rfl⟩
instance : PlC Try.prog 83 0 0 1 := ⟨by kernel_rfl⟩
instance : PlC Try.prog 83 1 1 1 := ⟨by kernel_rfl⟩
instance : ZerF Try.prog 85 [.arr 32 (u8s hzero.1), .one (.int .i64 0), .one (.int .i64 0), .one (.int .i64 0), .one (.int .i64 0), .one (.int .i64 0), .arr 32 (u8s hzero.1), .arr 32 (u8s hzero.1)] := ⟨by kernel_rfl, inferInstance⟩
instance : BltC Try.prog 85 := ⟨by kernel_rfl⟩
instance : PlC Try.prog 85 2 33 1 := ⟨by kernel_rfl⟩
instance : PlC Try.prog 85 3 34 1 := ⟨by kernel_rfl⟩
instance : PlC Try.prog 85 4 35 34 := ⟨by kernel_rfl⟩
instance : ShpC Try.prog 85 true 101 := ⟨by kernel_rfl⟩
instance : ZerC Try.prog 34 (List.replicate 32 (.int .u8 0)) := ⟨by kernel_rfl⟩
instance : FunC Try.prog 80 := ⟨by kernel_rfl⟩
instance : FunC Try.prog 78 := ⟨by kernel_rfl⟩
instance : FunC Try.prog 81 := ⟨by kernel_rfl⟩
instance : FunC Try.prog 79 := ⟨by kernel_rfl⟩
instance : FunC Try.prog 82 := ⟨by kernel_rfl⟩
instance : BltC Try.prog 70 := ⟨by kernel_rfl⟩
instance : FunC Try.prog 83 := ⟨by kernel_rfl⟩
instance : FunC Try.prog 84 := ⟨by kernel_rfl⟩
instance : FunC Try.prog 85 := ⟨by kernel_rfl⟩
instance : FunC Try.prog 29 := ⟨by kernel_rfl⟩
instance : FunC Try.prog 30 := ⟨by kernel_rfl⟩
instance : FunC Try.prog 86 := ⟨by kernel_rfl⟩
instance : FunC Try.prog 28 := ⟨by kernel_rfl⟩
instance (priority := 1100) (b : Nat) : StepC Try.prog (o_fieldAddr 90 (.pointer (some ⟨b, 0, none⟩)) 0) True (.pointer (some ⟨b, 0, none⟩)) := ⟨fun _ => p_fieldAddr 90 b 0 0 0 32 (by kernel_rfl) (by decide)⟩
instance : PlC Try.prog 36 0 0 1 := ⟨by kernel_rfl⟩
instance : PlC Try.prog 36 1 1 32 := ⟨by kernel_rfl⟩
instance : PlC Try.prog 36 2 33 32 := ⟨by kernel_rfl⟩
instance (priority := 1100) (b : Nat) : StepC Try.prog (o_fieldAddr 85 (.pointer (some ⟨b, 0, none⟩)) 2) True (.pointer (some ⟨b, 33, none⟩)) := ⟨fun _ => p_fieldAddr 85 b 0 2 33 1 (by kernel_rfl) (by decide)⟩
instance (priority := 1100) (b : Nat) : StepC Try.prog (o_fieldAddr 85 (.pointer (some ⟨b, 0, none⟩)) 0) True (.pointer (some ⟨b, 0, none⟩)) := ⟨fun _ => p_fieldAddr 85 b 0 0 0 32 (by kernel_rfl) (by decide)⟩
instance (priority := 1100) (b : Nat) : StepC Try.prog (o_fieldAddr 85 (.pointer (some ⟨b, 0, none⟩)) 1) True (.pointer (some ⟨b, 32, none⟩)) := ⟨fun _ => p_fieldAddr 85 b 0 1 32 1 (by kernel_rfl) (by decide)⟩
instance (b o : Nat) : StepC Try.prog (o_fieldAddr 36 (.pointer (some ⟨b, o, none⟩)) 2) True (.pointer (some ⟨b, o + 33, none⟩)) := ⟨fun _ => p_fieldAddr 36 b o 2 33 32 (by kernel_rfl) (by decide)⟩
instance : FunC Try.prog 89 := ⟨by kernel_rfl⟩
instance : FunC Try.prog 90 := ⟨by kernel_rfl⟩
instance : FunC Try.prog 93 := ⟨by kernel_rfl⟩
instance (ty : TypeId) (cs : List Bool) (a : Option Addr) (n c : Nat) : StepC Try.prog (o_builtin .len #[137] ty cs [.slice a n c]) True (.int .i64 n) := ⟨fun _ => p_len_slice 137 ty 9 cs a n c (by kernel_rfl)⟩
instance (b o n c : Nat) (k : IntKind) (i : Int) : StepC Try.prog (o_indexAddr 137 (.slice (some ⟨b, o, none⟩) n c) (.int k i)) (0 ≤ i ∧ i < n) (.pointer (some ⟨b, o + i.toNat, none⟩)) := ⟨fun h => by have := p_indexAddr_slice (P := Try.prog) 137 b o n c k i 1 (by kernel_rfl) (by kernel_rfl) h.1 h.2; rwa [Nat.mul_one] at this⟩
instance : ShpC Try.prog 9 false 1 := ⟨by kernel_rfl⟩
instance : FunC Try.prog 94 := ⟨by kernel_rfl⟩
instance : ZerC Try.prog 147 (List.replicate 72 (.int .u8 0)) := ⟨by kernel_rfl⟩
instance (b o : Nat) (k : IntKind) (i : Int) : StepC Try.prog (o_indexAddr 147 (.pointer (some ⟨b, o, none⟩)) (.int k i)) (0 ≤ i ∧ i < 72) (.pointer (some ⟨b, o + i.toNat, none⟩)) := ⟨fun h => by have := p_indexAddr_array (P := Try.prog) 147 b o 72 k i 1 (by kernel_rfl) (by kernel_rfl) (by kernel_rfl) h.1 h.2; rwa [Nat.mul_one] at this⟩
instance : ShpC Try.prog 5 false 1 := ⟨by kernel_rfl⟩
instance (priority := 1100) (b : Nat) : StepC Try.prog (o_fieldAddr 145 (.pointer (some ⟨b, 0, none⟩)) 2) True (.pointer (some ⟨b, 72, none⟩)) := ⟨fun _ => p_fieldAddr 145 b 0 2 72 1 (by kernel_rfl) (by decide)⟩
instance (a : Int) : StepC Try.prog (o_conv 3 148 (.int .i64 a)) True (.int .u64 (a % 18446744073709551616)) := ⟨fun _ => by have := p_conv_int (P := Try.prog) 3 148 .i64 .u64 a (by kernel_rfl) (by kernel_rfl); rwa [show IntKind.wrap .u64 a = a % 18446744073709551616 by simp [IntKind.wrap, IntKind.bits, IntKind.signed]] at this⟩
instance (a : Int) : StepC Try.prog (o_conv 148 5 (.int .u64 a)) True (.int .u8 (a % 256)) := ⟨fun _ => by have := p_conv_int (P := Try.prog) 148 5 .u64 .u8 a (by kernel_rfl) (by kernel_rfl); rwa [show IntKind.wrap .u8 a = a % 256 by simp [IntKind.wrap, IntKind.bits, IntKind.signed]] at this⟩
instance (b o : Nat) (k : IntKind) (l : Int) : StepC Try.prog (o_slice 147 (.pointer (some ⟨b, o, none⟩)) none (some (.int k l)) none) (0 ≤ l ∧ l ≤ 72) (.slice (some ⟨b, o, none⟩) l.toNat 72) := ⟨fun h => p_slice_array_h (P := Try.prog) 147 b o 72 k l 1 (by kernel_rfl) (by kernel_rfl) (by kernel_rfl) h.1 h.2⟩
instance : StrC Try.prog 106 9 := ⟨⟨5, by kernel_rfl, by kernel_rfl⟩, by kernel_rfl⟩
instance (priority := 1100) (b : Nat) : StepC Try.prog (o_fieldAddr 145 (.pointer (some ⟨b, 0, none⟩)) 0) True (.pointer (some ⟨b, 0, none⟩)) := ⟨fun _ => p_fieldAddr 145 b 0 0 0 8 (by kernel_rfl) (by decide)⟩
instance (priority := 1200) (b : Nat) (k : IntKind) : StepC Try.prog (o_indexAddr 140 (.pointer (some ⟨b, 0, none⟩)) (.int k 0)) True (.pointer (some ⟨b, 0, none⟩)) := ⟨fun _ => by have := p_indexAddr_array (P := Try.prog) 140 b 0 8 k 0 1 (by kernel_rfl) (by kernel_rfl) (by kernel_rfl) (by omega) (by omega); exact this⟩
instance (priority := 1200) (b : Nat) (k : IntKind) : StepC Try.prog (o_indexAddr 140 (.pointer (some ⟨b, 0, none⟩)) (.int k 1)) True (.pointer (some ⟨b, 1, none⟩)) := ⟨fun _ => by have := p_indexAddr_array (P := Try.prog) 140 b 0 8 k 1 1 (by kernel_rfl) (by kernel_rfl) (by kernel_rfl) (by omega) (by omega); exact this⟩
instance (priority := 1200) (b : Nat) (k : IntKind) : StepC Try.prog (o_indexAddr 140 (.pointer (some ⟨b, 0, none⟩)) (.int k 2)) True (.pointer (some ⟨b, 2, none⟩)) := ⟨fun _ => by have := p_indexAddr_array (P := Try.prog) 140 b 0 8 k 2 1 (by kernel_rfl) (by kernel_rfl) (by kernel_rfl) (by omega) (by omega); exact this⟩
instance (priority := 1200) (b : Nat) (k : IntKind) : StepC Try.prog (o_indexAddr 140 (.pointer (some ⟨b, 0, none⟩)) (.int k 3)) True (.pointer (some ⟨b, 3, none⟩)) := ⟨fun _ => by have := p_indexAddr_array (P := Try.prog) 140 b 0 8 k 3 1 (by kernel_rfl) (by kernel_rfl) (by kernel_rfl) (by omega) (by omega); exact this⟩
instance (priority := 1200) (b : Nat) (k : IntKind) : StepC Try.prog (o_indexAddr 140 (.pointer (some ⟨b, 0, none⟩)) (.int k 4)) True (.pointer (some ⟨b, 4, none⟩)) := ⟨fun _ => by have := p_indexAddr_array (P := Try.prog) 140 b 0 8 k 4 1 (by kernel_rfl) (by kernel_rfl) (by kernel_rfl) (by omega) (by omega); exact this⟩
instance (priority := 1200) (b : Nat) (k : IntKind) : StepC Try.prog (o_indexAddr 140 (.pointer (some ⟨b, 0, none⟩)) (.int k 5)) True (.pointer (some ⟨b, 5, none⟩)) := ⟨fun _ => by have := p_indexAddr_array (P := Try.prog) 140 b 0 8 k 5 1 (by kernel_rfl) (by kernel_rfl) (by kernel_rfl) (by omega) (by omega); exact this⟩
instance (priority := 1200) (b : Nat) (k : IntKind) : StepC Try.prog (o_indexAddr 140 (.pointer (some ⟨b, 0, none⟩)) (.int k 6)) True (.pointer (some ⟨b, 6, none⟩)) := ⟨fun _ => by have := p_indexAddr_array (P := Try.prog) 140 b 0 8 k 6 1 (by kernel_rfl) (by kernel_rfl) (by kernel_rfl) (by omega) (by omega); exact this⟩
instance (priority := 1200) (b : Nat) (k : IntKind) : StepC Try.prog (o_indexAddr 140 (.pointer (some ⟨b, 0, none⟩)) (.int k 7)) True (.pointer (some ⟨b, 7, none⟩)) := ⟨fun _ => by have := p_indexAddr_array (P := Try.prog) 140 b 0 8 k 7 1 (by kernel_rfl) (by kernel_rfl) (by kernel_rfl) (by omega) (by omega); exact this⟩
instance (b o : Nat) (k : IntKind) (i : Int) : StepC Try.prog (o_indexAddr 140 (.pointer (some ⟨b, o, none⟩)) (.int k i)) (0 ≤ i ∧ i < 8) (.pointer (some ⟨b, o + i.toNat, none⟩)) := ⟨fun h => by have := p_indexAddr_array (P := Try.prog) 140 b o 8 k i 1 (by kernel_rfl) (by kernel_rfl) (by kernel_rfl) h.1 h.2; rwa [Nat.mul_one] at this⟩
instance : ShpC Try.prog 139 false 1 := ⟨by kernel_rfl⟩
instance (a : Int) : StepC Try.prog (o_conv 139 5 (.int .u32 a)) True (.int .u8 (a % 256)) := ⟨fun _ => by have := p_conv_int (P := Try.prog) 139 5 .u32 .u8 a (by kernel_rfl) (by kernel_rfl); rwa [show IntKind.wrap .u8 a = a % 256 by simp [IntKind.wrap, IntKind.bits, IntKind.signed]] at this⟩
instance (b o : Nat) (k : IntKind) (i : Int) : StepC Try.prog (o_indexAddr 34 (.pointer (some ⟨b, o, none⟩)) (.int k i)) (0 ≤ i ∧ i < 32) (.pointer (some ⟨b, o + i.toNat, none⟩)) := ⟨fun h => by have := p_indexAddr_array (P := Try.prog) 34 b o 32 k i 1 (by kernel_rfl) (by kernel_rfl) (by kernel_rfl) h.1 h.2; rwa [Nat.mul_one] at this⟩
instance : ZerF Try.prog 33 [.arr 32 (u8s hzero.1)] := ⟨by kernel_rfl, inferInstance⟩
instance : ZerC Try.prog 33 (List.replicate 32 (.int .u8 0)) := ⟨by kernel_rfl⟩
instance : ZerC Try.prog 141 (List.replicate 64 (.int .u32 0)) := ⟨by kernel_rfl⟩
instance : ShpC Try.prog 141 true 64 := ⟨by kernel_rfl⟩
instance (ty : TypeId) (cs : List Bool) (a : Option Addr) (n c : Nat) : StepC Try.prog (o_builtin .len #[106] ty cs [.slice a n c]) True (.int .i64 n) := ⟨fun _ => p_len_slice 106 ty 5 cs a n c (by kernel_rfl)⟩
instance (ty : TypeId) (cs : List Bool) (s : ByteArray) : StepC Try.prog (o_builtin .len #[9] ty cs [.string s]) True (.int .i64 s.size) := ⟨fun _ => p_len_string 9 ty cs s (by kernel_rfl)⟩
instance (a : Int) : StepC Try.prog (o_conv 3 120 (.int .i64 a)) True (.int .u64 (a % 18446744073709551616)) := ⟨fun _ => by have := p_conv_int (P := Try.prog) 3 120 .i64 .u64 a (by kernel_rfl) (by kernel_rfl); rwa [show IntKind.wrap .u64 a = a % 18446744073709551616 by simp [IntKind.wrap, IntKind.bits, IntKind.signed]] at this⟩
instance : ZerC Try.prog 140 (List.replicate 8 (.int .u32 0)) := ⟨by kernel_rfl⟩
instance : ShpC Try.prog 140 true 8 := ⟨by kernel_rfl⟩
instance : FunC Try.prog 100 := ⟨by kernel_rfl⟩
instance (b o : Nat) (k : IntKind) (i : Int) : StepC Try.prog (o_indexAddr 141 (.pointer (some ⟨b, o, none⟩)) (.int k i)) (0 ≤ i ∧ i < 64) (.pointer (some ⟨b, o + i.toNat, none⟩)) := ⟨fun h => by have := p_indexAddr_array (P := Try.prog) 141 b o 64 k i 1 (by kernel_rfl) (by kernel_rfl) (by kernel_rfl) h.1 h.2; rwa [Nat.mul_one] at this⟩
instance : FunC Try.prog 101 := ⟨by kernel_rfl⟩
instance (b o : Nat) (k : IntKind) (i : Int) : StepC Try.prog (o_indexAddr 33 (.pointer (some ⟨b, o, none⟩)) (.int k i)) (0 ≤ i ∧ i < 32) (.pointer (some ⟨b, o + i.toNat, none⟩)) := ⟨fun h => by have := p_indexAddr_array (P := Try.prog) 33 b o 32 k i 1 (by kernel_rfl) (by kernel_rfl) (by kernel_rfl) h.1 h.2; rwa [Nat.mul_one] at this⟩
instance : ShpC Try.prog 33 true 32 := ⟨by kernel_rfl⟩
instance : PlC Try.prog 27 0 0 1 := ⟨by kernel_rfl⟩
instance : PlC Try.prog 27 1 1 1 := ⟨by kernel_rfl⟩
instance : FunC Try.prog 111 := ⟨by kernel_rfl⟩
instance (a : Int) : StepC Try.prog (o_conv 120 3 (.int .u64 a)) ((-9223372036854775808) ≤ a ∧ a < 9223372036854775808) (.int .i64 a) := ⟨fun h => by have := p_conv_int (P := Try.prog) 120 3 .u64 .i64 a (by kernel_rfl) (by kernel_rfl); rwa [show IntKind.wrap .i64 a = a by simp [IntKind.wrap, IntKind.bits, IntKind.signed]; omega] at this⟩
instance : FunC Try.prog 112 := ⟨by kernel_rfl⟩
instance : FunC Try.prog 113 := ⟨by kernel_rfl⟩
instance : FunC Try.prog 118 := ⟨by kernel_rfl⟩
instance : FunC Try.prog 120 := ⟨by kernel_rfl⟩
instance (priority := 1100) (b : Nat) : StepC Try.prog (o_fieldAddr 85 (.pointer (some ⟨b, 0, none⟩)) 5) True (.pointer (some ⟨b, 69, none⟩)) := ⟨fun _ => p_fieldAddr 85 b 0 5 69 32 (by kernel_rfl) (by decide)⟩
instance : FunC Try.prog 119 := ⟨by kernel_rfl⟩
instance : FunC Try.prog 121 := ⟨by kernel_rfl⟩
instance : FunC Try.prog 122 := ⟨by kernel_rfl⟩
instance : FunC Try.prog 123 := ⟨by kernel_rfl⟩
instance (priority := 1100) (b : Nat) : StepC Try.prog (o_fieldAddr 85 (.pointer (some ⟨b, 0, none⟩)) 3) True (.pointer (some ⟨b, 34, none⟩)) := ⟨fun _ => p_fieldAddr 85 b 0 3 34 1 (by kernel_rfl) (by decide)⟩
instance : IsSl Try.prog 24 := isSl_of (by kernel_rfl)
instance : IsSl Try.prog 25 := isSl_of (by kernel_rfl)
instance : IsSl Try.prog 29 := isSl_of (by kernel_rfl)
instance : ShpC Try.prog 90 true 33 := ⟨by kernel_rfl⟩
instance : ZerF Try.prog 90 [.arr 32 (u8s hzero.1), .one (.slice none 0 0)] := ⟨by kernel_rfl, inferInstance⟩
instance (priority := 1100) (b : Nat) : StepC Try.prog (o_fieldAddr 145 (.pointer (some ⟨b, 0, none⟩)) 1) True (.pointer (some ⟨b, 8, none⟩)) := ⟨fun _ => p_fieldAddr 145 b 0 1 8 64 (by kernel_rfl) (by decide)⟩
instance (b o : Nat) (k : IntKind) (l : Int) : StepC Try.prog (o_slice 143 (.pointer (some ⟨b, o, none⟩)) (some (.int k l)) none none) (0 ≤ l ∧ l < 64) (.slice (some ⟨b, o + l.toNat, none⟩) (64 - l.toNat) (64 - l.toNat)) := ⟨fun h => by have := p_slice_array_l (P := Try.prog) 143 b o 64 k l 1 (by kernel_rfl) (by kernel_rfl) (by kernel_rfl) h.1 h.2; rwa [Nat.mul_one] at this⟩
instance (b o : Nat) : StepC Try.prog (o_slice 143 (.pointer (some ⟨b, o, none⟩)) none none none) True (.slice (some ⟨b, o, none⟩) 64 64) := ⟨fun _ => p_slice_array_all (P := Try.prog) 143 b o 64 1 (by kernel_rfl) (by kernel_rfl) (by kernel_rfl)⟩
instance (s : ByteArray) (k : IntKind) (l : Int) : StepC Try.prog (o_slice 9 (.string s) (some (.int k l)) none none) (0 ≤ l ∧ l ≤ s.size) (.string (s.extract l.toNat s.size)) := ⟨fun h => p_slice_string_l (P := Try.prog) 9 s k l (by kernel_rfl) h.1 h.2⟩
instance : FunC Try.prog 127 := ⟨by kernel_rfl⟩
instance : ZerF Try.prog 173 [.one (.slice none 0 0), .one (.bool false)] := ⟨by kernel_rfl, inferInstance⟩
instance : BltC Try.prog 173 := ⟨by kernel_rfl⟩
instance : ShpC Try.prog 173 true 2 := ⟨by kernel_rfl⟩
instance : IsPt Try.prog 149 := isPt_of (by kernel_rfl)
instance (priority := 1100) (b : Nat) : StepC Try.prog (o_fieldAddr 173 (.pointer (some ⟨b, 0, none⟩)) 1) True (.pointer (some ⟨b, 1, none⟩)) := ⟨fun _ => p_fieldAddr 173 b 0 1 1 1 (by kernel_rfl) (by decide)⟩
instance (priority := 1100) (b : Nat) : StepC Try.prog (o_fieldAddr 173 (.pointer (some ⟨b, 0, none⟩)) 0) True (.pointer (some ⟨b, 0, none⟩)) := ⟨fun _ => p_fieldAddr 173 b 0 0 0 1 (by kernel_rfl) (by decide)⟩
instance : ShpC Try.prog 106 false 1 := ⟨by kernel_rfl⟩
instance (b o : Nat) : StepC Try.prog (o_slice 34 (.pointer (some ⟨b, o, none⟩)) none none none) True (.slice (some ⟨b, o, none⟩) 32 32) := ⟨fun _ => p_slice_array_all (P := Try.prog) 34 b o 32 1 (by kernel_rfl) (by kernel_rfl) (by kernel_rfl)⟩
instance (b o n c : Nat) (k : IntKind) (i : Int) : StepC Try.prog (o_indexAddr 106 (.slice (some ⟨b, o, none⟩) n c) (.int k i)) (0 ≤ i ∧ i < n) (.pointer (some ⟨b, o + i.toNat, none⟩)) := ⟨fun h => by have := p_indexAddr_slice (P := Try.prog) 106 b o n c k i 1 (by kernel_rfl) (by kernel_rfl) h.1 h.2; rwa [Nat.mul_one] at this⟩
instance (a : Int) : StepC Try.prog (o_conv 5 139 (.int .u8 a)) (0 ≤ a ∧ a < 256) (.int .u32 a) := ⟨fun h => by have := p_conv_int (P := Try.prog) 5 139 .u8 .u32 a (by kernel_rfl) (by kernel_rfl); rwa [show IntKind.wrap .u32 a = a by simp [IntKind.wrap, IntKind.bits, IntKind.signed]; omega] at this⟩
instance : FunC Try.prog 55 := ⟨by kernel_rfl⟩
instance : FunC Try.prog 133 := ⟨by kernel_rfl⟩
instance : FunC Try.prog 145 := ⟨by kernel_rfl⟩
instance : FunC Try.prog 95 := ⟨by kernel_rfl⟩
instance : FunC Try.prog 99 := ⟨by kernel_rfl⟩
instance : ZerF Try.prog 186 [.one (.int .i64 0), .one (.int .i64 0), .one (.int .i64 0), .one (.int .i64 0), .one (.int .i64 0)] := ⟨by kernel_rfl, inferInstance⟩
instance : BltC Try.prog 186 := ⟨by kernel_rfl⟩
instance : PlC Try.prog 186 0 0 1 := ⟨by kernel_rfl⟩
instance : PlC Try.prog 186 1 1 1 := ⟨by kernel_rfl⟩
instance : PlC Try.prog 186 2 2 1 := ⟨by kernel_rfl⟩
instance : PlC Try.prog 186 3 3 1 := ⟨by kernel_rfl⟩
instance : PlC Try.prog 186 4 4 1 := ⟨by kernel_rfl⟩
instance : FunC Try.prog 129 := ⟨by kernel_rfl⟩
instance : FunC Try.prog 97 := ⟨by kernel_rfl⟩
instance : FunC Try.prog 146 := ⟨by kernel_rfl⟩
instance : FunC Try.prog 147 := ⟨by kernel_rfl⟩
instance : FunC Try.prog 56 := ⟨by kernel_rfl⟩
instance : FunC Try.prog 151 := ⟨by kernel_rfl⟩
instance (priority := 1100) (b : Nat) : StepC Try.prog (o_fieldAddr 145 (.pointer (some ⟨b, 0, none⟩)) 3) True (.pointer (some ⟨b, 73, none⟩)) := ⟨fun _ => p_fieldAddr 145 b 0 3 73 64 (by kernel_rfl) (by decide)⟩
instance : FunC Try.prog 152 := ⟨by kernel_rfl⟩
instance (a : Int) : StepC Try.prog (o_conv 3 5 (.int .i64 a)) True (.int .u8 (a % 256)) := ⟨fun _ => by have := p_conv_int (P := Try.prog) 3 5 .i64 .u8 a (by kernel_rfl) (by kernel_rfl); rwa [show IntKind.wrap .u8 a = a % 256 by simp [IntKind.wrap, IntKind.bits, IntKind.signed]] at this⟩
instance : FunC Try.prog 159 := ⟨by kernel_rfl⟩
instance : FunC Try.prog 53 := ⟨by kernel_rfl⟩
instance (b o : Nat) : StepC Try.prog (o_slice 33 (.pointer (some ⟨b, o, none⟩)) none none none) True (.slice (some ⟨b, o, none⟩) 32 32) := ⟨fun _ => p_slice_array_all (P := Try.prog) 33 b o 32 1 (by kernel_rfl) (by kernel_rfl) (by kernel_rfl)⟩
instance : ZerF Try.prog 189 [.one (.int .i64 0), .one (.int .i64 0), .one (.int .i64 0), .one (.int .i64 0)] := ⟨by kernel_rfl, inferInstance⟩
instance : BltC Try.prog 189 := ⟨by kernel_rfl⟩
instance : PlC Try.prog 189 0 0 1 := ⟨by kernel_rfl⟩
instance : PlC Try.prog 189 1 1 1 := ⟨by kernel_rfl⟩
instance : PlC Try.prog 189 2 2 1 := ⟨by kernel_rfl⟩
instance : PlC Try.prog 189 3 3 1 := ⟨by kernel_rfl⟩
instance : ShpC Try.prog 189 true 4 := ⟨by kernel_rfl⟩
instance : ZerC Try.prog 143 (List.replicate 64 (.int .u8 0)) := ⟨by kernel_rfl⟩
instance (b o : Nat) (k : IntKind) (i : Int) : StepC Try.prog (o_indexAddr 143 (.pointer (some ⟨b, o, none⟩)) (.int k i)) (0 ≤ i ∧ i < 64) (.pointer (some ⟨b, o + i.toNat, none⟩)) := ⟨fun h => by have := p_indexAddr_array (P := Try.prog) 143 b o 64 k i 1 (by kernel_rfl) (by kernel_rfl) (by kernel_rfl) h.1 h.2; rwa [Nat.mul_one] at this⟩
instance : SliC Try.prog 25 96 66 96 := ⟨by kernel_rfl⟩
instance : SliC Try.prog 24 36 97 104 := ⟨by kernel_rfl⟩
instance : SliC Try.prog 29 3 1 8 := ⟨by kernel_rfl⟩
instance : SliC Try.prog 106 5 1 1 := ⟨by kernel_rfl⟩
instance : SliC Try.prog 137 9 1 16 := ⟨by kernel_rfl⟩
end Go.Proofs.Ytopcnkejobomaaa
set_option linter.unusedVariables false
namespace Go.Proofs.Ytopcnkejobomaaa
def F_bevylaw10_ChangeNames (x0 x1 : Value) (w : World) (R : Ending → World → Prop) : Prop :=
 m R (o_box 73 x0) w fun x2 w1 =>
 mj1 (fun j2 =>
 m R (o_call (fv 41) []) w1 fun x16 w2 =>
 m R (o_un .not x16) w2 fun x17 w3 =>
 mguard x17 false (fun k => m R (o_load 73 x2) w3 k) w3 fun x19 w4 =>
 mguard x17 false (fun k => m R (o_call (fv 40) [x19]) w4 k) w4 fun x20 w5 =>
 mguard x17 false (fun k => m R (o_un .not x20) w5 k) w5 fun x21 w6 =>
 m R (o_pick x17 (.bool true) x21) w6 fun x22 w7 =>
 mguard x22 false (fun k => m R (o_move x1) w7 k) w7 fun x24 w8 =>
 mguard x22 false (fun k => m R (o_builtin .len #[74] 3 [false] [x24]) w8 k) w8 fun x25 w9 =>
 mguard x22 false (fun k => m R (o_bin .gtr 3 true x25 (.int .i64 70)) w9 k) w9 fun x26 w10 =>
 m R (o_pick x22 (.bool true) x26) w10 fun x27 w11 =>
 j2 x27 w11) fun x27 u2 w12 =>
 mif x27 (
 m R (o_call (fv 41) []) w12 fun x28 w13 =>
 R (.returned x28) w13) (
 m R (o_fieldAddr 73 x2 0) w12 fun x29 w14 =>
 m R (o_load 27 x29) w14 fun x30 w15 =>
 m R (o_fieldAddr 73 x2 1) w15 fun x31 w16 =>
 m R (o_load 70 x31) w16 fun x32 w17 =>
 m R (o_fieldAddr 73 x2 2) w17 fun x33 w18 =>
 m R (o_load 71 x33) w18 fun x34 w19 =>
 m R (o_fieldAddr 73 x2 3) w19 fun x35 w20 =>
 m R (o_load 34 x35) w20 fun x36 w21 =>
 m R (o_fieldAddr 73 x2 4) w21 fun x37 w22 =>
 m R (o_load 3 x37) w22 fun x38 w23 =>
 m R (o_fieldAddr 73 x2 5) w23 fun x39 w24 =>
 m R (o_load 3 x39) w24 fun x40 w25 =>
 m R (o_call (fv 44) [x30, x32, x34, x36, x38, x40, x1]) w25 fun x42 w26 =>
 m R (o_bin .neq 43 true x42 (.int .i64 0)) w26 fun x43 w27 =>
 mif x43 (
 R (.returned (.bool true)) w27) (
 m R (o_fieldAddr 73 x2 0) w27 fun x45 w28 =>
 m R (o_load 27 x45) w28 fun x46 w29 =>
 m R (o_fieldAddr 73 x2 1) w29 fun x47 w30 =>
 m R (o_load 70 x47) w30 fun x48 w31 =>
 m R (o_fieldAddr 73 x2 2) w31 fun x49 w32 =>
 m R (o_load 71 x49) w32 fun x50 w33 =>
 m R (o_call (fv 42) [x46, x48, x50, x1]) w33 fun x52 w34 =>
 m R (o_extract x52 0) w34 fun x53 w35 =>
 m R (o_extract x52 1) w35 fun x54 w36 =>
 m R (o_extract x52 2) w36 fun x55 w37 =>
 m R (o_extract x52 3) w37 fun x56 w38 =>
 m R (o_alloc 27) w38 fun x5 w39 =>
 m R (o_alloc 70) w39 fun x6 w40 =>
 m R (o_store 27 x5 x53) w40 fun _ w41 =>
 m R (o_store 70 x6 x54) w41 fun _ w42 =>
 mj1 (fun j7 =>
 m R (o_bin .neq 43 true x56 (.int .i64 0)) w42 fun x58 w43 =>
 mguard x58 false (fun k => m R (o_load 27 x5) w43 k) w43 fun x60 w44 =>
 mguard x58 false (fun k => m R (o_call (fv 27) [x60]) w44 k) w44 fun x61 w45 =>
 mguard x58 false (fun k => m R (o_un .not x61) w45 k) w45 fun x62 w46 =>
 m R (o_pick x58 (.bool true) x62) w46 fun x63 w47 =>
 j7 x63 w47) fun x63 u7 w48 =>
 mif x63 (
 R (.returned (.bool false)) w48) (
 ml2 (.int .i64 0) (.int .i64 1) w48 fun x9 x10 u10 w49 next10 =>
 m R (o_bin .leq 3 true x10 (.int .i64 64)) w49 fun x65 w50 =>
 mif x65 (
 m R (o_fieldAddr 73 x2 0) w50 fun x68 w51 =>
 m R (o_load 27 x68) w51 fun x69 w52 =>
 m R (o_call (fv 34) [x69, x10]) w52 fun x71 w53 =>
 m R (o_bin .geq 3 true x71 (.int .i64 0)) w53 fun x72 w54 =>
 m R (o_load 27 x5) w54 fun x73 w55 =>
 m R (o_call (fv 34) [x73, x10]) w55 fun x75 w56 =>
 m R (o_bin .sub 3 true x10 (.int .i64 1)) w56 fun x77 w57 =>
 m R (o_fieldAddr 73 x2 1) w57 fun x78 w58 =>
 m R (o_indexAddr 70 x78 x77) w58 fun x79 w59 =>
 m R (o_load 3 x79) w59 fun x80 w60 =>
 ml4 x9 x72 x80 (.int .i64 0) w60 fun x9 x11 x13 x14 u16 w61 next16 =>
 m R (o_builtin .len #[74] 3 [false] [x1]) w61 fun x83 w62 =>
 m R (o_bin .lss 3 false x14 x83) w62 fun x84 w63 =>
 mif x84 (
 mj3 (fun j17 =>
 m R (o_indexAddr 74 x1 x14) w63 fun x89 w64 =>
 m R (o_fieldAddr 85 x89 4) w64 fun x90 w65 =>
 m R (o_load 83 x90) w65 fun x91 w66 =>
 m R (o_alloc 83) w66 fun x15 w67 =>
 m R (o_store 83 x15 x91) w67 fun _ w68 =>
 m R (o_fieldAddr 83 x15 1) w68 fun x92 w69 =>
 m R (o_load 3 x92) w69 fun x93 w70 =>
 m R (o_bin .neq 3 false x93 x10) w70 fun x95 w71 =>
 mif x95 (
 j17 x9 x11 x13 w71) (
 m R (o_fieldAddr 83 x15 0) w71 fun x96 w72 =>
 m R (o_load 3 x96) w72 fun x97 w73 =>
 m R (o_bin .eql 3 true x97 (.int .i64 1)) w73 fun x99 w74 =>
 mif x99 (
 m R (o_bin .add 3 true x13 (.int .i64 1)) w74 fun x101 w75 =>
 m R (o_bin .add 3 true x9 (.int .i64 1)) w75 fun x103 w76 =>
 mj1 (fun j26 =>
 dp Try.prog (o_bin .lss 3 true x75 (.int .i64 0)) fun x105 =>
 qguard x105 false (fun k => dp Try.prog (o_fieldAddr 27 x5 0) k) fun x107 =>
 qguard x105 false (fun k => dq Try.prog w76 (o_load 24 x107) k) fun x108 =>
 qguard x105 false (fun k => dp Try.prog (o_move x75) k) fun x109 =>
 qguard x105 false (fun k => dp Try.prog (o_indexAddr 24 x108 x109) k) fun x110 =>
 qguard x105 false (fun k => dp Try.prog (o_fieldAddr 36 x110 1) k) fun x111 =>
 qguard x105 false (fun k => dq Try.prog w76 (o_load 34 x111) k) fun x112 =>
 qguard x105 false (fun k => dp Try.prog (o_fieldAddr 73 x2 2) k) fun x113 =>
 qguard x105 false (fun k => dq Try.prog w76 (o_load 71 x113) k) fun x114 =>
 qguard x105 false (fun k => dp Try.prog (o_move x10) k) fun x115 =>
 qguard x105 false (fun k => dp Try.prog (o_bin .sub 3 true x115 (.int .i64 1)) k) fun x116 =>
 qguard x105 false (fun k => dp Try.prog (o_indexAddr 71 x114 x116) k) fun x117 =>
 qguard x105 false (fun k => dp Try.prog (o_fieldAddr 90 x117 1) k) fun x118 =>
 qguard x105 false (fun k => dq Try.prog w76 (o_load 88 x118) k) fun x119 =>
 qguard x105 false (fun k => dp Try.prog (o_move x10) k) fun x120 =>
 qguard x105 false (fun k => dp Try.prog (o_bin .sub 3 true x120 (.int .i64 1)) k) fun x121 =>
 qguard x105 false (fun k => dp Try.prog (o_fieldAddr 73 x2 1) k) fun x122 =>
 qguard x105 false (fun k => dp Try.prog (o_indexAddr 70 x122 x121) k) fun x123 =>
 qguard x105 false (fun k => dq Try.prog w76 (o_load 3 x123) k) fun x124 =>
 qguard x105 false (fun k => dp Try.prog (o_indexAddr 88 x119 x124) k) fun x125 =>
 qguard x105 false (fun k => dp Try.prog (o_fieldAddr 87 x125 1) k) fun x126 =>
 qguard x105 false (fun k => dq Try.prog w76 (o_load 34 x126) k) fun x127 =>
 qguard x105 false (fun k => dp Try.prog (o_bin .neq 34 false x112 x127) k) fun x128 =>
 dp Try.prog (o_pick x105 (.bool true) x128) fun x129 =>
 dend w76 fun w77 =>
 j26 x129 w77) fun x129 u26 w78 =>
 mif x129 (
 R (.returned (.bool false)) w78) (
 j17 x103 (.bool true) x101 w78)) (
 m R (o_bin .eql 3 true x97 (.int .i64 3)) w74 fun x131 w79 =>
 mif x131 (
 j17 x9 (.bool false) x13 w79) (
 m R (o_bin .eql 3 true x97 (.int .i64 2)) w79 fun x133 w80 =>
 mif x133 (
 mj1 (fun j31 =>
 dp Try.prog (o_bin .lss 3 true x75 (.int .i64 0)) fun x135 =>
 qguard x135 false (fun k => dp Try.prog (o_fieldAddr 27 x5 0) k) fun x137 =>
 qguard x135 false (fun k => dq Try.prog w80 (o_load 24 x137) k) fun x138 =>
 qguard x135 false (fun k => dp Try.prog (o_move x75) k) fun x139 =>
 qguard x135 false (fun k => dp Try.prog (o_indexAddr 24 x138 x139) k) fun x140 =>
 qguard x135 false (fun k => dp Try.prog (o_fieldAddr 36 x140 1) k) fun x141 =>
 qguard x135 false (fun k => dq Try.prog w80 (o_load 34 x141) k) fun x142 =>
 qguard x135 false (fun k => dp Try.prog (o_fieldAddr 83 x15 2) k) fun x143 =>
 qguard x135 false (fun k => dq Try.prog w80 (o_load 34 x143) k) fun x144 =>
 qguard x135 false (fun k => dp Try.prog (o_bin .neq 34 false x142 x144) k) fun x145 =>
 dp Try.prog (o_pick x135 (.bool true) x145) fun x146 =>
 dend w80 fun w81 =>
 j31 x146 w81) fun x146 u31 w82 =>
 mif x146 (
 R (.returned (.bool false)) w82) (
 j17 x9 x11 x13 w82)) (
 j17 x9 x11 x13 w80))))) fun x9 x11 x13 u17 w83 =>
 m R (o_bin .add 3 true x14 (.int .i64 1)) w83 fun x86 w84 =>
 next16 x9 x11 x13 x86 w84) (
 mj1 (fun j33 =>
 m R (o_bin .geq 3 true x75 (.int .i64 0)) w63 fun x149 w85 =>
 m R (o_bin .neq 4 false x11 x149) w85 fun x150 w86 =>
 mguard x150 false (fun k => m R (o_move x10) w86 k) w86 fun x152 w87 =>
 mguard x150 false (fun k => m R (o_bin .sub 3 true x152 (.int .i64 1)) w87 k) w87 fun x153 w88 =>
 mguard x150 false (fun k => m R (o_indexAddr 70 x6 x153) w88 k) w88 fun x154 w89 =>
 mguard x150 false (fun k => m R (o_load 3 x154) w89 k) w89 fun x155 w90 =>
 mguard x150 false (fun k => m R (o_move x13) w90 k) w90 fun x156 w91 =>
 mguard x150 false (fun k => m R (o_bin .neq 3 false x155 x156) w91 k) w91 fun x157 w92 =>
 m R (o_pick x150 (.bool true) x157) w92 fun x158 w93 =>
 j33 x158 w93) fun x158 u33 w94 =>
 mif x158 (
 R (.returned (.bool false)) w94) (
 m R (o_bin .add 3 true x10 (.int .i64 1)) w94 fun x67 w95 =>
 next10 x9 x67 w95))) (
 m R (o_builtin .len #[29] 3 [false] [x55]) w50 fun x161 w96 =>
 m R (o_bin .eql 3 false x9 x161) w96 fun x162 w97 =>
 R (.returned x162) w97))))
def A_bevylaw10_ChangeNames : Ann := ⟨[(10, [9, 10], 730750818665451459101842416339694765754256784912), (16, [9, 11, 13, 14], 178405961588244985129867894541957633698490896)], [(2, [27], 268369920), (7, [63], 18302628885633695744), (17, [9, 11, 13], 178405961588244984977543241270514357685496336), (26, [129], 1361129447401344250201828005779821559808), (31, [146], 178384183516762045070624090206311258882310144), (33, [158], 730572412703863214116710130611960322935918428160)], [(25, [⟨0, .q none, 4096, 0, 20282409603651670423947251286016⟩, ⟨1, .q none, 20282409603651670423947251286016, 1, 40564819207303340847894502572032⟩, ⟨2, .q none, 40564819207303340847894502572032, 3, 81129638414606681695789005144064⟩, ⟨3, .q none, 81129638414606681695789005144096, 7, 162259276829213363391578010288128⟩, ⟨4, .q (some 0), 243388915243820045087367015432192, 15, 324518553658426726783156020576256⟩, ⟨5, .q none, 81129638414606681695789005148160, 7, 649037107316853453566312041152512⟩, ⟨6, .q none, 1054685299389886862045257066872832, 63, 1298074214633706907132624082305024⟩, ⟨7, .q none, 1379203853048313588828413087449088, 127, 2596148429267413814265248164610048⟩, ⟨8, .q (some 0), 2677278067682020495961037169754112, 255, 5192296858534827628530496329220096⟩, ⟨9, .q none, 81129638414606681695789005144068, 7, 10384593717069655257060992658440192⟩, ⟨10, .q (some 0), 10465723355484261938756781663584256, 519, 20769187434139310514121985316880384⟩, ⟨11, .q none, 81129638414606681695789005145088, 7, 41538374868278621028243970633760768⟩, ⟨12, .q none, 41619504506693227709939759638904832, 2055, 83076749736557242056487941267521536⟩, ⟨13, .q none, 103927066809111159252305715589545984, 7687, 166153499473114484112975882535043072⟩, ⟨14, .q none, 166234629111529090794671671540187136, 15879, 332306998946228968225951765070086144⟩, ⟨15, .q (some 0), 332388128584643574907647554075230208, 32263, 664613997892457936451903530140172288⟩, ⟨16, .q none, 81129638414606681695789005145088, 7, 1329227995784915872903807060280344576⟩, ⟨17, .q none, 1329309125423330479585502849285488640, 65543, 2658455991569831745807614120560689152⟩, ⟨18, .q none, 81129638414606681695789005144068, 7, 5316911983139663491615228241121378304⟩, ⟨19, .q none, 7975449104347909844104538150687211520, 458759, 10633823966279326983230456482242756608⟩, ⟨20, .q (some 0), 10633905095917741589912152271247900672, 983047, 21267647932558653966460912964485513216⟩, ⟨21, .q none, 21932343060089526509594512283630829568, 2096647, 42535295865117307932921825928971026432⟩, ⟨22, .q none, 42535376994755722539603521717976170496, 4193799, 85070591730234615865843651857942052864⟩, ⟨23, .q (some 0), 85070672859873030472525347646947196928, 8388103, 170141183460469231731687303715884105728⟩, ⟨24, .q none, 170146456886966181165997530001218469888, 16777215, 340282366920938463463374607431768211456⟩, ⟨25, .q none, 340282448050576878070056303220773355520, 33554431, 680564733841876926926749214863536422912⟩]), (30, [⟨0, .q none, 4096, 0, 21778071482940061661655974875633165533184⟩, ⟨1, .q none, 21778071482940061661655974875633165533184, 1, 43556142965880123323311949751266331066368⟩, ⟨2, .q none, 43556142965880123323311949751266331066368, 3, 87112285931760246646623899502532662132736⟩, ⟨3, .q none, 87112285931760246646623899502532662132768, 7, 174224571863520493293247799005065324265472⟩, ⟨4, .q (some 0), 261336857795280739939871698507597986398208, 15, 348449143727040986586495598010130648530944⟩, ⟨5, .q none, 87112285931760246646623899502532662136832, 7, 696898287454081973172991196020261297061888⟩, ⟨6, .q none, 1132459717112883206406110693532924607725568, 63, 1393796574908163946345982392040522594123776⟩, ⟨7, .q none, 1480908860839924192992606291543055256256512, 127, 2787593149816327892691964784081045188247552⟩, ⟨8, .q (some 0), 2874705435748088139338588683583577850380288, 255, 5575186299632655785383929568162090376495104⟩, ⟨9, .q none, 87112285931760246646623899502532662165504, 7, 11150372599265311570767859136324180752990208⟩, ⟨10, .q (some 0), 11237484885197071817414483035826713415122944, 519, 22300745198530623141535718272648361505980416⟩, ⟨11, .q none, 27963043784095039173566271740312984544608256, 2047, 44601490397061246283071436545296723011960832⟩, ⟨12, .q none, 44688602682993006529718060444799255674093568, 4095, 89202980794122492566142873090593446023921664⟩])], [], []⟩
theorem E_bevylaw10_ChangeNames (x0 x1 : Value) (w : World) (R : Ending → World → Prop) : cwp Try.prog A_bevylaw10_ChangeNames (Try.f11.body.getD .skip) (retPost Try.prog Try.f11.results.toList R) (argE [x0, x1]) w = F_bevylaw10_ChangeNames x0 x1 w R := by kernel_rfl
theorem C_bevylaw10_ChangeNames {x0 x1 : Value} {w : World} {R : Ending → World → Prop} (h : F_bevylaw10_ChangeNames x0 x1 w R) : Calls Try.prog 11 #[x0, x1] w R :=
 calls_cwp (A := A_bevylaw10_ChangeNames) (args := [x0, x1]) mixed Try.func11 (c := Try.f11.body.getD .skip) (by kernel_rfl) (by kernel_rfl) (by kernel_rfl) ((E_bevylaw10_ChangeNames x0 x1 w R).mpr h)
def F_tree_Right (x0 : Value) (w : World) (R : Ending → World → Prop) : Prop :=
 m R (o_box 27 x0) w fun x1 w1 =>
 m R (o_fieldAddr 27 x1 0) w1 fun x11 w2 =>
 m R (o_load 24 x11) w2 fun x12 w3 =>
 m R (o_builtin .len #[24] 3 [false] [x12]) w3 fun x13 w4 =>
 mj1 (fun j3 =>
 m R (o_bin .gtr 3 true x13 (.int .i64 64)) w4 fun x15 w5 =>
 mguard x15 false (fun k => m R (o_fieldAddr 27 x1 1) w5 k) w5 fun x17 w6 =>
 mguard x15 false (fun k => m R (o_load 25 x17) w6 k) w6 fun x18 w7 =>
 mguard x15 false (fun k => m R (o_builtin .len #[25] 3 [false] [x18]) w7 k) w7 fun x19 w8 =>
 mguard x15 false (fun k => m R (o_move x13) w8 k) w8 fun x20 w9 =>
 mguard x15 false (fun k => m R (o_bin .sub 3 true x20 (.int .i64 1)) w9 k) w9 fun x21 w10 =>
 mguard x15 false (fun k => m R (o_builtin .max #[3, 3] 3 [false, true] [x21, (.int .i64 0)]) w10 k) w10 fun x22 w11 =>
 mguard x15 false (fun k => m R (o_bin .neq 3 false x19 x22) w11 k) w11 fun x23 w12 =>
 m R (o_pick x15 (.bool true) x23) w12 fun x24 w13 =>
 j3 x24 w13) fun x24 u3 w14 =>
 mif x24 (
 R (.returned (.bool false)) w14) (
 m R (o_alloc 67) w14 fun x4 w15 =>
 m R (o_fieldAddr 27 x1 0) w15 fun x25 w16 =>
 m R (o_load 24 x25) w16 fun x26 w17 =>
 m R (o_builtin .len #[24] 3 [false] [x26]) w17 fun x27 w18 =>
 ml1 (.int .i64 0) w18 fun x28 u6 w19 next6 =>
 m R (o_bin .lss 3 false x28 x27) w19 fun x29 w20 =>
 mif x29 (
 mj0 (fun j12 =>
 m R (o_indexAddr 24 x26 x28) w20 fun x30 w21 =>
 m R (o_load 36 x30) w21 fun x31 w22 =>
 m R (o_alloc 36) w22 fun x6 w23 =>
 m R (o_store 36 x6 x31) w23 fun _ w24 =>
 m R (o_load 36 x6) w24 fun x33 w25 =>
 m R (o_build 36 []) w25 fun x34 w26 =>
 m R (o_bin .eql 36 false x33 x34) w26 fun x35 w27 =>
 mif x35 (
 j12 w27) (
 mj1 (fun j10 =>
 m R (o_fieldAddr 36 x6 0) w27 fun x37 w28 =>
 m R (o_load 3 x37) w28 fun x38 w29 =>
 m R (o_bin .lss 3 true x38 (.int .i64 1)) w29 fun x39 w30 =>
 mguard x39 false (fun k => m R (o_fieldAddr 36 x6 0) w30 k) w30 fun x41 w31 =>
 mguard x39 false (fun k => m R (o_load 3 x41) w31 k) w31 fun x42 w32 =>
 mguard x39 false (fun k => m R (o_bin .gtr 3 true x42 (.int .i64 64)) w32 k) w32 fun x43 w33 =>
 m R (o_pick x39 (.bool true) x43) w33 fun x44 w34 =>
 mguard x44 false (fun k => m R (o_fieldAddr 36 x6 0) w34 k) w34 fun x46 w35 =>
 mguard x44 false (fun k => m R (o_load 3 x46) w35 k) w35 fun x47 w36 =>
 mguard x44 false (fun k => m R (o_indexAddr 67 x4 x47) w36 k) w36 fun x48 w37 =>
 mguard x44 false (fun k => m R (o_load 4 x48) w37 k) w37 fun x49 w38 =>
 m R (o_pick x44 (.bool true) x49) w38 fun x50 w39 =>
 j10 x50 w39) fun x36 u10 w40 =>
 mif x36 (
 R (.returned (.bool false)) w40) (
 m R (o_fieldAddr 36 x6 0) w40 fun x51 w41 =>
 m R (o_load 3 x51) w41 fun x52 w42 =>
 m R (o_indexAddr 67 x4 x52) w42 fun x53 w43 =>
 m R (o_store 4 x53 (.bool true)) w43 fun _ w44 =>
 j12 w44))) fun u12 w45 =>
 m R (o_bin .add 3 true x28 (.int .i64 1)) w45 fun x54 w46 =>
 next6 x54 w46) (
 m R (o_fieldAddr 27 x1 1) w20 fun x55 w47 =>
 m R (o_load 25 x55) w47 fun x56 w48 =>
 m R (o_builtin .len #[25] 3 [false] [x56]) w48 fun x57 w49 =>
 ml1 (.int .i64 0) w49 fun x58 u14 w50 next14 =>
 m R (o_bin .lss 3 false x58 x57) w50 fun x59 w51 =>
 mif x59 (
 m R (o_indexAddr 25 x56 x58) w51 fun x61 w52 =>
 m R (o_load 96 x61) w52 fun x62 w53 =>
 m R (o_alloc 96) w53 fun x8 w54 =>
 m R (o_store 96 x8 x62) w54 fun _ w55 =>
 mj1 (fun j17 =>
 m R (o_fieldAddr 96 x8 0) w55 fun x63 w56 =>
 m R (o_load 4 x63) w56 fun x64 w57 =>
 m R (o_un .not x64) w57 fun x65 w58 =>
 mguard x65 true (fun k => m R (o_load 96 x8) w58 k) w58 fun x67 w59 =>
 mguard x65 true (fun k => m R (o_call (fv 67) [x67]) w59 k) w59 fun x68 w60 =>
 mguard x65 true (fun k => m R (o_un .not x68) w60 k) w60 fun x69 w61 =>
 m R (o_pick x65 x69 (.bool false)) w61 fun x70 w62 =>
 j17 x70 w62) fun x70 u17 w63 =>
 mif x70 (
 R (.returned (.bool false)) w63) (
 m R (o_fieldAddr 96 x8 3) w63 fun x71 w64 =>
 m R (o_load 29 x71) w64 fun x72 w65 =>
 m R (o_builtin .len #[29] 3 [false] [x72]) w65 fun x73 w66 =>
 ml1 (.int .i64 0) w66 fun x74 u19 w67 next19 =>
 m R (o_bin .lss 3 false x74 x73) w67 fun x75 w68 =>
 mif x75 (
 m R (o_indexAddr 29 x72 x74) w68 fun x77 w69 =>
 m R (o_load 3 x77) w69 fun x78 w70 =>
 mj1 (fun j22 =>
 m R (o_bin .mul 3 true (.int .i64 2) x58) w70 fun x81 w71 =>
 m R (o_bin .add 3 true x81 (.int .i64 1)) w71 fun x82 w72 =>
 m R (o_call (fv 68) [x13, x82, x78]) w72 fun x84 w73 =>
 m R (o_un .not x84) w73 fun x85 w74 =>
 mguard x85 false (fun k => m R (o_fieldAddr 27 x1 0) w74 k) w74 fun x87 w75 =>
 mguard x85 false (fun k => m R (o_load 24 x87) w75 k) w75 fun x88 w76 =>
 mguard x85 false (fun k => m R (o_move x78) w76 k) w76 fun x89 w77 =>
 mguard x85 false (fun k => m R (o_indexAddr 24 x88 x89) w77 k) w77 fun x90 w78 =>
 mguard x85 false (fun k => m R (o_fieldAddr 36 x90 0) w78 k) w78 fun x91 w79 =>
 mguard x85 false (fun k => m R (o_load 3 x91) w79 k) w79 fun x92 w80 =>
 mguard x85 false (fun k => m R (o_bin .eql 3 true x92 (.int .i64 0)) w80 k) w80 fun x93 w81 =>
 m R (o_pick x85 (.bool true) x93) w81 fun x94 w82 =>
 mguard x94 false (fun k => m R (o_move x74) w82 k) w82 fun x96 w83 =>
 mguard x94 false (fun k => m R (o_bin .gtr 3 true x96 (.int .i64 0)) w83 k) w83 fun x97 w84 =>
 mguard x94 false (fun k => m R (o_move x97) w84 k) w84 fun x98 w85 =>
 mguard x98 true (fun k => m R (o_move x78) w85 k) w85 fun x99 w86 =>
 mguard x98 true (fun k => m R (o_fieldAddr 96 x8 3) w86 k) w86 fun x100 w87 =>
 mguard x98 true (fun k => m R (o_load 29 x100) w87 k) w87 fun x101 w88 =>
 mguard x98 true (fun k => m R (o_move x74) w88 k) w88 fun x102 w89 =>
 mguard x98 true (fun k => m R (o_bin .sub 3 true x102 (.int .i64 1)) w89 k) w89 fun x103 w90 =>
 mguard x98 true (fun k => m R (o_indexAddr 29 x101 x103) w90 k) w90 fun x104 w91 =>
 mguard x98 true (fun k => m R (o_load 3 x104) w91 k) w91 fun x105 w92 =>
 mguard x98 true (fun k => m R (o_bin .leq 3 false x99 x105) w92 k) w92 fun x106 w93 =>
 mguard x94 false (fun k => m R (o_pick x98 x106 (.bool false)) w93 k) w93 fun x107 w94 =>
 m R (o_pick x94 (.bool true) x107) w94 fun x108 w95 =>
 j22 x108 w95) fun x108 u22 w96 =>
 mif x108 (
 R (.returned (.bool false)) w96) (
 m R (o_bin .add 3 true x74 (.int .i64 1)) w96 fun x109 w97 =>
 next19 x109 w97)) (
 m R (o_bin .add 3 true x58 (.int .i64 1)) w68 fun x110 w98 =>
 next14 x110 w98))) (
 m R (o_bin .eql 3 true x13 (.int .i64 0)) w51 fun x112 w99 =>
 mguard x112 false (fun k => m R (o_fieldAddr 27 x1 0) w99 k) w99 fun x114 w100 =>
 mguard x112 false (fun k => m R (o_load 24 x114) w100 k) w100 fun x115 w101 =>
 mguard x112 false (fun k => m R (o_move x13) w101 k) w101 fun x116 w102 =>
 mguard x112 false (fun k => m R (o_bin .sub 3 true x116 (.int .i64 1)) w102 k) w102 fun x117 w103 =>
 mguard x112 false (fun k => m R (o_indexAddr 24 x115 x117) w103 k) w103 fun x118 w104 =>
 mguard x112 false (fun k => m R (o_fieldAddr 36 x118 0) w104 k) w104 fun x119 w105 =>
 mguard x112 false (fun k => m R (o_load 3 x119) w105 k) w105 fun x120 w106 =>
 mguard x112 false (fun k => m R (o_bin .gtr 3 true x120 (.int .i64 0)) w106 k) w106 fun x121 w107 =>
 m R (o_pick x112 (.bool true) x121) w107 fun x122 w108 =>
 R (.returned x122) w108)))
def A_tree_Right : Ann := ⟨[(6, [28], 36028796750528580), (14, [58], 2596148429267413526034872012900228), (19, [74], 1298074214614817441201145501451780)], [(3, [24], 33538048), (12, [], 18014397435740228), (10, [36], 2251731094208512), (17, [70], 2351959869397967831040), (22, [108], 649037106712390543758997453799424)], [], [], []⟩
theorem E_tree_Right (x0 : Value) (w : World) (R : Ending → World → Prop) : cwp Try.prog A_tree_Right (Try.f27.body.getD .skip) (retPost Try.prog Try.f27.results.toList R) (argE [x0]) w = F_tree_Right x0 w R := by kernel_rfl
theorem C_tree_Right {x0 : Value} {w : World} {R : Ending → World → Prop} (h : F_tree_Right x0 w R) : Calls Try.prog 27 #[x0] w R :=
 calls_cwp (A := A_tree_Right) (args := [x0]) mixed Try.func27 (c := Try.f27.body.getD .skip) (by kernel_rfl) (by kernel_rfl) (by kernel_rfl) ((E_tree_Right x0 w R).mpr h)
def F_tree_Add (x0 x1 : Value) (w : World) (R : Ending → World → Prop) : Prop :=
 m R (o_box 27 x0) w fun x2 w1 =>
 m R (o_box 36 x1) w1 fun x3 w2 =>
 m R (o_alloc 27) w2 fun x4 w3 =>
 mj1 (fun j2 =>
 m R (o_load 27 x2) w3 fun x14 w4 =>
 m R (o_call (fv 27) [x14]) w4 fun x15 w5 =>
 m R (o_un .not x15) w5 fun x16 w6 =>
 mguard x16 false (fun k => m R (o_fieldAddr 36 x3 0) w6 k) w6 fun x18 w7 =>
 mguard x16 false (fun k => m R (o_load 3 x18) w7 k) w7 fun x19 w8 =>
 mguard x16 false (fun k => m R (o_bin .lss 3 true x19 (.int .i64 1)) w8 k) w8 fun x20 w9 =>
 m R (o_pick x16 (.bool true) x20) w9 fun x21 w10 =>
 mguard x21 false (fun k => m R (o_fieldAddr 36 x3 0) w10 k) w10 fun x23 w11 =>
 mguard x21 false (fun k => m R (o_load 3 x23) w11 k) w11 fun x24 w12 =>
 mguard x21 false (fun k => m R (o_bin .gtr 3 true x24 (.int .i64 64)) w12 k) w12 fun x25 w13 =>
 m R (o_pick x21 (.bool true) x25) w13 fun x26 w14 =>
 j2 x26 w14) fun x13 u2 w15 =>
 mif x13 (
 m R (o_build 27 []) w15 fun x27 w16 =>
 m R (o_store 27 x4 x27) w16 fun _ w17 =>
 rcell Try.prog 27 x4 w17 fun r4 =>
 R (.returned (.tuple #[r4, (.int .i64 0), (.int .i64 1)])) w17) (
 m R (o_load 27 x2) w15 fun x29 w18 =>
 m R (o_fieldAddr 36 x3 0) w18 fun x30 w19 =>
 m R (o_load 3 x30) w19 fun x31 w20 =>
 m R (o_call (fv 34) [x29, x31]) w20 fun x32 w21 =>
 m R (o_bin .geq 3 true x32 (.int .i64 0)) w21 fun x33 w22 =>
 mif x33 (
 m R (o_build 27 []) w22 fun x34 w23 =>
 m R (o_store 27 x4 x34) w23 fun _ w24 =>
 rcell Try.prog 27 x4 w24 fun r4 =>
 R (.returned (.tuple #[r4, (.int .i64 0), (.int .i64 8)])) w24) (
 m R (o_load 27 x2) w22 fun x35 w25 =>
 m R (o_call (fv 61) [x35]) w25 fun x36 w26 =>
 m R (o_store 27 x2 x36) w26 fun _ w27 =>
 m R (o_fieldAddr 27 x2 0) w27 fun x37 w28 =>
 m R (o_load 24 x37) w28 fun x38 w29 =>
 m R (o_build 36 []) w29 fun x39 w30 =>
 m R (o_call (fv 69) [x38, x39]) w30 fun x40 w31 =>
 mj1 (fun j14 =>
 m R (o_bin .lss 3 true x40 (.int .i64 0)) w31 fun x42 w32 =>
 mif x42 (
 m R (o_fieldAddr 27 x2 0) w32 fun x43 w33 =>
 m R (o_load 24 x43) w33 fun x44 w34 =>
 m R (o_builtin .len #[24] 3 [false] [x44]) w34 fun x45 w35 =>
 m R (o_bin .eql 3 true x45 (.int .i64 64)) w35 fun x47 w36 =>
 mif x47 (
 m R (o_build 27 []) w36 fun x48 w37 =>
 m R (o_store 27 x4 x48) w37 fun _ w38 =>
 rcell Try.prog 27 x4 w38 fun r4 =>
 R (.returned (.tuple #[r4, (.int .i64 0), (.int .i64 9)])) w38) (
 mj0 (fun j13 =>
 m R (o_bin .gtr 3 true x45 (.int .i64 0)) w36 fun x50 w39 =>
 mif x50 (
 m R (o_fieldAddr 27 x2 1) w39 fun x51 w40 =>
 m R (o_load 25 x51) w40 fun x52 w41 =>
 m R (o_build 96 []) w41 fun x53 w42 =>
 m R (o_buildSlice 25 1 [(0, x53)]) w42 fun x54 w43 =>
 m R (o_builtin .append #[25, 25] 25 [false, false] [x52, x54]) w43 fun x55 w44 =>
 m R (o_fieldAddr 27 x2 1) w44 fun x56 w45 =>
 m R (o_store 25 x56 x55) w45 fun _ w46 =>
 j13 w46) (
 j13 w39)) fun u13 w47 =>
 m R (o_fieldAddr 27 x2 0) w47 fun x57 w48 =>
 m R (o_load 24 x57) w48 fun x58 w49 =>
 m R (o_build 36 []) w49 fun x59 w50 =>
 m R (o_buildSlice 24 1 [(0, x59)]) w50 fun x60 w51 =>
 m R (o_builtin .append #[24, 24] 24 [false, false] [x58, x60]) w51 fun x61 w52 =>
 m R (o_fieldAddr 27 x2 0) w52 fun x62 w53 =>
 m R (o_store 24 x62 x61) w53 fun _ w54 =>
 j14 x45 w54)) (
 j14 x40 w32)) fun x7 u14 w55 =>
 m R (o_fieldAddr 27 x2 0) w55 fun x63 w56 =>
 m R (o_load 24 x63) w56 fun x64 w57 =>
 m R (o_load 36 x3) w57 fun x66 w58 =>
 m R (o_indexAddr 24 x64 x7) w58 fun x67 w59 =>
 m R (o_store 36 x67 x66) w59 fun _ w60 =>
 m R (o_fieldAddr 27 x2 0) w60 fun x68 w61 =>
 m R (o_load 24 x68) w61 fun x69 w62 =>
 m R (o_builtin .len #[24] 3 [false] [x69]) w62 fun x70 w63 =>
 m R (o_call (fv 60) [x70, x7]) w63 fun x72 w64 =>
 m R (o_builtin .len #[29] 3 [false] [x72]) w64 fun x73 w65 =>
 ml1 (.int .i64 0) w65 fun x74 u16 w66 next16 =>
 m R (o_bin .lss 3 false x74 x73) w66 fun x75 w67 =>
 mif x75 (
 mj0 (fun j22 =>
 m R (o_indexAddr 29 x72 x74) w67 fun x76 w68 =>
 m R (o_load 3 x76) w68 fun x77 w69 =>
 m R (o_fieldAddr 27 x2 1) w69 fun x78 w70 =>
 m R (o_load 25 x78) w70 fun x79 w71 =>
 m R (o_bin .quo 3 true x77 (.int .i64 2)) w71 fun x81 w72 =>
 m R (o_indexAddr 25 x79 x81) w72 fun x82 w73 =>
 m R (o_nilCheck x82) w73 fun x84 w74 =>
 m R (o_fieldAddr 96 x84 0) w74 fun x85 w75 =>
 m R (o_load 4 x85) w75 fun x86 w76 =>
 mif x86 (
 m R (o_nilCheck x82) w76 fun x89 w77 =>
 m R (o_fieldAddr 96 x89 3) w77 fun x90 w78 =>
 m R (o_load 29 x90) w78 fun x91 w79 =>
 m R (o_call (fv 70) [x91, x7]) w79 fun x93 w80 =>
 m R (o_extract x93 0) w80 fun x94 w81 =>
 m R (o_extract x93 1) w81 fun x95 w82 =>
 m R (o_nilCheck x82) w82 fun x98 w83 =>
 m R (o_fieldAddr 96 x98 3) w83 fun x99 w84 =>
 m R (o_load 29 x99) w84 fun x100 w85 =>
 m R (o_buildSlice 29 1 [(0, x7)]) w85 fun x103 w86 =>
 m R (o_call (fv 71) [x100, x94, x103]) w86 fun x104 w87 =>
 m R (o_nilCheck x82) w87 fun x105 w88 =>
 m R (o_fieldAddr 96 x105 3) w88 fun x106 w89 =>
 m R (o_store 29 x106 x104) w89 fun _ w90 =>
 j22 w90) (
 j22 w76)) fun u22 w91 =>
 m R (o_bin .add 3 true x74 (.int .i64 1)) w91 fun x107 w92 =>
 next16 x107 w92) (
 m R (o_load 27 x2) w67 fun x108 w93 =>
 m R (o_store 27 x4 x108) w93 fun _ w94 =>
 rcell Try.prog 27 x4 w94 fun r4 =>
 R (.returned (.tuple #[r4, x7, (.int .i64 0)])) w94)))
def A_tree_Add : Ann := ⟨[(16, [74], 324518553639537260851677439729152)], [(2, [13], 134209536), (14, [7], 9223369837831520480), (13, [], 143552238122434560), (22, [], 162259276753655499665663686876672)], [], [], []⟩
theorem E_tree_Add (x0 x1 : Value) (w : World) (R : Ending → World → Prop) : cwp Try.prog A_tree_Add (Try.f28.body.getD .skip) (retPost Try.prog Try.f28.results.toList R) (argE [x0, x1]) w = F_tree_Add x0 x1 w R := by kernel_rfl
theorem C_tree_Add {x0 x1 : Value} {w : World} {R : Ending → World → Prop} (h : F_tree_Add x0 x1 w R) : Calls Try.prog 28 #[x0, x1] w R :=
 calls_cwp (A := A_tree_Add) (args := [x0, x1]) mixed Try.func28 (c := Try.f28.body.getD .skip) (by kernel_rfl) (by kernel_rfl) (by kernel_rfl) ((E_tree_Add x0 x1 w R).mpr h)
def F_tree_Renew (x0 x1 x2 : Value) (w : World) (R : Ending → World → Prop) : Prop :=
 m R (o_box 27 x0) w fun x3 w1 =>
 m R (o_box 34 x2) w1 fun x5 w2 =>
 m R (o_alloc 27) w2 fun x6 w3 =>
 m R (o_load 27 x3) w3 fun x9 w4 =>
 m R (o_call (fv 27) [x9]) w4 fun x10 w5 =>
 m R (o_un .not x10) w5 fun x11 w6 =>
 mif x11 (
 m R (o_build 27 []) w6 fun x12 w7 =>
 m R (o_store 27 x6 x12) w7 fun _ w8 =>
 rcell Try.prog 27 x6 w8 fun r6 =>
 R (.returned (.tuple #[r6, (.int .i64 1)])) w8) (
 m R (o_load 27 x3) w6 fun x14 w9 =>
 m R (o_call (fv 59) [x14, x1]) w9 fun x16 w10 =>
 mif x16 (
 m R (o_build 27 []) w10 fun x17 w11 =>
 m R (o_store 27 x6 x17) w11 fun _ w12 =>
 rcell Try.prog 27 x6 w12 fun r6 =>
 R (.returned (.tuple #[r6, (.int .i64 7)])) w12) (
 m R (o_load 27 x3) w10 fun x18 w13 =>
 m R (o_call (fv 61) [x18]) w13 fun x19 w14 =>
 m R (o_store 27 x3 x19) w14 fun _ w15 =>
 m R (o_fieldAddr 27 x3 0) w15 fun x20 w16 =>
 m R (o_load 24 x20) w16 fun x21 w17 =>
 m R (o_load 34 x5) w17 fun x23 w18 =>
 m R (o_indexAddr 24 x21 x1) w18 fun x24 w19 =>
 m R (o_fieldAddr 36 x24 1) w19 fun x25 w20 =>
 m R (o_store 34 x25 x23) w20 fun _ w21 =>
 m R (o_fieldAddr 27 x3 0) w21 fun x26 w22 =>
 m R (o_load 24 x26) w22 fun x27 w23 =>
 m R (o_build 34 []) w23 fun x29 w24 =>
 m R (o_indexAddr 24 x27 x1) w24 fun x30 w25 =>
 m R (o_fieldAddr 36 x30 3) w25 fun x31 w26 =>
 m R (o_store 34 x31 x29) w26 fun _ w27 =>
 m R (o_load 27 x3) w27 fun x32 w28 =>
 m R (o_call (fv 72) [x32, x1]) w28 fun x34 w29 =>
 m R (o_load 27 x3) w29 fun x35 w30 =>
 m R (o_store 27 x6 x35) w30 fun _ w31 =>
 rcell Try.prog 27 x6 w31 fun r6 =>
 R (.returned (.tuple #[r6, (.int .i64 0)])) w31))
def A_tree_Renew : Ann := ⟨[], [], [], [], []⟩
theorem E_tree_Renew (x0 x1 x2 : Value) (w : World) (R : Ending → World → Prop) : cwp Try.prog A_tree_Renew (Try.f29.body.getD .skip) (retPost Try.prog Try.f29.results.toList R) (argE [x0, x1, x2]) w = F_tree_Renew x0 x1 x2 w R := by kernel_rfl
theorem C_tree_Renew {x0 x1 x2 : Value} {w : World} {R : Ending → World → Prop} (h : F_tree_Renew x0 x1 x2 w R) : Calls Try.prog 29 #[x0, x1, x2] w R :=
 calls_cwp (A := A_tree_Renew) (args := [x0, x1, x2]) mixed Try.func29 (c := Try.f29.body.getD .skip) (by kernel_rfl) (by kernel_rfl) (by kernel_rfl) ((E_tree_Renew x0 x1 x2 w R).mpr h)
def F_tree_Remove (x0 x1 : Value) (w : World) (R : Ending → World → Prop) : Prop :=
 m R (o_box 27 x0) w fun x2 w1 =>
 m R (o_alloc 27) w1 fun x4 w2 =>
 m R (o_load 27 x2) w2 fun x8 w3 =>
 m R (o_call (fv 27) [x8]) w3 fun x9 w4 =>
 m R (o_un .not x9) w4 fun x10 w5 =>
 mif x10 (
 m R (o_build 27 []) w5 fun x11 w6 =>
 m R (o_store 27 x4 x11) w6 fun _ w7 =>
 rcell Try.prog 27 x4 w7 fun r4 =>
 R (.returned (.tuple #[r4, (.int .i64 1)])) w7) (
 m R (o_load 27 x2) w5 fun x13 w8 =>
 m R (o_call (fv 59) [x13, x1]) w8 fun x15 w9 =>
 mif x15 (
 m R (o_build 27 []) w9 fun x16 w10 =>
 m R (o_store 27 x4 x16) w10 fun _ w11 =>
 rcell Try.prog 27 x4 w11 fun r4 =>
 R (.returned (.tuple #[r4, (.int .i64 7)])) w11) (
 m R (o_load 27 x2) w9 fun x17 w12 =>
 m R (o_call (fv 61) [x17]) w12 fun x18 w13 =>
 m R (o_store 27 x2 x18) w13 fun _ w14 =>
 m R (o_fieldAddr 27 x2 0) w14 fun x19 w15 =>
 m R (o_load 24 x19) w15 fun x20 w16 =>
 m R (o_build 36 []) w16 fun x22 w17 =>
 m R (o_indexAddr 24 x20 x1) w17 fun x23 w18 =>
 m R (o_store 36 x23 x22) w18 fun _ w19 =>
 m R (o_load 27 x2) w19 fun x24 w20 =>
 m R (o_call (fv 72) [x24, x1]) w20 fun x26 w21 =>
 m R (o_fieldAddr 27 x2 0) w21 fun x27 w22 =>
 m R (o_load 24 x27) w22 fun x28 w23 =>
 m R (o_builtin .len #[24] 3 [false] [x28]) w23 fun x29 w24 =>
 ml1 x29 w24 fun x6 u9 w25 next9 =>
 mj0 (fun j10 =>
 m R (o_bin .gtr 3 true x6 (.int .i64 0)) w25 fun x31 w26 =>
 mguard x31 true (fun k => m R (o_fieldAddr 27 x2 0) w26 k) w26 fun x33 w27 =>
 mguard x31 true (fun k => m R (o_load 24 x33) w27 k) w27 fun x34 w28 =>
 mguard x31 true (fun k => m R (o_move x6) w28 k) w28 fun x35 w29 =>
 mguard x31 true (fun k => m R (o_bin .sub 3 true x35 (.int .i64 1)) w29 k) w29 fun x36 w30 =>
 mguard x31 true (fun k => m R (o_indexAddr 24 x34 x36) w30 k) w30 fun x37 w31 =>
 mguard x31 true (fun k => m R (o_fieldAddr 36 x37 0) w31 k) w31 fun x38 w32 =>
 mguard x31 true (fun k => m R (o_load 3 x38) w32 k) w32 fun x39 w33 =>
 mguard x31 true (fun k => m R (o_bin .eql 3 true x39 (.int .i64 0)) w33 k) w33 fun x40 w34 =>
 m R (o_pick x31 x40 (.bool false)) w34 fun x41 w35 =>
 mif x41 (
 j10 w35) (
 dp Try.prog (o_fieldAddr 27 x2 0) fun x44 =>
 dq Try.prog w35 (o_load 24 x44) fun x45 =>
 dp Try.prog (o_slice 24 x45 none (some x6) none) fun x47 =>
 dp Try.prog (o_fieldAddr 27 x2 1) fun x48 =>
 dq Try.prog w35 (o_load 25 x48) fun x49 =>
 dp Try.prog (o_bin .sub 3 true x6 (.int .i64 1)) fun x51 =>
 dp Try.prog (o_builtin .max #[3, 3] 3 [false, true] [x51, (.int .i64 0)]) fun x52 =>
 dp Try.prog (o_slice 25 x49 none (some x52) none) fun x53 =>
 dp Try.prog (o_fieldAddr 27 x2 0) fun x54 =>
 df Try.prog w35 (o_store 24 x54 x47) false fun _ w36 =>
 dp Try.prog (o_fieldAddr 27 x2 1) fun x55 =>
 df Try.prog w36 (o_store 25 x55 x53) false fun _ w37 =>
 dend w37 fun w38 =>
 m R (o_load 27 x2) w38 fun x56 w39 =>
 m R (o_store 27 x4 x56) w39 fun _ w40 =>
 rcell Try.prog 27 x4 w40 fun r4 =>
 R (.returned (.tuple #[r4, (.int .i64 0)])) w40)) fun u10 w41 =>
 m R (o_bin .sub 3 true x6 (.int .i64 1)) w41 fun x43 w42 =>
 next9 x43 w42))
def A_tree_Remove : Ann := ⟨[(9, [6], 17591112302656)], [(10, [], 4396972769280)], [(11, [⟨0, .q none, 4, 0, 17592186044416⟩, ⟨1, .q (some 0), 17592186044416, 1, 35184372088832⟩, ⟨2, .q none, 64, 0, 70368744177664⟩, ⟨3, .q none, 105553116266496, 7, 140737488355328⟩, ⟨4, .q none, 4, 0, 281474976710656⟩, ⟨5, .q (some 0), 281474976710656, 16, 562949953421312⟩, ⟨6, .q none, 64, 0, 1125899906842624⟩, ⟨7, .q none, 1125899906842624, 64, 2251799813685248⟩, ⟨8, .q none, 2251799813685248, 192, 4503599627370496⟩, ⟨9, .q none, 5066549580791808, 496, 9007199254740992⟩, ⟨10, .q none, 4, 63, 18014398509481984⟩, ⟨11, .f 0 false, 18155135997837312, 1087, 0⟩, ⟨12, .q none, 4, 4095, 36028797018963968⟩, ⟨13, .f 1 false, 45035996273704960, 8191, 0⟩])], [], []⟩
theorem E_tree_Remove (x0 x1 : Value) (w : World) (R : Ending → World → Prop) : cwp Try.prog A_tree_Remove (Try.f30.body.getD .skip) (retPost Try.prog Try.f30.results.toList R) (argE [x0, x1]) w = F_tree_Remove x0 x1 w R := by kernel_rfl
theorem C_tree_Remove {x0 x1 : Value} {w : World} {R : Ending → World → Prop} (h : F_tree_Remove x0 x1 w R) : Calls Try.prog 30 #[x0, x1] w R :=
 calls_cwp (A := A_tree_Remove) (args := [x0, x1]) mixed Try.func30 (c := Try.f30.body.getD .skip) (by kernel_rfl) (by kernel_rfl) (by kernel_rfl) ((E_tree_Remove x0 x1 w R).mpr h)
def F_tree_Place (x0 x1 : Value) (w : World) (R : Ending → World → Prop) : Prop :=
 m R (o_box 27 x0) w fun x2 w1 =>
 m R (o_box 3 x1) w1 fun x3 w2 =>
 m R (o_load 3 x3) w2 fun x5 w3 =>
 m R (o_bin .lss 3 true x5 (.int .i64 1)) w3 fun x6 w4 =>
 mif x6 (
 R (.returned (.int .i64 (-1))) w4) (
 m R (o_load 27 x2) w4 fun x7 w5 =>
 m R (o_call (fv 46) [x7]) w5 fun x8 w6 =>
 m R (o_field 27 x8 0) w6 fun x9 w7 =>
 m R (o_func (.func 76) [] [x3]) w7 fun x10 w8 =>
 m R (o_call (fv 75) [x9, x10]) w8 fun x11 w9 =>
 R (.returned x11) w9)
def A_tree_Place : Ann := ⟨[], [], [], [], []⟩
theorem E_tree_Place (x0 x1 : Value) (w : World) (R : Ending → World → Prop) : cwp Try.prog A_tree_Place (Try.f34.body.getD .skip) (retPost Try.prog Try.f34.results.toList R) (argE [x0, x1]) w = F_tree_Place x0 x1 w R := by kernel_rfl
theorem C_tree_Place {x0 x1 : Value} {w : World} {R : Ending → World → Prop} (h : F_tree_Place x0 x1 w R) : Calls Try.prog 34 #[x0, x1] w R :=
 calls_cwp (A := A_tree_Place) (args := [x0, x1]) mixed Try.func34 (c := Try.f34.body.getD .skip) (by kernel_rfl) (by kernel_rfl) (by kernel_rfl) ((E_tree_Place x0 x1 w R).mpr h)
def F_bevylaw10_few (x0 : Value) (w : World) (R : Ending → World → Prop) : Prop :=
 m R (o_box 73 x0) w fun x1 w1 =>
 mj1 (fun j2 =>
 m R (o_fieldAddr 73 x1 0) w1 fun x5 w2 =>
 m R (o_fieldAddr 27 x5 0) w2 fun x6 w3 =>
 m R (o_load 24 x6) w3 fun x7 w4 =>
 m R (o_builtin .len #[24] 3 [false] [x7]) w4 fun x8 w5 =>
 m R (o_bin .gtr 3 true x8 (.int .i64 70)) w5 fun x9 w6 =>
 mguard x9 false (fun k => m R (o_fieldAddr 73 x1 0) w6 k) w6 fun x11 w7 =>
 mguard x9 false (fun k => m R (o_fieldAddr 27 x11 1) w7 k) w7 fun x12 w8 =>
 mguard x9 false (fun k => m R (o_load 25 x12) w8 k) w8 fun x13 w9 =>
 mguard x9 false (fun k => m R (o_builtin .len #[25] 3 [false] [x13]) w9 k) w9 fun x14 w10 =>
 mguard x9 false (fun k => m R (o_bin .gtr 3 true x14 (.int .i64 70)) w10 k) w10 fun x15 w11 =>
 m R (o_pick x9 (.bool true) x15) w11 fun x16 w12 =>
 mguard x16 false (fun k => m R (o_fieldAddr 73 x1 2) w12 k) w12 fun x18 w13 =>
 mguard x16 false (fun k => m R (o_load 71 x18) w13 k) w13 fun x19 w14 =>
 mguard x16 false (fun k => m R (o_builtin .len #[71] 3 [false] [x19]) w14 k) w14 fun x20 w15 =>
 mguard x16 false (fun k => m R (o_bin .gtr 3 true x20 (.int .i64 70)) w15 k) w15 fun x21 w16 =>
 m R (o_pick x16 (.bool true) x21) w16 fun x22 w17 =>
 j2 x22 w17) fun x22 u2 w18 =>
 mif x22 (
 R (.returned (.bool false)) w18) (
 ml1 (.int .i64 0) w18 fun x3 u4 w19 next4 =>
 m R (o_fieldAddr 73 x1 0) w19 fun x24 w20 =>
 m R (o_fieldAddr 27 x24 1) w20 fun x25 w21 =>
 m R (o_load 25 x25) w21 fun x26 w22 =>
 m R (o_builtin .len #[25] 3 [false] [x26]) w22 fun x27 w23 =>
 m R (o_bin .lss 3 false x3 x27) w23 fun x28 w24 =>
 mif x28 (
 m R (o_fieldAddr 73 x1 0) w24 fun x31 w25 =>
 m R (o_fieldAddr 27 x31 1) w25 fun x32 w26 =>
 m R (o_load 25 x32) w26 fun x33 w27 =>
 m R (o_indexAddr 25 x33 x3) w27 fun x35 w28 =>
 m R (o_fieldAddr 96 x35 3) w28 fun x36 w29 =>
 m R (o_load 29 x36) w29 fun x37 w30 =>
 m R (o_builtin .len #[29] 3 [false] [x37]) w30 fun x38 w31 =>
 m R (o_bin .gtr 3 true x38 (.int .i64 70)) w31 fun x39 w32 =>
 mif x39 (
 R (.returned (.bool false)) w32) (
 m R (o_bin .add 3 true x3 (.int .i64 1)) w32 fun x30 w33 =>
 next4 x30 w33)) (
 ml1 (.int .i64 0) w24 fun x4 u9 w34 next9 =>
 m R (o_fieldAddr 73 x1 2) w34 fun x41 w35 =>
 m R (o_load 71 x41) w35 fun x42 w36 =>
 m R (o_builtin .len #[71] 3 [false] [x42]) w36 fun x43 w37 =>
 m R (o_bin .lss 3 false x4 x43) w37 fun x44 w38 =>
 mif x44 (
 m R (o_fieldAddr 73 x1 2) w38 fun x47 w39 =>
 m R (o_load 71 x47) w39 fun x48 w40 =>
 m R (o_indexAddr 71 x48 x4) w40 fun x50 w41 =>
 m R (o_fieldAddr 90 x50 1) w41 fun x51 w42 =>
 m R (o_load 88 x51) w42 fun x52 w43 =>
 m R (o_builtin .len #[88] 3 [false] [x52]) w43 fun x53 w44 =>
 m R (o_bin .gtr 3 true x53 (.int .i64 70)) w44 fun x54 w45 =>
 mif x54 (
 R (.returned (.bool false)) w45) (
 m R (o_bin .add 3 true x4 (.int .i64 1)) w45 fun x46 w46 =>
 next9 x46 w46)) (
 R (.returned (.bool true)) w38)))
def A_bevylaw10_few : Ann := ⟨[(4, [3], 1099503239180), (9, [4], 36027697507336212)], [(2, [22], 8388576)], [], [], []⟩
theorem E_bevylaw10_few (x0 : Value) (w : World) (R : Ending → World → Prop) : cwp Try.prog A_bevylaw10_few (Try.f40.body.getD .skip) (retPost Try.prog Try.f40.results.toList R) (argE [x0]) w = F_bevylaw10_few x0 w R := by kernel_rfl
theorem C_bevylaw10_few {x0 : Value} {w : World} {R : Ending → World → Prop} (h : F_bevylaw10_few x0 w R) : Calls Try.prog 40 #[x0] w R :=
 calls_cwp (A := A_bevylaw10_few) (args := [x0]) mixed Try.func40 (c := Try.f40.body.getD .skip) (by kernel_rfl) (by kernel_rfl) (by kernel_rfl) ((E_bevylaw10_few x0 w R).mpr h)
def F_bevylaw10_awake (w : World) (R : Ending → World → Prop) : Prop :=
 m R (o_build 83 [(0, (.int .i64 2)), (1, (.int .i64 3))]) w fun x4 w1 =>
 m R (o_build 85 [(2, (.int .i64 3)), (3, (.int .i64 1)), (4, x4)]) w1 fun x5 w2 =>
 m R (o_alloc 85) w2 fun x1 w3 =>
 m R (o_store 85 x1 x5) w3 fun _ w4 =>
 m R (o_build 83 [(0, (.int .i64 3)), (1, (.int .i64 2))]) w4 fun x6 w5 =>
 m R (o_build 85 [(2, (.int .i64 3)), (3, (.int .i64 2)), (4, x6)]) w5 fun x7 w6 =>
 m R (o_alloc 85) w6 fun x2 w7 =>
 m R (o_store 85 x2 x7) w7 fun _ w8 =>
 m R (o_build 34 [(0, (.int .u8 1))]) w8 fun x8 w9 =>
 m R (o_alloc 34) w9 fun x3 w10 =>
 m R (o_store 34 x3 x8) w10 fun _ w11 =>
 dq Try.prog w11 (o_load 85 x1) fun x9 =>
 dq Try.prog w11 (o_load 85 x2) fun x10 =>
 df Try.prog w11 (o_call (fv 78) [x9, x10]) false fun x11 w12 =>
 qguard x11 true (fun k => dq Try.prog w12 (o_load 85 x2) k) fun x13 =>
 qguard x11 true (fun k => dq Try.prog w12 (o_load 85 x1) k) fun x14 =>
 mguard x11 true (fun k => df Try.prog w12 (o_call (fv 78) [x13, x14]) false k) w12 fun x15 w13 =>
 qguard x11 true (fun k => dp Try.prog (o_un .not x15) k) fun x16 =>
 dp Try.prog (o_pick x11 x16 (.bool false)) fun x17 =>
 qguard x17 true (fun k => dq Try.prog w13 (o_load 85 x1) k) fun x19 =>
 qguard x17 true (fun k => dq Try.prog w13 (o_load 34 x3) k) fun x20 =>
 mguard x17 true (fun k => df Try.prog w13 (o_call (fv 80) [x19, x20]) true k) w13 fun x21 w14 =>
 qguard x17 true (fun k => dq Try.prog w13 (o_load 34 x3) k) fun x22 =>
 mguard x17 true (fun k => df Try.prog w14 (o_call (fv 81) [x22]) false k) w14 fun x23 w15 =>
 mguard x17 true (fun k => df Try.prog w15 (o_call (fv 79) [x21, x23]) false k) w15 fun x24 w16 =>
 dp Try.prog (o_pick x17 x24 (.bool false)) fun x25 =>
 qguard x25 true (fun k => dq Try.prog w16 (o_load 85 x2) k) fun x27 =>
 mguard x25 true (fun k => df Try.prog w16 (o_call (fv 82) [x27]) false k) w16 fun x28 w17 =>
 dp Try.prog (o_pick x25 x28 (.bool false)) fun x29 =>
 qguard x29 true (fun k => dp Try.prog (o_build 85 []) k) fun x31 =>
 mguard x29 true (fun k => df Try.prog w17 (o_call (fv 82) [x31]) false k) w17 fun x32 w18 =>
 qguard x29 true (fun k => dp Try.prog (o_un .not x32) k) fun x33 =>
 dp Try.prog (o_pick x29 x33 (.bool false)) fun x34 =>
 dend w18 fun w19 =>
 R (.returned x34) w19
def A_bevylaw10_awake : Ann := ⟨[], [], [(4, [⟨0, .q (some 0), 2, 0, 512⟩, ⟨1, .q (some 0), 4, 0, 1024⟩, ⟨2, .f 0 false, 1536, 3, 2048⟩, ⟨3, .q none, 2048, 7, 4096⟩, ⟨4, .q (some 1), 4100, 15, 8192⟩, ⟨5, .q (some 1), 4098, 15, 16384⟩, ⟨6, .f 1 false, 28672, 63, 32768⟩, ⟨7, .q none, 36864, 127, 65536⟩, ⟨8, .q none, 69632, 255, 131072⟩, ⟨9, .q none, 131072, 511, 262144⟩, ⟨10, .q (some 2), 262146, 1023, 524288⟩, ⟨11, .q (some 2), 262152, 1023, 1048576⟩, ⟨12, .f 2 true, 1835008, 4095, 2097152⟩, ⟨13, .q (some 2), 262152, 1023, 4194304⟩, ⟨14, .f 3 false, 4456448, 16383, 8388608⟩, ⟨15, .f 4 false, 10747904, 32767, 16777216⟩, ⟨16, .q none, 17039360, 65535, 33554432⟩, ⟨17, .q none, 33554432, 131071, 67108864⟩, ⟨18, .q (some 5), 67108868, 262143, 134217728⟩, ⟨19, .f 5 false, 201326592, 524287, 268435456⟩, ⟨20, .q none, 335544320, 1048575, 536870912⟩, ⟨21, .q none, 536870912, 2097151, 1073741824⟩, ⟨22, .q none, 1073741824, 4194303, 2147483648⟩, ⟨23, .f 6 false, 3221225472, 8388607, 4294967296⟩, ⟨24, .q none, 5368709120, 16777215, 8589934592⟩, ⟨25, .q none, 9663676416, 33554431, 17179869184⟩, ⟨26, .q none, 17179869184, 67108863, 1⟩])], [], []⟩
theorem E_bevylaw10_awake (w : World) (R : Ending → World → Prop) : cwp Try.prog A_bevylaw10_awake (Try.f41.body.getD .skip) (retPost Try.prog Try.f41.results.toList R) (argE []) w = F_bevylaw10_awake w R := by kernel_rfl
theorem C_bevylaw10_awake {w : World} {R : Ending → World → Prop} (h : F_bevylaw10_awake w R) : Calls Try.prog 41 #[] w R :=
 calls_cwp (A := A_bevylaw10_awake) (args := []) mixed Try.func41 (c := Try.f41.body.getD .skip) (by kernel_rfl) (by kernel_rfl) (by kernel_rfl) ((E_bevylaw10_awake w R).mpr h)
def F_change_Apply (x0 x1 x2 x3 : Value) (w : World) (R : Ending → World → Prop) : Prop :=
 m R (o_box 27 x0) w fun x4 w1 =>
 m R (o_box 70 x1) w1 fun x5 w2 =>
 m R (o_alloc 27) w2 fun x8 w3 =>
 m R (o_alloc 70) w3 fun x9 w4 =>
 m R (o_load 27 x4) w4 fun x20 w5 =>
 m R (o_call (fv 27) [x20]) w5 fun x21 w6 =>
 m R (o_un .not x21) w6 fun x22 w7 =>
 mif x22 (
 m R (o_build 27 []) w7 fun x23 w8 =>
 m R (o_build 70 []) w8 fun x24 w9 =>
 m R (o_store 27 x8 x23) w9 fun _ w10 =>
 m R (o_store 70 x9 x24) w10 fun _ w11 =>
 rcell Try.prog 27 x8 w11 fun r8 =>
 rcell Try.prog 70 x9 w11 fun r9 =>
 R (.returned (.tuple #[r8, r9, (.slice none 0 0), (.int .i64 1)])) w11) (
 dp Try.prog (o_fieldAddr 27 x4 0) fun x25 =>
 dq Try.prog w7 (o_load 24 x25) fun x26 =>
 df Try.prog w7 (o_call (fv 83) [x26]) true fun x27 w12 =>
 dp Try.prog (o_fieldAddr 27 x4 1) fun x28 =>
 dq Try.prog w7 (o_load 25 x28) fun x29 =>
 df Try.prog w12 (o_call (fv 84) [x29]) false fun x30 w13 =>
 dp Try.prog (o_fieldAddr 27 x4 0) fun x31 =>
 df Try.prog w13 (o_store 24 x31 x27) false fun _ w14 =>
 dp Try.prog (o_fieldAddr 27 x4 1) fun x32 =>
 df Try.prog w14 (o_store 25 x32 x30) false fun _ w15 =>
 dend w15 fun w16 =>
 m R (o_fieldAddr 27 x4 1) w16 fun x33 w17 =>
 m R (o_load 25 x33) w17 fun x34 w18 =>
 m R (o_builtin .len #[25] 3 [false] [x34]) w18 fun x35 w19 =>
 ml1 (.int .i64 0) w19 fun x36 u6 w20 next6 =>
 m R (o_bin .lss 3 false x36 x35) w20 fun x37 w21 =>
 mif x37 (
 dp Try.prog (o_fieldAddr 27 x4 1) fun x39 =>
 dq Try.prog w21 (o_load 25 x39) fun x40 =>
 dp Try.prog (o_fieldAddr 27 x4 1) fun x42 =>
 dq Try.prog w21 (o_load 25 x42) fun x43 =>
 dp Try.prog (o_indexAddr 25 x43 x36) fun x45 =>
 dp Try.prog (o_fieldAddr 96 x45 3) fun x46 =>
 dq Try.prog w21 (o_load 29 x46) fun x47 =>
 df Try.prog w21 (o_call (fv 85) [x47]) true fun x48 w22 =>
 dp Try.prog (o_indexAddr 25 x40 x36) fun x49 =>
 dp Try.prog (o_fieldAddr 96 x49 3) fun x50 =>
 df Try.prog w22 (o_store 29 x50 x48) false fun _ w23 =>
 dend w23 fun w24 =>
 m R (o_bin .add 3 true x36 (.int .i64 1)) w24 fun x51 w25 =>
 next6 x51 w25) (
 m R (o_builtin .len #[74] 3 [false] [x3]) w21 fun x53 w26 =>
 ml2 (.slice none 0 0) (.int .i64 0) w26 fun x12 x54 u11 w27 next11 =>
 m R (o_bin .lss 3 false x54 x53) w27 fun x55 w28 =>
 mif x55 (
 m R (o_indexAddr 74 x3 x54) w28 fun x56 w29 =>
 m R (o_load 85 x56) w29 fun x57 w30 =>
 m R (o_alloc 85) w30 fun x15 w31 =>
 m R (o_store 85 x15 x57) w31 fun _ w32 =>
 m R (o_fieldAddr 85 x15 4) w32 fun x58 w33 =>
 m R (o_load 83 x58) w33 fun x59 w34 =>
 m R (o_alloc 83) w34 fun x16 w35 =>
 m R (o_store 83 x16 x59) w35 fun _ w36 =>
 mj2 (fun j30 =>
 m R (o_fieldAddr 83 x16 0) w36 fun x60 w37 =>
 m R (o_load 3 x60) w37 fun x61 w38 =>
 m R (o_bin .eql 3 true x61 (.int .i64 2)) w38 fun x63 w39 =>
 mif x63 (
 dq Try.prog w39 (o_load 27 x4) fun x65 =>
 dq Try.prog w39 (o_load 27 x4) fun x66 =>
 dp Try.prog (o_fieldAddr 83 x16 1) fun x67 =>
 dq Try.prog w39 (o_load 3 x67) fun x68 =>
 df Try.prog w39 (o_call (fv 34) [x66, x68]) true fun x69 w40 =>
 dp Try.prog (o_fieldAddr 83 x16 2) fun x70 =>
 dq Try.prog w39 (o_load 34 x70) fun x71 =>
 df Try.prog w40 (o_call (fv 29) [x65, x69, x71]) false fun x72 w41 =>
 dp Try.prog (o_extract x72 0) fun x73 =>
 dp Try.prog (o_extract x72 1) fun x74 =>
 df Try.prog w41 (o_store 27 x4 x73) false fun _ w42 =>
 dend w42 fun w43 =>
 j30 x12 x74 w43) (
 m R (o_bin .eql 3 true x61 (.int .i64 3)) w39 fun x76 w44 =>
 mif x76 (
 dq Try.prog w44 (o_load 27 x4) fun x78 =>
 dq Try.prog w44 (o_load 27 x4) fun x79 =>
 dp Try.prog (o_fieldAddr 83 x16 1) fun x80 =>
 dq Try.prog w44 (o_load 3 x80) fun x81 =>
 df Try.prog w44 (o_call (fv 34) [x79, x81]) true fun x82 w45 =>
 df Try.prog w45 (o_call (fv 30) [x78, x82]) false fun x83 w46 =>
 dp Try.prog (o_extract x83 0) fun x84 =>
 dp Try.prog (o_extract x83 1) fun x85 =>
 df Try.prog w46 (o_store 27 x4 x84) false fun _ w47 =>
 dend w47 fun w48 =>
 j30 x12 x85 w48) (
 m R (o_bin .eql 3 true x61 (.int .i64 1)) w44 fun x87 w49 =>
 mif x87 (
 m R (o_alloc 36) w49 fun x18 w50 =>
 m R (o_load 70 x5) w50 fun x89 w51 =>
 m R (o_fieldAddr 83 x16 1) w51 fun x91 w52 =>
 m R (o_load 3 x91) w52 fun x92 w53 =>
 m R (o_call (fv 86) [x89, x2, x92]) w53 fun x93 w54 =>
 m R (o_extract x93 0) w54 fun x94 w55 =>
 m R (o_extract x93 1) w55 fun x95 w56 =>
 m R (o_store 36 x18 x94) w56 fun _ w57 =>
 m R (o_bin .eql 43 true x95 (.int .i64 0)) w57 fun x97 w58 =>
 mif x97 (
 m R (o_load 27 x4) w58 fun x99 w59 =>
 m R (o_load 36 x18) w59 fun x100 w60 =>
 m R (o_call (fv 28) [x99, x100]) w60 fun x101 w61 =>
 m R (o_extract x101 0) w61 fun x102 w62 =>
 m R (o_extract x101 1) w62 fun x103 w63 =>
 m R (o_extract x101 2) w63 fun x104 w64 =>
 m R (o_store 27 x4 x102) w64 fun _ w65 =>
 m R (o_bin .eql 43 true x104 (.int .i64 0)) w65 fun x106 w66 =>
 mif x106 (
 m R (o_fieldAddr 83 x16 1) w66 fun x107 w67 =>
 m R (o_load 3 x107) w67 fun x108 w68 =>
 m R (o_bin .sub 3 true x108 (.int .i64 1)) w68 fun x109 w69 =>
 m R (o_indexAddr 70 x5 x109) w69 fun x110 w70 =>
 m R (o_load 3 x110) w70 fun x111 w71 =>
 m R (o_bin .add 3 true x111 (.int .i64 1)) w71 fun x112 w72 =>
 m R (o_indexAddr 70 x5 x109) w72 fun x113 w73 =>
 m R (o_store 3 x113 x112) w73 fun _ w74 =>
 m R (o_buildSlice 29 1 [(0, x103)]) w74 fun x116 w75 =>
 m R (o_builtin .append #[29, 29] 29 [false, false] [x12, x116]) w75 fun x117 w76 =>
 j30 x117 x104 w76) (
 j30 x12 x104 w66)) (
 j30 x12 x95 w58)) (
 j30 x12 (.int .i64 7) w49)))) fun x12 x17 u30 w77 =>
 m R (o_bin .neq 43 true x17 (.int .i64 0)) w77 fun x119 w78 =>
 mif x119 (
 m R (o_build 27 []) w78 fun x120 w79 =>
 m R (o_build 70 []) w79 fun x121 w80 =>
 m R (o_store 27 x8 x120) w80 fun _ w81 =>
 m R (o_store 70 x9 x121) w81 fun _ w82 =>
 rcell Try.prog 27 x8 w82 fun r8 =>
 rcell Try.prog 70 x9 w82 fun r9 =>
 R (.returned (.tuple #[r8, r9, (.slice none 0 0), x17])) w82) (
 m R (o_bin .add 3 true x54 (.int .i64 1)) w78 fun x123 w83 =>
 next11 x12 x123 w83)) (
 ∃ S : Rl,
 dqS Try.prog S w28 (o_load 27 x4) fun x124 =>
 dqS Try.prog S w28 (o_load 70 x5) fun x125 =>
 dfS Try.prog S w28 (o_store 27 x8 x124) true fun _ w84 =>
 dfS Try.prog S w84 (o_store 70 x9 x125) false fun _ w85 =>
 dend w85 fun w86 =>
 rcell Try.prog 27 x8 w86 fun r8 =>
 rcell Try.prog 70 x9 w86 fun r9 =>
 R (.returned (.tuple #[r8, r9, x12, (.int .i64 0)])) w86)))
def A_change_Apply : Ann := ⟨[(6, [36], 4503530907901952), (11, [12, 54], 21267647932558653966442898565977054208)], [(30, [12, 17], 332306998946228967073030260464160768)], [(4, [⟨0, .q none, 16, 0, 33554432⟩, ⟨1, .q (some 0), 33554432, 1, 67108864⟩, ⟨2, .f 0 true, 67108864, 3, 134217728⟩, ⟨3, .q none, 16, 0, 268435456⟩, ⟨4, .q (some 0), 268435456, 8, 536870912⟩, ⟨5, .f 1 false, 536870912, 31, 1073741824⟩, ⟨6, .q none, 16, 31, 2147483648⟩, ⟨7, .f 2 false, 2281701376, 127, 0⟩, ⟨8, .q none, 16, 255, 4294967296⟩, ⟨9, .f 3 false, 5368709120, 511, 0⟩]), (8, [⟨0, .q none, 16, 0, 549755813888⟩, ⟨1, .q (some 0), 549755813888, 1, 1099511627776⟩, ⟨2, .q none, 8192, 0, 2199023255552⟩, ⟨3, .q none, 16, 0, 4398046511104⟩, ⟨4, .q (some 0), 4398046511104, 8, 8796093022208⟩, ⟨5, .q none, 8192, 0, 17592186044416⟩, ⟨6, .q none, 26388279066624, 56, 35184372088832⟩, ⟨7, .q none, 35184372088832, 120, 70368744177664⟩, ⟨8, .q (some 0), 70368744177664, 248, 140737488355328⟩, ⟨9, .f 0 true, 140737488355328, 504, 281474976710656⟩, ⟨10, .q none, 3298534883328, 1023, 562949953421312⟩, ⟨11, .q none, 562949953421312, 2047, 1125899906842624⟩, ⟨12, .f 1 false, 1407374883553280, 4095, 0⟩]), (18, [⟨0, .q (some 0), 16, 0, 36893488147419103232⟩, ⟨1, .q (some 0), 16, 0, 73786976294838206464⟩, ⟨2, .q none, 65536, 0, 147573952589676412928⟩, ⟨3, .q (some 0), 147573952589676412928, 4, 295147905179352825856⟩, ⟨4, .f 0 true, 368934881474191032320, 14, 590295810358705651712⟩, ⟨5, .q none, 65536, 0, 1180591620717411303424⟩, ⟨6, .q (some 0), 1180591620717411303424, 32, 2361183241434822606848⟩, ⟨7, .f 1 false, 2988372539940947361792, 127, 4722366482869645213696⟩, ⟨8, .q none, 4722366482869645213696, 255, 18446744073709551616⟩, ⟨9, .q none, 18446744073709551616, 511, 9444732965739290427392⟩, ⟨10, .q none, 18446744073709551616, 511, 18889465931478580854784⟩, ⟨11, .f 2 false, 9444732965739290427408, 1023, 0⟩, ⟨12, .q none, 18889465931478580854784, 4095, 131072⟩]), (20, [⟨0, .q (some 0), 16, 0, 302231454903657293676544⟩, ⟨1, .q (some 0), 16, 0, 604462909807314587353088⟩, ⟨2, .q none, 65536, 0, 1208925819614629174706176⟩, ⟨3, .q (some 0), 1208925819614629174706176, 4, 2417851639229258349412352⟩, ⟨4, .f 0 true, 3022314549036572936765440, 14, 4835703278458516698824704⟩, ⟨5, .f 1 false, 5137934733362173992501248, 31, 9671406556917033397649408⟩, ⟨6, .q none, 9671406556917033397649408, 63, 151115727451828646838272⟩, ⟨7, .q none, 151115727451828646838272, 127, 19342813113834066795298816⟩, ⟨8, .q none, 151115727451828646838272, 127, 38685626227668133590597632⟩, ⟨9, .f 2 false, 19342813113834066795298832, 255, 0⟩, ⟨10, .q none, 38685626227668133590597632, 1023, 131072⟩]), (33, [⟨0, .q (some 0), 16, 0, 21267647932558653966460912964485513216⟩, ⟨1, .q (some 0), 32, 0, 42535295865117307932921825928971026432⟩, ⟨2, .q none, 4096, 0, 85070591730234615865843651857942052864⟩, ⟨3, .f 0 true, 21267647932558653966460912964485513472, 1, 0⟩, ⟨4, .f 1 false, 42535295865117307932921825928971026944, 11, 0⟩, ⟨5, .q none, 85070591730234615865843651857942052864, 31, 1024⟩, ⟨6, .q none, 0, 63, 2048⟩])], [], [33]⟩
theorem E_change_Apply (x0 x1 x2 x3 : Value) (w : World) (R : Ending → World → Prop) : cwp Try.prog A_change_Apply (Try.f42.body.getD .skip) (retPost Try.prog Try.f42.results.toList R) (argE [x0, x1, x2, x3]) w = F_change_Apply x0 x1 x2 x3 w R := by kernel_rfl
theorem C_change_Apply {x0 x1 x2 x3 : Value} {w : World} {R : Ending → World → Prop} (h : F_change_Apply x0 x1 x2 x3 w R) : Calls Try.prog 42 #[x0, x1, x2, x3] w R :=
 calls_cwp (A := A_change_Apply) (args := [x0, x1, x2, x3]) mixed Try.func42 (c := Try.f42.body.getD .skip) (by kernel_rfl) (by kernel_rfl) (by kernel_rfl) ((E_change_Apply x0 x1 x2 x3 w R).mpr h)
def F_change_Fit (x0 x1 x2 x3 x4 x5 x6 : Value) (w : World) (R : Ending → World → Prop) : Prop :=
 m R (o_box 27 x0) w fun x7 w1 =>
 m R (o_box 70 x1) w1 fun x8 w2 =>
 m R (o_box 34 x3) w2 fun x10 w3 =>
 m R (o_load 27 x7) w3 fun x27 w4 =>
 m R (o_call (fv 27) [x27]) w4 fun x28 w5 =>
 m R (o_un .not x28) w5 fun x29 w6 =>
 mif x29 (
 R (.returned (.int .i64 1)) w6) (
 m R (o_builtin .len #[74] 3 [false] [x6]) w6 fun x32 w7 =>
 m R (o_bin .gtr 3 true x32 (.int .i64 16)) w7 fun x33 w8 =>
 mif x33 (
 R (.returned (.int .i64 5)) w8) (
 m R (o_makeMap 133 none) w8 fun x34 w9 =>
 m R (o_builtin .len #[74] 3 [false] [x6]) w9 fun x36 w10 =>
 ml1 (.int .i64 0) w10 fun x37 u7 w11 next7 =>
 m R (o_bin .lss 3 false x37 x36) w11 fun x38 w12 =>
 mif x38 (
 mj0 (fun j30 =>
 m R (o_indexAddr 74 x6 x37) w12 fun x40 w13 =>
 m R (o_load 85 x40) w13 fun x41 w14 =>
 m R (o_alloc 85) w14 fun x17 w15 =>
 m R (o_store 85 x17 x41) w15 fun _ w16 =>
 m R (o_load 27 x7) w16 fun x42 w17 =>
 m R (o_fieldAddr 85 x17 2) w17 fun x43 w18 =>
 m R (o_load 3 x43) w18 fun x44 w19 =>
 m R (o_call (fv 34) [x42, x44]) w19 fun x45 w20 =>
 m R (o_load 85 x17) w20 fun x47 w21 =>
 m R (o_call (fv 82) [x47]) w21 fun x48 w22 =>
 m R (o_un .not x48) w22 fun x49 w23 =>
 mif x49 (
 R (.returned (.int .i64 3)) w23) (
 mj1 (fun j13 =>
 m R (o_fieldAddr 85 x17 0) w23 fun x51 w24 =>
 m R (o_load 34 x51) w24 fun x52 w25 =>
 m R (o_load 34 x10) w25 fun x53 w26 =>
 m R (o_bin .neq 34 false x52 x53) w26 fun x54 w27 =>
 mguard x54 false (fun k => m R (o_fieldAddr 85 x17 1) w27 k) w27 fun x56 w28 =>
 mguard x54 false (fun k => m R (o_load 3 x56) w28 k) w28 fun x57 w29 =>
 mguard x54 false (fun k => m R (o_move x4) w29 k) w29 fun x58 w30 =>
 mguard x54 false (fun k => m R (o_bin .neq 3 false x57 x58) w30 k) w30 fun x59 w31 =>
 m R (o_pick x54 (.bool true) x59) w31 fun x60 w32 =>
 j13 x60 w32) fun x50 u13 w33 =>
 mif x50 (
 R (.returned (.int .i64 1)) w33) (
 m R (o_bin .lss 3 true x45 (.int .i64 0)) w33 fun x63 w34 =>
 mif x63 (
 R (.returned (.int .i64 12)) w34) (
 dq Try.prog w34 (o_load 85 x17) fun x65 =>
 dp Try.prog (o_fieldAddr 27 x7 0) fun x66 =>
 dq Try.prog w34 (o_load 24 x66) fun x67 =>
 dp Try.prog (o_indexAddr 24 x67 x45) fun x69 =>
 dp Try.prog (o_fieldAddr 36 x69 2) fun x70 =>
 dq Try.prog w34 (o_load 34 x70) fun x71 =>
 df Try.prog w34 (o_call (fv 79) [x65, x71]) false fun x72 w35 =>
 dp Try.prog (o_un .not x72) fun x73 =>
 dend w35 fun w36 =>
 mif x73 (
 R (.returned (.int .i64 18)) w36) (
 mj1 (fun j19 =>
 dp Try.prog (o_bin .gtr 3 true x37 (.int .i64 0)) fun x76 =>
 qguard x76 true (fun k => dp Try.prog (o_move x6) k) fun x78 =>
 qguard x76 true (fun k => dp Try.prog (o_move x37) k) fun x79 =>
 qguard x76 true (fun k => dp Try.prog (o_bin .sub 3 true x79 (.int .i64 1)) k) fun x80 =>
 qguard x76 true (fun k => dp Try.prog (o_indexAddr 74 x78 x80) k) fun x81 =>
 qguard x76 true (fun k => dq Try.prog w36 (o_load 85 x81) k) fun x82 =>
 qguard x76 true (fun k => dq Try.prog w36 (o_load 85 x17) k) fun x83 =>
 mguard x76 true (fun k => df Try.prog w36 (o_call (fv 78) [x82, x83]) false k) w36 fun x84 w37 =>
 qguard x76 true (fun k => dp Try.prog (o_un .not x84) k) fun x85 =>
 dp Try.prog (o_pick x76 x85 (.bool false)) fun x86 =>
 qguard x86 false (fun k => dp Try.prog (o_move x34) k) fun x88 =>
 qguard x86 false (fun k => dp Try.prog (o_fieldAddr 85 x17 4) k) fun x89 =>
 qguard x86 false (fun k => dp Try.prog (o_fieldAddr 83 x89 1) k) fun x90 =>
 qguard x86 false (fun k => dq Try.prog w37 (o_load 3 x90) k) fun x91 =>
 qguard x86 false (fun k => dq Try.prog w37 (o_lookup 133 x88 x91 false) k) fun x92 =>
 dp Try.prog (o_pick x86 (.bool true) x92) fun x93 =>
 qguard x93 false (fun k => dp Try.prog (o_fieldAddr 85 x17 4) k) fun x95 =>
 qguard x93 false (fun k => dp Try.prog (o_fieldAddr 83 x95 0) k) fun x96 =>
 qguard x93 false (fun k => dq Try.prog w37 (o_load 3 x96) k) fun x97 =>
 qguard x93 false (fun k => dp Try.prog (o_bin .neq 3 true x97 (.int .i64 1)) k) fun x98 =>
 qguard x93 false (fun k => dp Try.prog (o_move x98) k) fun x99 =>
 qguard x99 true (fun k => dp Try.prog (o_fieldAddr 85 x17 4) k) fun x100 =>
 qguard x99 true (fun k => dp Try.prog (o_fieldAddr 83 x100 1) k) fun x101 =>
 qguard x99 true (fun k => dq Try.prog w37 (o_load 3 x101) k) fun x102 =>
 qguard x99 true (fun k => dp Try.prog (o_move x5) k) fun x103 =>
 qguard x99 true (fun k => dp Try.prog (o_bin .eql 3 false x102 x103) k) fun x104 =>
 qguard x93 false (fun k => dp Try.prog (o_pick x99 x104 (.bool false)) k) fun x105 =>
 dp Try.prog (o_pick x93 (.bool true) x105) fun x106 =>
 dend w37 fun w38 =>
 j19 x106 w38) fun x74 u19 w39 =>
 mif x74 (
 R (.returned (.int .i64 17)) w39) (
 m R (o_fieldAddr 85 x17 4) w39 fun x108 w40 =>
 m R (o_fieldAddr 83 x108 1) w40 fun x109 w41 =>
 m R (o_load 3 x109) w41 fun x110 w42 =>
 m R (o_mapUpdate 133 x34 x110 (.bool true)) w42 fun _ w43 =>
 m R (o_load 27 x7) w43 fun x111 w44 =>
 m R (o_fieldAddr 85 x17 4) w44 fun x112 w45 =>
 m R (o_fieldAddr 83 x112 1) w45 fun x113 w46 =>
 m R (o_load 3 x113) w46 fun x114 w47 =>
 m R (o_call (fv 34) [x111, x114]) w47 fun x115 w48 =>
 m R (o_bin .geq 3 true x115 (.int .i64 0)) w48 fun x116 w49 =>
 mj1 (fun j23 =>
 m R (o_fieldAddr 85 x17 4) w49 fun x118 w50 =>
 m R (o_fieldAddr 83 x118 0) w50 fun x119 w51 =>
 m R (o_load 3 x119) w51 fun x120 w52 =>
 m R (o_bin .eql 3 true x120 (.int .i64 1)) w52 fun x121 w53 =>
 mguard x121 true (fun k => m R (o_move x116) w53 k) w53 fun x123 w54 =>
 m R (o_pick x121 x123 (.bool false)) w54 fun x124 w55 =>
 j23 x124 w55) fun x117 u23 w56 =>
 mif x117 (
 R (.returned (.int .i64 8)) w56) (
 m R (o_fieldAddr 85 x17 4) w56 fun x126 w57 =>
 m R (o_fieldAddr 83 x126 0) w57 fun x127 w58 =>
 m R (o_load 3 x127) w58 fun x128 w59 =>
 m R (o_bin .eql 3 true x128 (.int .i64 1)) w59 fun x129 w60 =>
 mif x129 (
 m R (o_load 70 x8) w60 fun x131 w61 =>
 m R (o_fieldAddr 85 x17 4) w61 fun x133 w62 =>
 m R (o_fieldAddr 83 x133 1) w62 fun x134 w63 =>
 m R (o_load 3 x134) w63 fun x135 w64 =>
 m R (o_call (fv 86) [x131, x2, x135]) w64 fun x136 w65 =>
 m R (o_extract x136 0) w65 fun x137 w66 =>
 m R (o_extract x136 1) w66 fun x138 w67 =>
 m R (o_alloc 36) w67 fun x20 w68 =>
 m R (o_store 36 x20 x137) w68 fun _ w69 =>
 m R (o_bin .neq 43 true x138 (.int .i64 0)) w69 fun x140 w70 =>
 mif x140 (
 R (.returned x138) w70) (
 j30 w70)) (
 m R (o_un .not x116) w60 fun x144 w71 =>
 mif x144 (
 R (.returned (.int .i64 7)) w71) (
 j30 w71))))))))) fun u30 w72 =>
 m R (o_bin .add 3 true x37 (.int .i64 1)) w72 fun x145 w73 =>
 next7 x145 w73) (
 m R (o_load 27 x7) w12 fun x147 w74 =>
 m R (o_load 70 x8) w74 fun x148 w75 =>
 m R (o_call (fv 42) [x147, x148, x2, x6]) w75 fun x151 w76 =>
 m R (o_extract x151 0) w76 fun x152 w77 =>
 m R (o_extract x151 1) w77 fun x153 w78 =>
 m R (o_extract x151 2) w78 fun x154 w79 =>
 m R (o_extract x151 3) w79 fun x155 w80 =>
 m R (o_alloc 27) w80 fun x22 w81 =>
 m R (o_alloc 70) w81 fun x23 w82 =>
 m R (o_store 27 x22 x152) w82 fun _ w83 =>
 m R (o_store 70 x23 x153) w83 fun _ w84 =>
 R (.returned x155) w84)))
def A_change_Fit : Ann := ⟨[(7, [37], 89202980794122492566142873090593308589113344)], [(30, [], 44601490397061246283071436545296173260292096), (13, [50], 2304717109306851328), (19, [74], 162259276810323897460099429433344), (23, [117], 42369142365644193448808850046435983360)], [(16, [⟨0, .q (some 0), 131072, 0, 36893488147419103232⟩, ⟨1, .q none, 128, 0, 73786976294838206464⟩, ⟨2, .q (some 0), 73786976294838206464, 2, 147573952589676412928⟩, ⟨3, .q none, 262144, 0, 295147905179352825856⟩, ⟨4, .q none, 442721857769029238784, 14, 590295810358705651712⟩, ⟨5, .q none, 590295810358705651712, 30, 1180591620717411303424⟩, ⟨6, .q (some 0), 1180591620717411303424, 62, 2361183241434822606848⟩, ⟨7, .f 0 false, 2398076729582241710080, 127, 4722366482869645213696⟩, ⟨8, .q none, 4722366482869645213696, 255, 9444732965739290427392⟩, ⟨9, .q none, 9444732965739290427392, 511, 18446744073709551616⟩]), (18, [⟨0, .q none, 65536, 0, 37778931862957161709568⟩, ⟨1, .q none, 37778931862957161709568, 1, 75557863725914323419136⟩, ⟨2, .q none, 75557863725914323419136, 3, 151115727451828646838272⟩, ⟨3, .q none, 151115727451828646838336, 7, 302231454903657293676544⟩, ⟨4, .q none, 151115727451828646903808, 7, 604462909807314587353088⟩, ⟨5, .q none, 755578637259143234191360, 23, 1208925819614629174706176⟩, ⟨6, .q none, 1662273001970115115220992, 63, 2417851639229258349412352⟩, ⟨7, .q (some 0), 2568967366681086996250624, 127, 4835703278458516698824704⟩, ⟨8, .q (some 0), 151115727451828646969344, 7, 9671406556917033397649408⟩, ⟨9, .f 0 false, 14658225562827378743312384, 511, 19342813113834066795298816⟩, ⟨10, .q none, 19493928841285895442137088, 1023, 38685626227668133590597632⟩, ⟨11, .q none, 38836741955119962237435904, 2047, 77371252455336267181195264⟩, ⟨12, .q none, 77371252455336267181195264, 4095, 154742504910672534362390528⟩, ⟨13, .q none, 154742504910672534362423296, 8191, 309485009821345068724781056⟩, ⟨14, .q none, 154742504910672534362521600, 8191, 618970019642690137449562112⟩, ⟨15, .q none, 773712524553362671811952640, 24575, 1237940039285380274899124224⟩, ⟨16, .q (some 1), 1392682544196052809261514752, 57343, 2475880078570760549798248448⟩, ⟨17, .q (some 1), 2940107593302778152885420032, 131071, 4951760157141521099596496896⟩, ⟨18, .q none, 5106502662052193633958887424, 262143, 9903520314283042199192993792⟩, ⟨19, .q none, 9903520314283042199192993792, 524287, 19807040628566084398385987584⟩, ⟨20, .q none, 19807040628566084398386118656, 1048575, 39614081257132168796771975168⟩, ⟨21, .q none, 59421121885698253195157962752, 2097151, 79228162514264337593543950336⟩, ⟨22, .q (some 1), 99035203142830421991929937920, 4194303, 158456325028528675187087900672⟩, ⟨23, .q none, 178263365657094759585473888256, 8388607, 316912650057057350374175801344⟩, ⟨24, .q none, 336719690685623434772561788928, 16777215, 633825300114114700748351602688⟩, ⟨25, .q none, 633825300114114700748351733760, 33554431, 1267650600228229401496703205376⟩, ⟨26, .q none, 1901475900342344102245054808064, 67108863, 2535301200456458802993406410752⟩, ⟨27, .q (some 1), 3169126500570573503741758013440, 134217727, 5070602400912917605986812821504⟩, ⟨28, .q none, 633825300114114700748351602720, 33554431, 10141204801825835211973625643008⟩, ⟨29, .q none, 15845632502852867518708790067200, 536870911, 20282409603651670423947251286016⟩, ⟨30, .q none, 20936041944394351209093988876288, 1073741823, 40564819207303340847894502572032⟩, ⟨31, .q none, 40584626247931906932292888559616, 2147483647, 81129638414606681695789005144064⟩, ⟨32, .q none, 81129638414606681695789005144064, 4294967295, 18889465931478580854784⟩])], [], []⟩
theorem E_change_Fit (x0 x1 x2 x3 x4 x5 x6 : Value) (w : World) (R : Ending → World → Prop) : cwp Try.prog A_change_Fit (Try.f44.body.getD .skip) (retPost Try.prog Try.f44.results.toList R) (argE [x0, x1, x2, x3, x4, x5, x6]) w = F_change_Fit x0 x1 x2 x3 x4 x5 x6 w R := by kernel_rfl
theorem C_change_Fit {x0 x1 x2 x3 x4 x5 x6 : Value} {w : World} {R : Ending → World → Prop} (h : F_change_Fit x0 x1 x2 x3 x4 x5 x6 w R) : Calls Try.prog 44 #[x0, x1, x2, x3, x4, x5, x6] w R :=
 calls_cwp (A := A_change_Fit) (args := [x0, x1, x2, x3, x4, x5, x6]) mixed Try.func44 (c := Try.f44.body.getD .skip) (by kernel_rfl) (by kernel_rfl) (by kernel_rfl) ((E_change_Fit x0 x1 x2 x3 x4 x5 x6 w R).mpr h)
def F_tree_sound (x0 : Value) (w : World) (R : Ending → World → Prop) : Prop :=
 m R (o_box 27 x0) w fun x1 w1 =>
 m R (o_alloc 27) w1 fun x2 w2 =>
 m R (o_load 27 x1) w2 fun x3 w3 =>
 m R (o_call (fv 27) [x3]) w3 fun x4 w4 =>
 mif x4 (
 m R (o_load 27 x1) w4 fun x5 w5 =>
 m R (o_store 27 x2 x5) w5 fun _ w6 =>
 rcell Try.prog 27 x2 w6 fun r2 =>
 R (.returned r2) w6) (
 m R (o_build 27 []) w4 fun x6 w7 =>
 m R (o_store 27 x2 x6) w7 fun _ w8 =>
 rcell Try.prog 27 x2 w8 fun r2 =>
 R (.returned r2) w8)
def A_tree_sound : Ann := ⟨[], [], [], [], []⟩
theorem E_tree_sound (x0 : Value) (w : World) (R : Ending → World → Prop) : cwp Try.prog A_tree_sound (Try.f46.body.getD .skip) (retPost Try.prog Try.f46.results.toList R) (argE [x0]) w = F_tree_sound x0 w R := by kernel_rfl
theorem C_tree_sound {x0 : Value} {w : World} {R : Ending → World → Prop} (h : F_tree_sound x0 w R) : Calls Try.prog 46 #[x0] w R :=
 calls_cwp (A := A_tree_sound) (args := [x0]) mixed Try.func46 (c := Try.f46.body.getD .skip) (by kernel_rfl) (by kernel_rfl) (by kernel_rfl) ((E_tree_sound x0 w R).mpr h)
def F_sha_Sum (x0 : Value) (w : World) (R : Ending → World → Prop) : Prop :=
 m R (o_alloc 34) w fun x2 w1 =>
 m R (o_build 140 [(0, (.int .u32 1779033703)), (1, (.int .u32 3144134277)), (2, (.int .u32 1013904242)), (3, (.int .u32 2773480762)), (4, (.int .u32 1359893119)), (5, (.int .u32 2600822924)), (6, (.int .u32 528734635)), (7, (.int .u32 1541459225))]) w1 fun x11 w2 =>
 m R (o_call (fv 93) []) w2 fun x12 w3 =>
 m R (o_build 145 [(0, x11), (3, x12)]) w3 fun x13 w4 =>
 m R (o_box 145 x13) w4 fun x14 w5 =>
 m R (o_builtin .len #[137] 3 [false] [x0]) w5 fun x16 w6 =>
 ml1 (.int .i64 0) w6 fun x17 u3 w7 next3 =>
 m R (o_bin .lss 3 false x17 x16) w7 fun x18 w8 =>
 mif x18 (
 m R (o_indexAddr 137 x0 x17) w8 fun x19 w9 =>
 m R (o_load 9 x19) w9 fun x20 w10 =>
 m R (o_call (fv 94) [x14, x20]) w10 fun x23 w11 =>
 m R (o_bin .add 3 true x17 (.int .i64 1)) w11 fun x24 w12 =>
 next3 x24 w12) (
 m R (o_alloc 147) w8 fun x6 w13 =>
 m R (o_indexAddr 147 x6 (.int .i64 0)) w13 fun x25 w14 =>
 m R (o_store 5 x25 (.int .u8 128)) w14 fun _ w15 =>
 m R (o_nilCheck x14) w15 fun x27 w16 =>
 m R (o_fieldAddr 145 x27 2) w16 fun x28 w17 =>
 m R (o_load 3 x28) w17 fun x29 w18 =>
 m R (o_bin .add 3 true x29 (.int .i64 8)) w18 fun x30 w19 =>
 m R (o_bin .rem 3 true x30 (.int .i64 64)) w19 fun x31 w20 =>
 m R (o_bin .sub 3 true (.int .i64 64) x31) w20 fun x32 w21 =>
 ml1 (.int .i64 0) w21 fun x33 u11 w22 next11 =>
 m R (o_bin .lss 3 true x33 (.int .i64 8)) w22 fun x34 w23 =>
 mif x34 (
 m R (o_bin .add 3 false x32 x33) w23 fun x38 w24 =>
 m R (o_nilCheck x14) w24 fun x40 w25 =>
 m R (o_fieldAddr 145 x40 2) w25 fun x41 w26 =>
 m R (o_load 3 x41) w26 fun x42 w27 =>
 m R (o_conv 3 148 x42) w27 fun x43 w28 =>
 m R (o_bin .mul 148 true x43 (.int .u64 8)) w28 fun x44 w29 =>
 m R (o_bin .mul 3 true (.int .i64 8) x33) w29 fun x46 w30 =>
 m R (o_bin .sub 3 true (.int .i64 56) x46) w30 fun x47 w31 =>
 m R (o_bin .shr 148 false x44 x47) w31 fun x48 w32 =>
 m R (o_conv 148 5 x48) w32 fun x49 w33 =>
 m R (o_indexAddr 147 x6 x38) w33 fun x50 w34 =>
 m R (o_store 5 x50 x49) w34 fun _ w35 =>
 m R (o_bin .add 3 true x33 (.int .i64 1)) w35 fun x51 w36 =>
 next11 x51 w36) (
 m R (o_bin .add 3 true x32 (.int .i64 8)) w23 fun x54 w37 =>
 m R (o_slice 147 x6 none (some x54) none) w37 fun x55 w38 =>
 m R (o_conv 106 9 x55) w38 fun x56 w39 =>
 m R (o_call (fv 94) [x14, x56]) w39 fun x57 w40 =>
 m R (o_alloc 34) w40 fun x9 w41 =>
 ml1 (.int .i64 0) w41 fun x58 u18 w42 next18 =>
 m R (o_bin .lss 3 true x58 (.int .i64 32)) w42 fun x59 w43 =>
 mif x59 (
 m R (o_bin .quo 3 true x58 (.int .i64 4)) w43 fun x64 w44 =>
 m R (o_nilCheck x14) w44 fun x65 w45 =>
 m R (o_fieldAddr 145 x65 0) w45 fun x66 w46 =>
 m R (o_indexAddr 140 x66 x64) w46 fun x67 w47 =>
 m R (o_load 139 x67) w47 fun x68 w48 =>
 m R (o_bin .rem 3 true x58 (.int .i64 4)) w48 fun x70 w49 =>
 m R (o_bin .mul 3 true (.int .i64 8) x70) w49 fun x71 w50 =>
 m R (o_bin .sub 3 true (.int .i64 24) x71) w50 fun x72 w51 =>
 m R (o_bin .shr 139 false x68 x72) w51 fun x73 w52 =>
 m R (o_conv 139 5 x73) w52 fun x74 w53 =>
 m R (o_indexAddr 34 x9 x58) w53 fun x75 w54 =>
 m R (o_store 5 x75 x74) w54 fun _ w55 =>
 m R (o_bin .add 3 true x58 (.int .i64 1)) w55 fun x76 w56 =>
 next18 x76 w56) (
 m R (o_load 34 x9) w43 fun x77 w57 =>
 m R (o_store 34 x2 x77) w57 fun _ w58 =>
 rcell Try.prog 34 x2 w58 fun r2 =>
 R (.returned r2) w58)))
def A_sha_Sum : Ann := ⟨[(3, [17], 33423392), (11, [33], 4503591037436160), (18, [58], 151115439221452495127552)], [], [], [], []⟩
theorem E_sha_Sum (x0 : Value) (w : World) (R : Ending → World → Prop) : cwp Try.prog A_sha_Sum (Try.f53.body.getD .skip) (retPost Try.prog Try.f53.results.toList R) (argE [x0]) w = F_sha_Sum x0 w R := by kernel_rfl
theorem C_sha_Sum {x0 : Value} {w : World} {R : Ending → World → Prop} (h : F_sha_Sum x0 w R) : Calls Try.prog 53 #[x0] w R :=
 calls_cwp (A := A_sha_Sum) (args := [x0]) mixed Try.func53 (c := Try.f53.body.getD .skip) (by kernel_rfl) (by kernel_rfl) (by kernel_rfl) ((E_sha_Sum x0 w R).mpr h)
def F_bough_Root (x0 : Value) (w : World) (R : Ending → World → Prop) : Prop :=
 m R (o_call (fv 89) [x0, (.int .i64 0)]) w fun x5 w1 =>
 m R (o_un .not x5) w1 fun x6 w2 =>
 mif x6 (
 R (.returned (.int .i64 (-1))) w2) (
 ml1 (.int .i64 1) w2 fun x3 u4 w3 next4 =>
 m R (o_bin .lss 3 false x3 x0) w3 fun x9 w4 =>
 mif x9 (
 m R (o_bin .mul 3 true x3 (.int .i64 2)) w4 fun x11 w5 =>
 next4 x11 w5) (
 m R (o_bin .sub 3 true x3 (.int .i64 1)) w4 fun x13 w6 =>
 R (.returned x13) w6))
def A_bough_Root : Ann := ⟨[(4, [3], 3976)], [], [], [], []⟩
theorem E_bough_Root (x0 : Value) (w : World) (R : Ending → World → Prop) : cwp Try.prog A_bough_Root (Try.f55.body.getD .skip) (retPost Try.prog Try.f55.results.toList R) (argE [x0]) w = F_bough_Root x0 w R := by kernel_rfl
theorem C_bough_Root {x0 : Value} {w : World} {R : Ending → World → Prop} (h : F_bough_Root x0 w R) : Calls Try.prog 55 #[x0] w R :=
 calls_cwp (A := A_bough_Root) (args := [x0]) mixed Try.func55 (c := Try.f55.body.getD .skip) (by kernel_rfl) (by kernel_rfl) (by kernel_rfl) ((E_bough_Root x0 w R).mpr h)
def F_bevyref02_Sum (x0 : Value) (w : World) (R : Ending → World → Prop) : Prop :=
 m R (o_alloc 33) w fun x2 w1 =>
 m R (o_build 141 [(0, (.int .u32 1116352408)), (1, (.int .u32 1899447441)), (2, (.int .u32 3049323471)), (3, (.int .u32 3921009573)), (4, (.int .u32 961987163)), (5, (.int .u32 1508970993)), (6, (.int .u32 2453635748)), (7, (.int .u32 2870763221)), (8, (.int .u32 3624381080)), (9, (.int .u32 310598401)), (10, (.int .u32 607225278)), (11, (.int .u32 1426881987)), (12, (.int .u32 1925078388)), (13, (.int .u32 2162078206)), (14, (.int .u32 2614888103)), (15, (.int .u32 3248222580)), (16, (.int .u32 3835390401)), (17, (.int .u32 4022224774)), (18, (.int .u32 264347078)), (19, (.int .u32 604807628)), (20, (.int .u32 770255983)), (21, (.int .u32 1249150122)), (22, (.int .u32 1555081692)), (23, (.int .u32 1996064986)), (24, (.int .u32 2554220882)), (25, (.int .u32 2821834349)), (26, (.int .u32 2952996808)), (27, (.int .u32 3210313671)), (28, (.int .u32 3336571891)), (29, (.int .u32 3584528711)), (30, (.int .u32 113926993)), (31, (.int .u32 338241895)), (32, (.int .u32 666307205)), (33, (.int .u32 773529912)), (34, (.int .u32 1294757372)), (35, (.int .u32 1396182291)), (36, (.int .u32 1695183700)), (37, (.int .u32 1986661051)), (38, (.int .u32 2177026350)), (39, (.int .u32 2456956037)), (40, (.int .u32 2730485921)), (41, (.int .u32 2820302411)), (42, (.int .u32 3259730800)), (43, (.int .u32 3345764771)), (44, (.int .u32 3516065817)), (45, (.int .u32 3600352804)), (46, (.int .u32 4094571909)), (47, (.int .u32 275423344)), (48, (.int .u32 430227734)), (49, (.int .u32 506948616)), (50, (.int .u32 659060556)), (51, (.int .u32 883997877)), (52, (.int .u32 958139571)), (53, (.int .u32 1322822218)), (54, (.int .u32 1537002063)), (55, (.int .u32 1747873779)), (56, (.int .u32 1955562222)), (57, (.int .u32 2024104815)), (58, (.int .u32 2227730452)), (59, (.int .u32 2361852424)), (60, (.int .u32 2428436474)), (61, (.int .u32 2756734187)), (62, (.int .u32 3204031479)), (63, (.int .u32 3329325298))]) w1 fun x23 w2 =>
 m R (o_alloc 141) w2 fun x3 w3 =>
 m R (o_store 141 x3 x23) w3 fun _ w4 =>
 m R (o_conv 9 106 x0) w4 fun x25 w5 =>
 m R (o_buildSlice 106 1 [(0, (.int .u8 128))]) w5 fun x27 w6 =>
 m R (o_builtin .append #[106, 106] 106 [false, false] [x25, x27]) w6 fun x28 w7 =>
 ml1 x28 w7 fun x4 u4 w8 next4 =>
 m R (o_builtin .len #[106] 3 [false] [x4]) w8 fun x30 w9 =>
 m R (o_bin .rem 3 true x30 (.int .i64 64)) w9 fun x31 w10 =>
 m R (o_bin .neq 3 true x31 (.int .i64 56)) w10 fun x32 w11 =>
 mif x32 (
 m R (o_buildSlice 106 1 [(0, (.int .u8 0))]) w11 fun x34 w12 =>
 m R (o_builtin .append #[106, 106] 106 [false, false] [x4, x34]) w12 fun x35 w13 =>
 next4 x35 w13) (
 m R (o_builtin .len #[9] 3 [false] [x0]) w11 fun x37 w14 =>
 m R (o_conv 3 148 x37) w14 fun x38 w15 =>
 m R (o_bin .mul 148 true x38 (.int .u64 8)) w15 fun x39 w16 =>
 ml2 x4 (.int .i64 0) w16 fun x4 x6 u8 w17 next8 =>
 m R (o_bin .lss 3 true x6 (.int .i64 8)) w17 fun x41 w18 =>
 mif x41 (
 m R (o_bin .mul 3 true (.int .i64 8) x6) w18 fun x47 w19 =>
 m R (o_bin .sub 3 true (.int .i64 56) x47) w19 fun x48 w20 =>
 m R (o_conv 3 120 x48) w20 fun x49 w21 =>
 m R (o_bin .shr 148 false x39 x49) w21 fun x50 w22 =>
 m R (o_conv 148 5 x50) w22 fun x51 w23 =>
 m R (o_buildSlice 106 1 [(0, x51)]) w23 fun x52 w24 =>
 m R (o_builtin .append #[106, 106] 106 [false, false] [x4, x52]) w24 fun x53 w25 =>
 m R (o_bin .add 3 true x6 (.int .i64 1)) w25 fun x43 w26 =>
 next8 x53 x43 w26) (
 m R (o_build 140 [(0, (.int .u32 1779033703)), (1, (.int .u32 3144134277)), (2, (.int .u32 1013904242)), (3, (.int .u32 2773480762)), (4, (.int .u32 1359893119)), (5, (.int .u32 2600822924)), (6, (.int .u32 528734635)), (7, (.int .u32 1541459225))]) w18 fun x54 w27 =>
 m R (o_alloc 140) w27 fun x7 w28 =>
 m R (o_store 140 x7 x54) w28 fun _ w29 =>
 ml1 (.int .i64 0) w29 fun x8 u13 w30 next13 =>
 m R (o_builtin .len #[106] 3 [false] [x4]) w30 fun x57 w31 =>
 m R (o_bin .lss 3 false x8 x57) w31 fun x58 w32 =>
 mif x58 (
 m R (o_alloc 141) w32 fun x9 w33 =>
 ml1 (.int .i64 0) w33 fun x10 u17 w34 next17 =>
 m R (o_bin .lss 3 true x10 (.int .i64 16)) w34 fun x62 w35 =>
 mif x62 (
 m R (o_bin .mul 3 true (.int .i64 4) x10) w35 fun x69 w36 =>
 m R (o_bin .add 3 false x8 x69) w36 fun x70 w37 =>
 m R (o_call (fv 100) [x4, x70]) w37 fun x71 w38 =>
 m R (o_indexAddr 141 x9 x10) w38 fun x72 w39 =>
 m R (o_store 139 x72 x71) w39 fun _ w40 =>
 m R (o_bin .add 3 true x10 (.int .i64 1)) w40 fun x64 w41 =>
 next17 x64 w41) (
 ml1 (.int .i64 16) w35 fun x11 u21 w42 next21 =>
 m R (o_bin .lss 3 true x11 (.int .i64 64)) w42 fun x74 w43 =>
 mif x74 (
 m R (o_bin .sub 3 true x11 (.int .i64 15)) w43 fun x78 w44 =>
 m R (o_indexAddr 141 x9 x78) w44 fun x79 w45 =>
 m R (o_load 139 x79) w45 fun x80 w46 =>
 m R (o_bin .sub 3 true x11 (.int .i64 2)) w46 fun x82 w47 =>
 m R (o_indexAddr 141 x9 x82) w47 fun x83 w48 =>
 m R (o_load 139 x83) w48 fun x84 w49 =>
 dp Try.prog (o_bin .sub 3 true x11 (.int .i64 16)) fun x87 =>
 dp Try.prog (o_indexAddr 141 x9 x87) fun x88 =>
 dq Try.prog w49 (o_load 139 x88) fun x89 =>
 dp Try.prog (o_bin .sub 3 true x11 (.int .i64 7)) fun x91 =>
 dp Try.prog (o_indexAddr 141 x9 x91) fun x92 =>
 dq Try.prog w49 (o_load 139 x92) fun x93 =>
 dp Try.prog (o_bin .add 139 false x89 x93) fun x94 =>
 df Try.prog w49 (o_call (fv 101) [x80, (.int .u64 7)]) true fun x96 w50 =>
 df Try.prog w50 (o_call (fv 101) [x80, (.int .u64 18)]) true fun x98 w51 =>
 dp Try.prog (o_bin .xor 139 false x96 x98) fun x99 =>
 dp Try.prog (o_bin .shr 139 true x80 (.int .u64 3)) fun x101 =>
 dp Try.prog (o_bin .xor 139 false x99 x101) fun x102 =>
 dp Try.prog (o_bin .add 139 false x94 x102) fun x103 =>
 df Try.prog w51 (o_call (fv 101) [x84, (.int .u64 17)]) true fun x105 w52 =>
 df Try.prog w52 (o_call (fv 101) [x84, (.int .u64 19)]) true fun x107 w53 =>
 dp Try.prog (o_bin .xor 139 false x105 x107) fun x108 =>
 dp Try.prog (o_bin .shr 139 true x84 (.int .u64 10)) fun x110 =>
 dp Try.prog (o_bin .xor 139 false x108 x110) fun x111 =>
 dp Try.prog (o_bin .add 139 false x103 x111) fun x112 =>
 dp Try.prog (o_indexAddr 141 x9 x11) fun x113 =>
 df Try.prog w53 (o_store 139 x113 x112) false fun _ w54 =>
 dend w54 fun w55 =>
 m R (o_bin .add 3 true x11 (.int .i64 1)) w55 fun x76 w56 =>
 next21 x76 w56) (
 m R (o_load 140 x7) w43 fun x114 w57 =>
 m R (o_alloc 140) w57 fun x14 w58 =>
 m R (o_store 140 x14 x114) w58 fun _ w59 =>
 ml1 (.int .i64 0) w59 fun x15 u28 w60 next28 =>
 m R (o_bin .lss 3 true x15 (.int .i64 64)) w60 fun x116 w61 =>
 mif x116 (
 m R (o_indexAddr 140 x14 (.int .i64 4)) w61 fun x119 w62 =>
 m R (o_load 139 x119) w62 fun x120 w63 =>
 m R (o_indexAddr 140 x14 (.int .i64 0)) w63 fun x121 w64 =>
 m R (o_load 139 x121) w64 fun x122 w65 =>
 dp Try.prog (o_indexAddr 140 x14 (.int .i64 7)) fun x123 =>
 dq Try.prog w65 (o_load 139 x123) fun x124 =>
 df Try.prog w65 (o_call (fv 101) [x120, (.int .u64 6)]) true fun x126 w66 =>
 df Try.prog w66 (o_call (fv 101) [x120, (.int .u64 11)]) true fun x128 w67 =>
 dp Try.prog (o_bin .xor 139 false x126 x128) fun x129 =>
 df Try.prog w67 (o_call (fv 101) [x120, (.int .u64 25)]) true fun x131 w68 =>
 dp Try.prog (o_bin .xor 139 false x129 x131) fun x132 =>
 dp Try.prog (o_bin .add 139 false x124 x132) fun x133 =>
 dp Try.prog (o_indexAddr 140 x14 (.int .i64 5)) fun x135 =>
 dq Try.prog w65 (o_load 139 x135) fun x136 =>
 dp Try.prog (o_bin .and 139 false x120 x136) fun x137 =>
 dp Try.prog (o_un .xor x120) fun x139 =>
 dp Try.prog (o_indexAddr 140 x14 (.int .i64 6)) fun x140 =>
 dq Try.prog w65 (o_load 139 x140) fun x141 =>
 dp Try.prog (o_bin .and 139 false x139 x141) fun x142 =>
 dp Try.prog (o_bin .xor 139 false x137 x142) fun x143 =>
 dp Try.prog (o_bin .add 139 false x133 x143) fun x144 =>
 dp Try.prog (o_indexAddr 141 x3 x15) fun x146 =>
 dq Try.prog w65 (o_load 139 x146) fun x147 =>
 dp Try.prog (o_bin .add 139 false x144 x147) fun x148 =>
 dp Try.prog (o_indexAddr 141 x9 x15) fun x150 =>
 dq Try.prog w65 (o_load 139 x150) fun x151 =>
 dp Try.prog (o_bin .add 139 false x148 x151) fun x152 =>
 dend w68 fun w69 =>
 df Try.prog w69 (o_call (fv 101) [x122, (.int .u64 2)]) true fun x154 w70 =>
 df Try.prog w70 (o_call (fv 101) [x122, (.int .u64 13)]) true fun x156 w71 =>
 dp Try.prog (o_bin .xor 139 false x154 x156) fun x157 =>
 df Try.prog w71 (o_call (fv 101) [x122, (.int .u64 22)]) true fun x159 w72 =>
 dp Try.prog (o_bin .xor 139 false x157 x159) fun x160 =>
 dp Try.prog (o_indexAddr 140 x14 (.int .i64 1)) fun x162 =>
 dq Try.prog w69 (o_load 139 x162) fun x163 =>
 dp Try.prog (o_bin .and 139 false x122 x163) fun x164 =>
 dp Try.prog (o_indexAddr 140 x14 (.int .i64 2)) fun x166 =>
 dq Try.prog w69 (o_load 139 x166) fun x167 =>
 dp Try.prog (o_bin .and 139 false x122 x167) fun x168 =>
 dp Try.prog (o_bin .xor 139 false x164 x168) fun x169 =>
 dp Try.prog (o_indexAddr 140 x14 (.int .i64 1)) fun x170 =>
 dq Try.prog w69 (o_load 139 x170) fun x171 =>
 dp Try.prog (o_indexAddr 140 x14 (.int .i64 2)) fun x172 =>
 dq Try.prog w69 (o_load 139 x172) fun x173 =>
 dp Try.prog (o_bin .and 139 false x171 x173) fun x174 =>
 dp Try.prog (o_bin .xor 139 false x169 x174) fun x175 =>
 dp Try.prog (o_bin .add 139 false x160 x175) fun x176 =>
 dend w72 fun w73 =>
 m R (o_bin .add 139 false x152 x176) w73 fun x179 w74 =>
 m R (o_indexAddr 140 x14 (.int .i64 0)) w74 fun x180 w75 =>
 m R (o_load 139 x180) w75 fun x181 w76 =>
 m R (o_indexAddr 140 x14 (.int .i64 1)) w76 fun x182 w77 =>
 m R (o_load 139 x182) w77 fun x183 w78 =>
 m R (o_indexAddr 140 x14 (.int .i64 2)) w78 fun x184 w79 =>
 m R (o_load 139 x184) w79 fun x185 w80 =>
 m R (o_indexAddr 140 x14 (.int .i64 3)) w80 fun x186 w81 =>
 m R (o_load 139 x186) w81 fun x187 w82 =>
 m R (o_bin .add 139 false x187 x152) w82 fun x189 w83 =>
 m R (o_indexAddr 140 x14 (.int .i64 4)) w83 fun x190 w84 =>
 m R (o_load 139 x190) w84 fun x191 w85 =>
 m R (o_indexAddr 140 x14 (.int .i64 5)) w85 fun x192 w86 =>
 m R (o_load 139 x192) w86 fun x193 w87 =>
 m R (o_indexAddr 140 x14 (.int .i64 6)) w87 fun x194 w88 =>
 m R (o_load 139 x194) w88 fun x195 w89 =>
 m R (o_build 140 [(0, x179), (1, x181), (2, x183), (3, x185), (4, x189), (5, x191), (6, x193), (7, x195)]) w89 fun x196 w90 =>
 m R (o_store 140 x14 x196) w90 fun _ w91 =>
 m R (o_bin .add 3 true x15 (.int .i64 1)) w91 fun x118 w92 =>
 next28 x118 w92) (
 ml1 (.int .i64 0) w61 fun x20 u36 w93 next36 =>
 m R (o_bin .lss 3 true x20 (.int .i64 8)) w93 fun x198 w94 =>
 mif x198 (
 dp Try.prog (o_indexAddr 140 x7 x20) fun x203 =>
 dq Try.prog w94 (o_load 139 x203) fun x204 =>
 dp Try.prog (o_indexAddr 140 x14 x20) fun x206 =>
 dq Try.prog w94 (o_load 139 x206) fun x207 =>
 dp Try.prog (o_bin .add 139 false x204 x207) fun x208 =>
 dp Try.prog (o_indexAddr 140 x7 x20) fun x209 =>
 df Try.prog w94 (o_store 139 x209 x208) false fun _ w95 =>
 dend w95 fun w96 =>
 m R (o_bin .add 3 true x20 (.int .i64 1)) w96 fun x200 w97 =>
 next36 x200 w97) (
 m R (o_bin .add 3 true x8 (.int .i64 64)) w94 fun x60 w98 =>
 next13 x60 w98))))) (
 m R (o_alloc 33) w32 fun x21 w99 =>
 ml1 (.int .i64 0) w99 fun x22 u41 w100 next41 =>
 m R (o_bin .lss 3 true x22 (.int .i64 32)) w100 fun x211 w101 =>
 mif x211 (
 m R (o_bin .quo 3 true x22 (.int .i64 4)) w101 fun x216 w102 =>
 m R (o_indexAddr 140 x7 x216) w102 fun x217 w103 =>
 m R (o_load 139 x217) w103 fun x218 w104 =>
 m R (o_bin .rem 3 true x22 (.int .i64 4)) w104 fun x220 w105 =>
 m R (o_bin .mul 3 true (.int .i64 8) x220) w105 fun x221 w106 =>
 m R (o_bin .sub 3 true (.int .i64 24) x221) w106 fun x222 w107 =>
 m R (o_conv 3 120 x222) w107 fun x223 w108 =>
 m R (o_bin .shr 139 false x218 x223) w108 fun x224 w109 =>
 m R (o_conv 139 5 x224) w109 fun x225 w110 =>
 m R (o_indexAddr 33 x21 x22) w110 fun x226 w111 =>
 m R (o_store 5 x226 x225) w111 fun _ w112 =>
 m R (o_bin .add 3 true x22 (.int .i64 1)) w112 fun x213 w113 =>
 next41 x213 w113) (
 m R (o_load 33 x21) w101 fun x227 w114 =>
 m R (o_store 33 x2 x227) w114 fun _ w115 =>
 rcell Try.prog 33 x2 w115 fun r2 =>
 R (.returned r2) w115))))
def A_bevyref02_Sum : Ann := ⟨[(4, [4], 68182605840), (8, [4, 6], 18013298997854288), (13, [8], 1645504557321206042154969182557350504982735865597551066331741952), (17, [10], 9442427122730076734464), (21, [11], 20769187434129865781156246026467328), (28, [15], 200867255532373784442745220004270457036654345978878471667712), (36, [20], 1645303690065673668370526437295807859657420590259357014245244928), (41, [22], 215677927832647797151293965726974488038592172644458946268965537579008)], [], [(25, [⟨0, .q none, 2048, 0, 38685626227668133590597632⟩, ⟨1, .q none, 2048, 0, 77371252455336267181195264⟩, ⟨2, .q none, 77371252455336267181195264, 2, 154742504910672534362390528⟩, ⟨3, .q none, 154742504910672534362391040, 6, 309485009821345068724781056⟩, ⟨4, .q (some 0), 309485009821345068724781056, 14, 618970019642690137449562112⟩, ⟨5, .q none, 2048, 0, 1237940039285380274899124224⟩, ⟨6, .q none, 1237940039285380274899124224, 32, 2475880078570760549798248448⟩, ⟨7, .q none, 2475880078570760549798248960, 96, 4951760157141521099596496896⟩, ⟨8, .q (some 0), 4951760157141521099596496896, 224, 9903520314283042199192993792⟩, ⟨9, .q none, 10522490333925732336642555904, 510, 19807040628566084398385987584⟩, ⟨10, .q none, 4096, 0, 39614081257132168796771975168⟩, ⟨11, .f 0 true, 39614081257132168796771975168, 1024, 79228162514264337593543950336⟩, ⟨12, .q none, 4096, 0, 158456325028528675187087900672⟩, ⟨13, .f 1 true, 158456325028528675187087900672, 7168, 316912650057057350374175801344⟩, ⟨14, .q none, 396140812571321687967719751680, 15360, 633825300114114700748351602688⟩, ⟨15, .q none, 4096, 0, 1267650600228229401496703205376⟩, ⟨16, .q none, 1267650600228229401496703205376, 32768, 2535301200456458802993406410752⟩, ⟨17, .q none, 3169126500570573503741758013440, 130048, 5070602400912917605986812821504⟩, ⟨18, .q none, 5090409441541483690385198809088, 262142, 10141204801825835211973625643008⟩, ⟨19, .q none, 8192, 0, 20282409603651670423947251286016⟩, ⟨20, .f 2 true, 20282409603651670423947251286016, 539648, 40564819207303340847894502572032⟩, ⟨21, .q none, 8192, 0, 81129638414606681695789005144064⟩, ⟨22, .f 3 true, 81129638414606681695789005144064, 3685376, 162259276829213363391578010288128⟩, ⟨23, .q none, 202824096036516704239472512860160, 7879680, 324518553658426726783156020576256⟩, ⟨24, .q none, 8192, 0, 649037107316853453566312041152512⟩, ⟨25, .q none, 649037107316853453566312041152512, 16777216, 1298074214633706907132624082305024⟩, ⟨26, .q none, 1622592768292133633915780102881280, 66599936, 2596148429267413814265248164610048⟩, ⟨27, .q none, 2606289634069239649477221790253056, 134217726, 5192296858534827628530496329220096⟩, ⟨28, .q none, 38685626227668133590598144, 268435455, 10384593717069655257060992658440192⟩, ⟨29, .f 4 false, 15576890575604482885591488987660288, 536870911, 0⟩]), (32, [⟨0, .q none, 16384, 0, 10633823966279326983230456482242756608⟩, ⟨1, .q (some 0), 10633823966279326983230456482242756608, 1, 21267647932558653966460912964485513216⟩, ⟨2, .q none, 65536, 0, 42535295865117307932921825928971026432⟩, ⟨3, .f 0 true, 42535295865117307932921825928971026432, 4, 85070591730234615865843651857942052864⟩, ⟨4, .q none, 65536, 0, 170141183460469231731687303715884105728⟩, ⟨5, .f 1 true, 170141183460469231731687303715884105728, 28, 340282366920938463463374607431768211456⟩, ⟨6, .q none, 425352958651173079329218259289710264320, 60, 680564733841876926926749214863536422912⟩, ⟨7, .q none, 65536, 0, 1361129467683753853853498429727072845824⟩, ⟨8, .f 2 true, 1361129467683753853853498429727072845824, 188, 2722258935367507707706996859454145691648⟩, ⟨9, .q none, 3402823669209384634633746074317682114560, 508, 5444517870735015415413993718908291383296⟩, ⟨10, .q none, 5465785518667574069380454631872776896512, 1023, 10889035741470030830827987437816582766592⟩, ⟨11, .q none, 65536, 0, 21778071482940061661655974875633165533184⟩, ⟨12, .q none, 16384, 0, 43556142965880123323311949751266331066368⟩, ⟨13, .q (some 0), 43556142965880123323311949751266331066368, 4096, 87112285931760246646623899502532662132736⟩, ⟨14, .q none, 108890357414700308308279874378165827665920, 14336, 174224571863520493293247799005065324265472⟩, ⟨15, .q none, 65536, 0, 348449143727040986586495598010130648530944⟩, ⟨16, .q none, 348449143727040986586495598010130648530944, 32768, 696898287454081973172991196020261297061888⟩, ⟨17, .q none, 16384, 0, 1393796574908163946345982392040522594123776⟩, ⟨18, .q (some 0), 1393796574908163946345982392040522594123776, 131072, 2787593149816327892691964784081045188247552⟩, ⟨19, .q none, 3484491437270409865864955980101306485309440, 491520, 5575186299632655785383929568162090376495104⟩, ⟨20, .q none, 5749410871496176278677177367167155700760576, 1046528, 11150372599265311570767859136324180752990208⟩, ⟨21, .q none, 11161261635006781601598687123761997335756800, 2097151, 22300745198530623141535718272648361505980416⟩, ⟨22, .q none, 32768, 0, 44601490397061246283071436545296723011960832⟩, ⟨23, .q none, 44601490397061246283071436545296723011960840, 4194304, 89202980794122492566142873090593446023921664⟩, ⟨24, .q (some 0), 89202980794122492566142873090593446023921664, 12582912, 178405961588244985132285746181186892047843328⟩, ⟨25, .q none, 200706706786775608273821464453835253553823744, 33554431, 356811923176489970264571492362373784095686656⟩, ⟨26, .q none, 32768, 0, 713623846352979940529142984724747568191373312⟩, ⟨27, .q none, 713623846352979940529142984724747568191373824, 67108864, 1427247692705959881058285969449495136382746624⟩, ⟨28, .q (some 0), 1427247692705959881058285969449495136382746624, 201326592, 2854495385411919762116571938898990272765493248⟩, ⟨29, .q none, 3211307308588409732381143431261364056861179904, 536870911, 5708990770823839524233143877797980545530986496⟩, ⟨30, .q none, 5708990770823839524233143877797980545530986496, 1073741823, 262144⟩]), (33, [⟨0, .q none, 131072, 0, 11417981541647679048466287755595961091061972992⟩, ⟨1, .f 0 true, 11417981541647679048466287755595961091061972992, 1, 22835963083295358096932575511191922182123945984⟩, ⟨2, .q none, 131072, 0, 45671926166590716193865151022383844364247891968⟩, ⟨3, .f 1 true, 45671926166590716193865151022383844364247891968, 7, 91343852333181432387730302044767688728495783936⟩, ⟨4, .q none, 114179815416476790484662877555959610910619729920, 15, 182687704666362864775460604089535377456991567872⟩, ⟨5, .q none, 131072, 0, 365375409332725729550921208179070754913983135744⟩, ⟨6, .f 2 true, 365375409332725729550921208179070754913983135744, 47, 730750818665451459101842416358141509827966271488⟩, ⟨7, .q none, 913438523331814323877303020447676887284957839360, 127, 1461501637330902918203684832716283019655932542976⟩, ⟨8, .q none, 131072, 0, 2923003274661805836407369665432566039311865085952⟩, ⟨9, .q none, 16384, 0, 5846006549323611672814739330865132078623730171904⟩, ⟨10, .q (some 0), 5846006549323611672814739330865132078623730171904, 512, 11692013098647223345629478661730264157247460343808⟩, ⟨11, .q none, 14615016373309029182036848327162830196559325429760, 1792, 23384026197294446691258957323460528314494920687616⟩, ⟨12, .q none, 131072, 0, 46768052394588893382517914646921056628989841375232⟩, ⟨13, .q none, 16384, 0, 93536104789177786765035829293842113257979682750464⟩, ⟨14, .q (some 0), 93536104789177786765035829293842113257979682750464, 8192, 187072209578355573530071658587684226515959365500928⟩, ⟨15, .q none, 233840261972944466912589573234605283144949206876160, 28672, 374144419156711147060143317175368453031918731001856⟩, ⟨16, .q none, 397528445354005593751402274498828981346413651689472, 65280, 748288838313422294120286634350736906063837462003712⟩, ⟨17, .q none, 16384, 0, 1496577676626844588240573268701473812127674924007424⟩, ⟨18, .q (some 0), 1496577676626844588240573268701473812127674924007424, 131072, 2993155353253689176481146537402947624255349848014848⟩, ⟨19, .q none, 16384, 0, 5986310706507378352962293074805895248510699696029696⟩, ⟨20, .q (some 0), 5986310706507378352962293074805895248510699696029696, 524288, 11972621413014756705924586149611790497021399392059392⟩, ⟨21, .q none, 14965776766268445882405732687014738121276749240074240, 1966080, 23945242826029513411849172299223580994042798784118784⟩, ⟨22, .q none, 24693531664342935705969458933574317900106636246122496, 4194048, 47890485652059026823698344598447161988085597568237568⟩, ⟨23, .q none, 47891947153696357726616548283279878271105253500780544, 8388607, 95780971304118053647396689196894323976171195136475136⟩, ⟨24, .q none, 95780971304118053647396689196894323976171195136475136, 16777215, 524288⟩]), (38, [⟨0, .q none, 1048576, 0, 3213876088517980551083924184682325205044405987565585670602752⟩, ⟨1, .q none, 1048576, 0, 6427752177035961102167848369364650410088811975131171341205504⟩, ⟨2, .q none, 6427752177035961102167848369364650410088811975131171341205632, 2, 12855504354071922204335696738729300820177623950262342682411008⟩, ⟨3, .q (some 0), 12855504354071922204335696738729300820177623950262342682411008, 6, 25711008708143844408671393477458601640355247900524685364822016⟩, ⟨4, .q none, 1048576, 0, 51422017416287688817342786954917203280710495801049370729644032⟩, ⟨5, .q none, 51422017416287688817342786954917203280710495801049370729660416, 16, 102844034832575377634685573909834406561420991602098741459288064⟩, ⟨6, .q (some 0), 102844034832575377634685573909834406561420991602098741459288064, 48, 205688069665150755269371147819668813122841983204197482918576128⟩, ⟨7, .q none, 231399078373294599678042541297127414763197231104722168283398144, 126, 411376139330301510538742295639337626245683966408394965837152256⟩, ⟨8, .q none, 3213876088517980551083924184682325205044405987565585670602880, 255, 822752278660603021077484591278675252491367932816789931674304512⟩, ⟨9, .f 0 false, 1234128417990904531616226886918012878737051899225184897511456768, 511, 0⟩])], [], []⟩
theorem E_bevyref02_Sum (x0 : Value) (w : World) (R : Ending → World → Prop) : cwp Try.prog A_bevyref02_Sum (Try.f56.body.getD .skip) (retPost Try.prog Try.f56.results.toList R) (argE [x0]) w = F_bevyref02_Sum x0 w R := by kernel_rfl
theorem C_bevyref02_Sum {x0 : Value} {w : World} {R : Ending → World → Prop} (h : F_bevyref02_Sum x0 w R) : Calls Try.prog 56 #[x0] w R :=
 calls_cwp (A := A_bevyref02_Sum) (args := [x0]) mixed Try.func56 (c := Try.f56.body.getD .skip) (by kernel_rfl) (by kernel_rfl) (by kernel_rfl) ((E_bevyref02_Sum x0 w R).mpr h)
def F_tree_none (x0 x1 : Value) (w : World) (R : Ending → World → Prop) : Prop :=
 m R (o_box 27 x0) w fun x2 w1 =>
 m R (o_bin .lss 3 true x1 (.int .i64 0)) w1 fun x6 w2 =>
 mguard x6 false (fun k => m R (o_move x1) w2 k) w2 fun x8 w3 =>
 mguard x6 false (fun k => m R (o_fieldAddr 27 x2 0) w3 k) w3 fun x9 w4 =>
 mguard x6 false (fun k => m R (o_load 24 x9) w4 k) w4 fun x10 w5 =>
 mguard x6 false (fun k => m R (o_builtin .len #[24] 3 [false] [x10]) w5 k) w5 fun x11 w6 =>
 mguard x6 false (fun k => m R (o_bin .geq 3 false x8 x11) w6 k) w6 fun x12 w7 =>
 m R (o_pick x6 (.bool true) x12) w7 fun x13 w8 =>
 mguard x13 false (fun k => m R (o_fieldAddr 27 x2 0) w8 k) w8 fun x15 w9 =>
 mguard x13 false (fun k => m R (o_load 24 x15) w9 k) w9 fun x16 w10 =>
 mguard x13 false (fun k => m R (o_move x1) w10 k) w10 fun x17 w11 =>
 mguard x13 false (fun k => m R (o_indexAddr 24 x16 x17) w11 k) w11 fun x18 w12 =>
 mguard x13 false (fun k => m R (o_fieldAddr 36 x18 0) w12 k) w12 fun x19 w13 =>
 mguard x13 false (fun k => m R (o_load 3 x19) w13 k) w13 fun x20 w14 =>
 mguard x13 false (fun k => m R (o_bin .eql 3 true x20 (.int .i64 0)) w14 k) w14 fun x21 w15 =>
 m R (o_pick x13 (.bool true) x21) w15 fun x22 w16 =>
 R (.returned x22) w16
def A_tree_none : Ann := ⟨[], [], [], [], []⟩
theorem E_tree_none (x0 x1 : Value) (w : World) (R : Ending → World → Prop) : cwp Try.prog A_tree_none (Try.f59.body.getD .skip) (retPost Try.prog Try.f59.results.toList R) (argE [x0, x1]) w = F_tree_none x0 x1 w R := by kernel_rfl
theorem C_tree_none {x0 x1 : Value} {w : World} {R : Ending → World → Prop} (h : F_tree_none x0 x1 w R) : Calls Try.prog 59 #[x0, x1] w R :=
 calls_cwp (A := A_tree_none) (args := [x0, x1]) mixed Try.func59 (c := Try.f59.body.getD .skip) (by kernel_rfl) (by kernel_rfl) (by kernel_rfl) ((E_tree_none x0 x1 w R).mpr h)
def F_tree_clone (x0 : Value) (w : World) (R : Ending → World → Prop) : Prop :=
 m R (o_box 27 x0) w fun x1 w1 =>
 m R (o_alloc 27) w1 fun x2 w2 =>
 mj1 (fun j2 =>
 ((
 dp Try.prog (o_fieldAddr 27 x1 0) fun x5 =>
 dq Try.prog w2 (o_load 24 x5) fun x6 =>
 dp Try.prog (o_fieldAddr 27 x1 1) fun x8 =>
 dq Try.prog w2 (o_load 25 x8) fun x9 =>
 df Try.prog w2 (o_call (fv 83) [x6]) true fun x7 w3 =>
 df Try.prog w3 (o_call (fv 84) [x9]) false fun x10 w4 =>
 dp Try.prog (o_build 27 [(0, x7), (1, x10)]) fun x11 =>
 df Try.prog w4 (o_alloc 27) true fun x3 w5 =>
 df Try.prog w5 (o_store 27 x3 x11) false fun _ w6 =>
 dend w6 fun w7 =>
 j2 x3 w7) ∧ (
 dp Try.prog (o_fieldAddr 27 x1 0) fun x5 =>
 dq Try.prog w2 (o_load 24 x5) fun x6 =>
 dp Try.prog (o_fieldAddr 27 x1 1) fun x8 =>
 dq Try.prog w2 (o_load 25 x8) fun x9 =>
 df Try.prog w2 (o_call (fv 83) [x6]) true fun x7 w8 =>
 df Try.prog w8 (o_alloc 27) true fun x3 w9 =>
 df Try.prog w9 (o_call (fv 84) [x9]) false fun x10 w10 =>
 dp Try.prog (o_build 27 [(0, x7), (1, x10)]) fun x11 =>
 df Try.prog w10 (o_store 27 x3 x11) false fun _ w11 =>
 dend w11 fun w12 =>
 j2 x3 w12) ∧ (
 dp Try.prog (o_fieldAddr 27 x1 0) fun x5 =>
 dq Try.prog w2 (o_load 24 x5) fun x6 =>
 dp Try.prog (o_fieldAddr 27 x1 1) fun x8 =>
 dq Try.prog w2 (o_load 25 x8) fun x9 =>
 df Try.prog w2 (o_alloc 27) true fun x3 w13 =>
 df Try.prog w13 (o_call (fv 83) [x6]) true fun x7 w14 =>
 df Try.prog w14 (o_call (fv 84) [x9]) false fun x10 w15 =>
 dp Try.prog (o_build 27 [(0, x7), (1, x10)]) fun x11 =>
 df Try.prog w15 (o_store 27 x3 x11) false fun _ w16 =>
 dend w16 fun w17 =>
 j2 x3 w17))) fun x3 u2 w18 =>
 m R (o_fieldAddr 27 x3 1) w18 fun x12 w19 =>
 m R (o_load 25 x12) w19 fun x13 w20 =>
 m R (o_builtin .len #[25] 3 [false] [x13]) w20 fun x14 w21 =>
 ml1 (.int .i64 0) w21 fun x15 u3 w22 next3 =>
 m R (o_bin .lss 3 false x15 x14) w22 fun x16 w23 =>
 mif x16 (
 dp Try.prog (o_fieldAddr 27 x3 1) fun x18 =>
 dq Try.prog w23 (o_load 25 x18) fun x19 =>
 dp Try.prog (o_fieldAddr 27 x3 1) fun x21 =>
 dq Try.prog w23 (o_load 25 x21) fun x22 =>
 dp Try.prog (o_indexAddr 25 x22 x15) fun x24 =>
 dp Try.prog (o_fieldAddr 96 x24 3) fun x25 =>
 dq Try.prog w23 (o_load 29 x25) fun x26 =>
 df Try.prog w23 (o_call (fv 85) [x26]) true fun x27 w24 =>
 dp Try.prog (o_indexAddr 25 x19 x15) fun x28 =>
 dp Try.prog (o_fieldAddr 96 x28 3) fun x29 =>
 df Try.prog w24 (o_store 29 x29 x27) false fun _ w25 =>
 dend w25 fun w26 =>
 m R (o_bin .add 3 true x15 (.int .i64 1)) w26 fun x30 w27 =>
 next3 x30 w27) (
 m R (o_load 27 x3) w23 fun x31 w28 =>
 m R (o_store 27 x2 x31) w28 fun _ w29 =>
 rcell Try.prog 27 x2 w29 fun r2 =>
 R (.returned r2) w29)
def A_tree_clone : Ann := ⟨[(3, [15], 2147450896)], [(2, [3], 4072)], [(5, [⟨0, .q none, 8, 0, 262144⟩, ⟨1, .q (some 0), 262144, 1, 524288⟩, ⟨2, .q none, 16, 0, 1048576⟩, ⟨3, .q none, 8, 0, 2097152⟩, ⟨4, .q (some 0), 2097152, 8, 4194304⟩, ⟨5, .q none, 16, 0, 8388608⟩, ⟨6, .q none, 12582912, 56, 16777216⟩, ⟨7, .q none, 16777216, 120, 33554432⟩, ⟨8, .q (some 0), 33554432, 248, 67108864⟩, ⟨9, .f 0 true, 67108864, 504, 134217728⟩, ⟨10, .q none, 1572864, 1023, 268435456⟩, ⟨11, .q none, 268435456, 2047, 536870912⟩, ⟨12, .f 1 false, 671088640, 4095, 0⟩])], [(1, [⟨[0, 1, 3, 4, 2, 5, 6, 7, 8], [⟨0, .q none, 2, 0, 32⟩, ⟨1, .q (some 0), 32, 1, 64⟩, ⟨2, .f 0 true, 64, 3, 128⟩, ⟨3, .q none, 2, 0, 256⟩, ⟨4, .q (some 0), 256, 8, 512⟩, ⟨5, .f 1 false, 512, 31, 1024⟩, ⟨6, .q none, 1152, 63, 2048⟩, ⟨7, .f 2 true, 0, 0, 8⟩, ⟨8, .f 3 false, 2056, 255, 0⟩]⟩, ⟨[0, 1, 3, 4, 2, 7, 5, 6, 8], [⟨0, .q none, 2, 0, 32⟩, ⟨1, .q (some 0), 32, 1, 64⟩, ⟨2, .f 0 true, 64, 3, 128⟩, ⟨3, .q none, 2, 0, 256⟩, ⟨4, .q (some 0), 256, 8, 512⟩, ⟨5, .f 2 false, 512, 31, 1024⟩, ⟨6, .q none, 1152, 63, 2048⟩, ⟨7, .f 1 true, 0, 0, 8⟩, ⟨8, .f 3 false, 2056, 255, 0⟩]⟩, ⟨[0, 1, 3, 4, 7, 2, 5, 6, 8], [⟨0, .q none, 2, 0, 32⟩, ⟨1, .q (some 0), 32, 1, 64⟩, ⟨2, .f 1 true, 64, 3, 128⟩, ⟨3, .q none, 2, 0, 256⟩, ⟨4, .q (some 0), 256, 8, 512⟩, ⟨5, .f 2 false, 512, 31, 1024⟩, ⟨6, .q none, 1152, 63, 2048⟩, ⟨7, .f 0 true, 0, 0, 8⟩, ⟨8, .f 3 false, 2056, 255, 0⟩]⟩])], []⟩
theorem E_tree_clone (x0 : Value) (w : World) (R : Ending → World → Prop) : cwp Try.prog A_tree_clone (Try.f61.body.getD .skip) (retPost Try.prog Try.f61.results.toList R) (argE [x0]) w = F_tree_clone x0 w R := by kernel_rfl
theorem C_tree_clone {x0 : Value} {w : World} {R : Ending → World → Prop} (h : F_tree_clone x0 w R) : Calls Try.prog 61 #[x0] w R :=
 calls_cwp (A := A_tree_clone) (args := [x0]) mixed Try.func61 (c := Try.f61.body.getD .skip) (by kernel_rfl) (by kernel_rfl) (by kernel_rfl) ((E_tree_clone x0 w R).mpr h)
def F_tree_zero (x0 : Value) (w : World) (R : Ending → World → Prop) : Prop :=
 m R (o_box 96 x0) w fun x1 w1 =>
 m R (o_fieldAddr 96 x1 0) w1 fun x3 w2 =>
 m R (o_load 4 x3) w2 fun x4 w3 =>
 m R (o_un .not x4) w3 fun x5 w4 =>
 mguard x5 true (fun k => m R (o_fieldAddr 96 x1 1) w4 k) w4 fun x7 w5 =>
 mguard x5 true (fun k => m R (o_load 34 x7) w5 k) w5 fun x8 w6 =>
 mguard x5 true (fun k => m R (o_build 34 []) w6 k) w6 fun x9 w7 =>
 mguard x5 true (fun k => m R (o_bin .eql 34 false x8 x9) w7 k) w7 fun x10 w8 =>
 m R (o_pick x5 x10 (.bool false)) w8 fun x11 w9 =>
 mguard x11 true (fun k => m R (o_fieldAddr 96 x1 2) w9 k) w9 fun x13 w10 =>
 mguard x11 true (fun k => m R (o_load 34 x13) w10 k) w10 fun x14 w11 =>
 mguard x11 true (fun k => m R (o_build 34 []) w11 k) w11 fun x15 w12 =>
 mguard x11 true (fun k => m R (o_bin .eql 34 false x14 x15) w12 k) w12 fun x16 w13 =>
 m R (o_pick x11 x16 (.bool false)) w13 fun x17 w14 =>
 mguard x17 true (fun k => m R (o_fieldAddr 96 x1 3) w14 k) w14 fun x19 w15 =>
 mguard x17 true (fun k => m R (o_load 29 x19) w15 k) w15 fun x20 w16 =>
 mguard x17 true (fun k => m R (o_builtin .len #[29] 3 [false] [x20]) w16 k) w16 fun x21 w17 =>
 mguard x17 true (fun k => m R (o_bin .eql 3 true x21 (.int .i64 0)) w17 k) w17 fun x22 w18 =>
 m R (o_pick x17 x22 (.bool false)) w18 fun x23 w19 =>
 R (.returned x23) w19
def A_tree_zero : Ann := ⟨[], [], [], [], []⟩
theorem E_tree_zero (x0 : Value) (w : World) (R : Ending → World → Prop) : cwp Try.prog A_tree_zero (Try.f67.body.getD .skip) (retPost Try.prog Try.f67.results.toList R) (argE [x0]) w = F_tree_zero x0 w R := by kernel_rfl
theorem C_tree_zero {x0 : Value} {w : World} {R : Ending → World → Prop} (h : F_tree_zero x0 w R) : Calls Try.prog 67 #[x0] w R :=
 calls_cwp (A := A_tree_zero) (args := [x0]) mixed Try.func67 (c := Try.f67.body.getD .skip) (by kernel_rfl) (by kernel_rfl) (by kernel_rfl) ((E_tree_zero x0 w R).mpr h)
def F_bough_Holds (x0 x1 x2 : Value) (w : World) (R : Ending → World → Prop) : Prop :=
 m R (o_call (fv 111) [x0, x1]) w fun x12 w1 =>
 m R (o_extract x12 0) w1 fun x13 w2 =>
 m R (o_extract x12 1) w2 fun x14 w3 =>
 m R (o_bin .geq 3 false x2 x13) w3 fun x17 w4 =>
 mguard x17 true (fun k => m R (o_move x2) w4 k) w4 fun x19 w5 =>
 mguard x17 true (fun k => m R (o_move x14) w5 k) w5 fun x20 w6 =>
 mguard x17 true (fun k => m R (o_bin .lss 3 false x19 x20) w6 k) w6 fun x21 w7 =>
 m R (o_pick x17 x21 (.bool false)) w7 fun x22 w8 =>
 R (.returned x22) w8
def A_bough_Holds : Ann := ⟨[], [], [], [], []⟩
theorem E_bough_Holds (x0 x1 x2 : Value) (w : World) (R : Ending → World → Prop) : cwp Try.prog A_bough_Holds (Try.f68.body.getD .skip) (retPost Try.prog Try.f68.results.toList R) (argE [x0, x1, x2]) w = F_bough_Holds x0 x1 x2 w R := by kernel_rfl
theorem C_bough_Holds {x0 x1 x2 : Value} {w : World} {R : Ending → World → Prop} (h : F_bough_Holds x0 x1 x2 w R) : Calls Try.prog 68 #[x0, x1, x2] w R :=
 calls_cwp (A := A_bough_Holds) (args := [x0, x1, x2]) mixed Try.func68 (c := Try.f68.body.getD .skip) (by kernel_rfl) (by kernel_rfl) (by kernel_rfl) ((E_bough_Holds x0 x1 x2 w R).mpr h)
def F_slices_Index_api_Leaf_api_Leaf (x0 x1 : Value) (w : World) (R : Ending → World → Prop) : Prop :=
 m R (o_box 36 x1) w fun x3 w1 =>
 m R (o_builtin .len #[24] 3 [false] [x0]) w1 fun x7 w2 =>
 ml1 (.int .i64 0) w2 fun x8 u2 w3 next2 =>
 m R (o_bin .lss 3 false x8 x7) w3 fun x9 w4 =>
 mif x9 (
 dq Try.prog w4 (o_load 36 x3) fun x11 =>
 dp Try.prog (o_indexAddr 24 x0 x8) fun x14 =>
 dq Try.prog w4 (o_load 36 x14) fun x15 =>
 dp Try.prog (o_bin .eql 36 false x11 x15) fun x16 =>
 dend w4 fun w5 =>
 mif x16 (
 R (.returned x8) w5) (
 m R (o_bin .add 3 true x8 (.int .i64 1)) w5 fun x18 w6 =>
 next2 x18 w6)) (
 R (.returned (.int .i64 (-1))) w4)
def A_slices_Index_api_Leaf_api_Leaf : Ann := ⟨[(2, [8], 524080)], [], [(4, [⟨0, .q (some 0), 8, 0, 2048⟩, ⟨1, .q none, 1, 0, 4096⟩, ⟨2, .q none, 32, 0, 8192⟩, ⟨3, .q none, 12288, 6, 16384⟩, ⟨4, .q (some 0), 16384, 14, 32768⟩, ⟨5, .q none, 34816, 31, 65536⟩])], [], []⟩
theorem E_slices_Index_api_Leaf_api_Leaf (x0 x1 : Value) (w : World) (R : Ending → World → Prop) : cwp Try.prog A_slices_Index_api_Leaf_api_Leaf (Try.f69.body.getD .skip) (retPost Try.prog Try.f69.results.toList R) (argE [x0, x1]) w = F_slices_Index_api_Leaf_api_Leaf x0 x1 w R := by kernel_rfl
theorem C_slices_Index_api_Leaf_api_Leaf {x0 x1 : Value} {w : World} {R : Ending → World → Prop} (h : F_slices_Index_api_Leaf_api_Leaf x0 x1 w R) : Calls Try.prog 69 #[x0, x1] w R :=
 calls_cwp (A := A_slices_Index_api_Leaf_api_Leaf) (args := [x0, x1]) mixed Try.func69 (c := Try.f69.body.getD .skip) (by kernel_rfl) (by kernel_rfl) (by kernel_rfl) ((E_slices_Index_api_Leaf_api_Leaf x0 x1 w R).mpr h)
def F_slices_BinarySearch_int_int (x0 x1 : Value) (w : World) (R : Ending → World → Prop) : Prop :=
 m R (o_builtin .len #[29] 3 [false] [x0]) w fun x11 w1 =>
 ml2 (.int .i64 0) x11 w1 fun x7 x8 u3 w2 next3 =>
 m R (o_bin .lss 3 false x7 x8) w2 fun x15 w3 =>
 mif x15 (
 m R (o_bin .add 3 false x7 x8) w3 fun x18 w4 =>
 m R (o_conv 3 120 x18) w4 fun x19 w5 =>
 m R (o_bin .shr 120 true x19 (.int .u64 1)) w5 fun x20 w6 =>
 m R (o_conv 120 3 x20) w6 fun x21 w7 =>
 m R (o_indexAddr 29 x0 x21) w7 fun x24 w8 =>
 m R (o_load 3 x24) w8 fun x25 w9 =>
 m R (o_call (fv 112) [x25, x1]) w9 fun x27 w10 =>
 mif x27 (
 m R (o_bin .add 3 true x21 (.int .i64 1)) w10 fun x29 w11 =>
 next3 x29 x8 w11) (
 next3 x7 x21 w10)) (
 m R (o_bin .lss 3 false x7 x11) w3 fun x34 w12 =>
 mguard x34 true (fun k => m R (o_move x0) w12 k) w12 fun x36 w13 =>
 mguard x34 true (fun k => m R (o_move x7) w13 k) w13 fun x37 w14 =>
 mguard x34 true (fun k => m R (o_indexAddr 29 x36 x37) w14 k) w14 fun x38 w15 =>
 mguard x34 true (fun k => m R (o_load 3 x38) w15 k) w15 fun x39 w16 =>
 mguard x34 true (fun k => m R (o_move x1) w16 k) w16 fun x40 w17 =>
 mguard x34 true (fun k => m R (o_bin .eql 3 false x39 x40) w17 k) w17 fun x41 w18 =>
 mguard x34 true (fun k => m R (o_move x41) w18 k) w18 fun x42 w19 =>
 mguard x42 false (fun k => m R (o_move x0) w19 k) w19 fun x43 w20 =>
 mguard x42 false (fun k => m R (o_move x7) w20 k) w20 fun x44 w21 =>
 mguard x42 false (fun k => m R (o_indexAddr 29 x43 x44) w21 k) w21 fun x45 w22 =>
 mguard x42 false (fun k => m R (o_load 3 x45) w22 k) w22 fun x46 w23 =>
 mguard x42 false (fun k => m R (o_call (fv 113) [x46]) w23 k) w23 fun x47 w24 =>
 mguard x42 false (fun k => m R (o_move x47) w24 k) w24 fun x48 w25 =>
 mguard x48 true (fun k => m R (o_move x1) w25 k) w25 fun x49 w26 =>
 mguard x48 true (fun k => m R (o_call (fv 113) [x49]) w26 k) w26 fun x50 w27 =>
 mguard x42 false (fun k => m R (o_pick x48 x50 (.bool false)) w27 k) w27 fun x51 w28 =>
 mguard x34 true (fun k => m R (o_pick x42 (.bool true) x51) w28 k) w28 fun x52 w29 =>
 m R (o_pick x34 x52 (.bool false)) w29 fun x53 w30 =>
 R (.returned (.tuple #[x7, x53])) w30)
def A_slices_BinarySearch_int_int : Ann := ⟨[(3, [7, 8], 2147476352)], [], [], [], []⟩
theorem E_slices_BinarySearch_int_int (x0 x1 : Value) (w : World) (R : Ending → World → Prop) : cwp Try.prog A_slices_BinarySearch_int_int (Try.f70.body.getD .skip) (retPost Try.prog Try.f70.results.toList R) (argE [x0, x1]) w = F_slices_BinarySearch_int_int x0 x1 w R := by kernel_rfl
theorem C_slices_BinarySearch_int_int {x0 x1 : Value} {w : World} {R : Ending → World → Prop} (h : F_slices_BinarySearch_int_int x0 x1 w R) : Calls Try.prog 70 #[x0, x1] w R :=
 calls_cwp (A := A_slices_BinarySearch_int_int) (args := [x0, x1]) mixed Try.func70 (c := Try.f70.body.getD .skip) (by kernel_rfl) (by kernel_rfl) (by kernel_rfl) ((E_slices_BinarySearch_int_int x0 x1 w R).mpr h)
def F_slices_Insert_int_int (x0 x1 x2 : Value) (w : World) (R : Ending → World → Prop) : Prop :=
 m R (o_slice 29 x0 (some x1) none none) w fun x12 w1 =>
 m R (o_builtin .len #[29] 3 [false] [x2]) w1 fun x14 w2 =>
 m R (o_bin .eql 3 true x14 (.int .i64 0)) w2 fun x16 w3 =>
 mif x16 (
 R (.returned x0) w3) (
 m R (o_builtin .len #[29] 3 [false] [x0]) w3 fun x19 w4 =>
 m R (o_bin .eql 3 false x1 x19) w4 fun x22 w5 =>
 mif x22 (
 m R (o_builtin .append #[29, 29] 29 [false, false] [x0, x2]) w5 fun x25 w6 =>
 R (.returned x25) w6) (
 m R (o_bin .add 3 false x19 x14) w5 fun x28 w7 =>
 m R (o_builtin .cap #[29] 3 [false] [x0]) w7 fun x30 w8 =>
 m R (o_bin .gtr 3 false x28 x30) w8 fun x31 w9 =>
 mif x31 (
 m R (o_slice 29 x0 none (some x1) none) w9 fun x34 w10 =>
 m R (o_bin .add 3 false x19 x14) w10 fun x37 w11 =>
 m R (o_bin .sub 3 false x37 x1) w11 fun x39 w12 =>
 m R (o_builtin .append #[29, 3] 29 [false, false] [x34, x39]) w12 fun x40 w13 =>
 m R (o_slice 29 x40 (some x1) none none) w13 fun x43 w14 =>
 m R (o_builtin .copy #[29, 29] 3 [false, false] [x43, x2]) w14 fun x45 w15 =>
 dp Try.prog (o_bin .add 3 false x1 x14) fun x49 =>
 dp Try.prog (o_slice 29 x40 (some x49) none none) fun x50 =>
 dp Try.prog (o_slice 29 x0 (some x1) none none) fun x53 =>
 df Try.prog w15 (o_builtin .copy #[29, 29] 3 [false, false] [x50, x53]) false fun x54 w16 =>
 dend w16 fun w17 =>
 R (.returned x40) w17) (
 m R (o_bin .add 3 false x19 x14) w9 fun x59 w18 =>
 m R (o_slice 29 x0 none (some x59) none) w18 fun x60 w19 =>
 m R (o_bin .add 3 false x1 x14) w19 fun x65 w20 =>
 m R (o_slice 29 x60 (some x65) none none) w20 fun x66 w21 =>
 m R (o_call (fv 114) [x2, x66]) w21 fun x67 w22 =>
 m R (o_un .not x67) w22 fun x68 w23 =>
 mif x68 (
 dp Try.prog (o_bin .add 3 false x1 x14) fun x72 =>
 dp Try.prog (o_slice 29 x60 (some x72) none none) fun x73 =>
 dp Try.prog (o_slice 29 x60 (some x1) none none) fun x76 =>
 df Try.prog w23 (o_builtin .copy #[29, 29] 3 [false, false] [x73, x76]) false fun x77 w24 =>
 dend w24 fun w25 =>
 m R (o_slice 29 x60 (some x1) none none) w25 fun x80 w26 =>
 m R (o_builtin .copy #[29, 29] 3 [false, false] [x80, x2]) w26 fun x82 w27 =>
 R (.returned x60) w27) (
 m R (o_slice 29 x60 (some x19) none none) w23 fun x86 w28 =>
 m R (o_builtin .copy #[29, 29] 3 [false, false] [x86, x2]) w28 fun x88 w29 =>
 m R (o_slice 29 x60 (some x1) none none) w29 fun x91 w30 =>
 m R (o_call (fv 115) [x91, x14]) w30 fun x93 w31 =>
 R (.returned x60) w31))))
def A_slices_Insert_int_int : Ann := ⟨[], [], [(11, [⟨0, .q none, 512, 0, 70368744177664⟩, ⟨1, .q none, 2, 0, 140737488355328⟩, ⟨2, .q none, 128, 0, 281474976710656⟩, ⟨3, .q none, 422212465065984, 6, 562949953421312⟩, ⟨4, .q none, 633318697598976, 15, 1125899906842624⟩, ⟨5, .q none, 1, 0, 2251799813685248⟩, ⟨6, .q none, 2, 0, 4503599627370496⟩, ⟨7, .q none, 6755399441055744, 96, 9007199254740992⟩, ⟨8, .f 0 false, 10133099161583616, 255, 18014398509481984⟩]), (15, [⟨0, .q none, 1, 0, 590295810358705651712⟩, ⟨1, .q none, 2, 0, 1180591620717411303424⟩, ⟨2, .q none, 128, 0, 2361183241434822606848⟩, ⟨3, .q none, 3541774862152233910272, 6, 4722366482869645213696⟩, ⟨4, .q none, 5312662293228350865408, 15, 9444732965739290427392⟩, ⟨5, .q none, 1, 0, 18889465931478580854784⟩, ⟨6, .q none, 2, 0, 37778931862957161709568⟩, ⟨7, .q none, 56668397794435742564352, 96, 75557863725914323419136⟩, ⟨8, .f 0 false, 85002596691653613846528, 255, 151115727451828646838272⟩])], [], []⟩
theorem E_slices_Insert_int_int (x0 x1 x2 : Value) (w : World) (R : Ending → World → Prop) : cwp Try.prog A_slices_Insert_int_int (Try.f71.body.getD .skip) (retPost Try.prog Try.f71.results.toList R) (argE [x0, x1, x2]) w = F_slices_Insert_int_int x0 x1 x2 w R := by kernel_rfl
theorem C_slices_Insert_int_int {x0 x1 x2 : Value} {w : World} {R : Ending → World → Prop} (h : F_slices_Insert_int_int x0 x1 x2 w R) : Calls Try.prog 71 #[x0, x1, x2] w R :=
 calls_cwp (A := A_slices_Insert_int_int) (args := [x0, x1, x2]) mixed Try.func71 (c := Try.f71.body.getD .skip) (by kernel_rfl) (by kernel_rfl) (by kernel_rfl) ((E_slices_Insert_int_int x0 x1 x2 w R).mpr h)
def F_tree_blank (x0 x1 : Value) (w : World) (R : Ending → World → Prop) : Prop :=
 m R (o_box 27 x0) w fun x2 w1 =>
 m R (o_fieldAddr 27 x2 0) w1 fun x6 w2 =>
 m R (o_load 24 x6) w2 fun x7 w3 =>
 m R (o_builtin .len #[24] 3 [false] [x7]) w3 fun x8 w4 =>
 m R (o_call (fv 60) [x8, x1]) w4 fun x10 w5 =>
 m R (o_builtin .len #[29] 3 [false] [x10]) w5 fun x11 w6 =>
 ml1 (.int .i64 0) w6 fun x12 u2 w7 next2 =>
 m R (o_bin .lss 3 false x12 x11) w7 fun x13 w8 =>
 mif x13 (
 m R (o_indexAddr 29 x10 x12) w8 fun x14 w9 =>
 m R (o_load 3 x14) w9 fun x15 w10 =>
 m R (o_fieldAddr 27 x2 1) w10 fun x16 w11 =>
 m R (o_load 25 x16) w11 fun x17 w12 =>
 m R (o_bin .quo 3 true x15 (.int .i64 2)) w12 fun x19 w13 =>
 m R (o_build 96 []) w13 fun x20 w14 =>
 m R (o_indexAddr 25 x17 x19) w14 fun x21 w15 =>
 m R (o_store 96 x21 x20) w15 fun _ w16 =>
 m R (o_bin .add 3 true x12 (.int .i64 1)) w16 fun x22 w17 =>
 next2 x22 w17) (
 R (.returned (.tuple #[])) w8)
def A_tree_blank : Ann := ⟨[(2, [12], 8384544)], [], [], [], []⟩
theorem E_tree_blank (x0 x1 : Value) (w : World) (R : Ending → World → Prop) : cwp Try.prog A_tree_blank (Try.f72.body.getD .skip) (retPost Try.prog Try.f72.results.toList R) (argE [x0, x1]) w = F_tree_blank x0 x1 w R := by kernel_rfl
theorem C_tree_blank {x0 x1 : Value} {w : World} {R : Ending → World → Prop} (h : F_tree_blank x0 x1 w R) : Calls Try.prog 72 #[x0, x1] w R :=
 calls_cwp (A := A_tree_blank) (args := [x0, x1]) mixed Try.func72 (c := Try.f72.body.getD .skip) (by kernel_rfl) (by kernel_rfl) (by kernel_rfl) ((E_tree_blank x0 x1 w R).mpr h)
def F_slices_IndexFunc_api_Leaf_api_Leaf (x0 x1 : Value) (w : World) (R : Ending → World → Prop) : Prop :=
 m R (o_builtin .len #[24] 3 [false] [x0]) w fun x7 w1 =>
 ml1 (.int .i64 0) w1 fun x8 u2 w2 next2 =>
 m R (o_bin .lss 3 false x8 x7) w2 fun x9 w3 =>
 mif x9 (
 m R (o_indexAddr 24 x0 x8) w3 fun x14 w4 =>
 m R (o_load 36 x14) w4 fun x15 w5 =>
 m R (o_call x1 [x15]) w5 fun x16 w6 =>
 mif x16 (
 R (.returned x8) w6) (
 m R (o_bin .add 3 true x8 (.int .i64 1)) w6 fun x18 w7 =>
 next2 x18 w7)) (
 R (.returned (.int .i64 (-1))) w3)
def A_slices_IndexFunc_api_Leaf_api_Leaf : Ann := ⟨[(2, [8], 524080)], [], [], [], []⟩
theorem E_slices_IndexFunc_api_Leaf_api_Leaf (x0 x1 : Value) (w : World) (R : Ending → World → Prop) : cwp Try.prog A_slices_IndexFunc_api_Leaf_api_Leaf (Try.f75.body.getD .skip) (retPost Try.prog Try.f75.results.toList R) (argE [x0, x1]) w = F_slices_IndexFunc_api_Leaf_api_Leaf x0 x1 w R := by kernel_rfl
theorem C_slices_IndexFunc_api_Leaf_api_Leaf {x0 x1 : Value} {w : World} {R : Ending → World → Prop} (h : F_slices_IndexFunc_api_Leaf_api_Leaf x0 x1 w R) : Calls Try.prog 75 #[x0, x1] w R :=
 calls_cwp (A := A_slices_IndexFunc_api_Leaf_api_Leaf) (args := [x0, x1]) mixed Try.func75 (c := Try.f75.body.getD .skip) (by kernel_rfl) (by kernel_rfl) (by kernel_rfl) ((E_slices_IndexFunc_api_Leaf_api_Leaf x0 x1 w R).mpr h)
def F_tree_Place_1 (x0 x1 : Value) (w : World) (R : Ending → World → Prop) : Prop :=
 m R (o_box 36 x0) w fun x2 w1 =>
 m R (o_fieldAddr 36 x2 0) w1 fun x4 w2 =>
 m R (o_load 3 x4) w2 fun x5 w3 =>
 m R (o_load 3 x1) w3 fun x6 w4 =>
 m R (o_bin .eql 3 false x5 x6) w4 fun x7 w5 =>
 R (.returned x7) w5
def A_tree_Place_1 : Ann := ⟨[], [], [], [], []⟩
theorem E_tree_Place_1 (x0 x1 : Value) (w : World) (R : Ending → World → Prop) : cwp Try.prog A_tree_Place_1 (Try.f76.body.getD .skip) (retPost Try.prog Try.f76.results.toList R) (argE [x0, x1]) w = F_tree_Place_1 x0 x1 w R := by kernel_rfl
theorem C_tree_Place_1 {x0 x1 : Value} {w : World} {R : Ending → World → Prop} (h : F_tree_Place_1 x0 x1 w R) : Calls Try.prog 76 #[x0, x1] w R :=
 calls_cwp (A := A_tree_Place_1) (args := [x0, x1]) mixed Try.func76 (c := Try.f76.body.getD .skip) (by kernel_rfl) (by kernel_rfl) (by kernel_rfl) ((E_tree_Place_1 x0 x1 w R).mpr h)
def F_change_Less (x0 x1 : Value) (w : World) (R : Ending → World → Prop) : Prop :=
 m R (o_box 85 x0) w fun x2 w1 =>
 m R (o_box 85 x1) w1 fun x3 w2 =>
 dp Try.prog (o_fieldAddr 85 x2 4) fun x7 =>
 dp Try.prog (o_fieldAddr 83 x7 0) fun x8 =>
 dq Try.prog w2 (o_load 3 x8) fun x9 =>
 df Try.prog w2 (o_call (fv 118) [x9]) true fun x10 w3 =>
 dp Try.prog (o_fieldAddr 85 x3 4) fun x11 =>
 dp Try.prog (o_fieldAddr 83 x11 0) fun x12 =>
 dq Try.prog w2 (o_load 3 x12) fun x13 =>
 df Try.prog w3 (o_call (fv 118) [x13]) false fun x14 w4 =>
 dend w4 fun w5 =>
 m R (o_bin .lss 3 false x10 x14) w5 fun x17 w6 =>
 mguard x17 false (fun k => m R (o_move x10) w6 k) w6 fun x19 w7 =>
 mguard x17 false (fun k => m R (o_move x14) w7 k) w7 fun x20 w8 =>
 mguard x17 false (fun k => m R (o_bin .eql 3 false x19 x20) w8 k) w8 fun x21 w9 =>
 mguard x17 false (fun k => m R (o_move x21) w9 k) w9 fun x22 w10 =>
 mguard x22 true (fun k => m R (o_fieldAddr 85 x2 4) w10 k) w10 fun x23 w11 =>
 mguard x22 true (fun k => m R (o_fieldAddr 83 x23 1) w11 k) w11 fun x24 w12 =>
 mguard x22 true (fun k => m R (o_load 3 x24) w12 k) w12 fun x25 w13 =>
 mguard x22 true (fun k => m R (o_fieldAddr 85 x3 4) w13 k) w13 fun x26 w14 =>
 mguard x22 true (fun k => m R (o_fieldAddr 83 x26 1) w14 k) w14 fun x27 w15 =>
 mguard x22 true (fun k => m R (o_load 3 x27) w15 k) w15 fun x28 w16 =>
 mguard x22 true (fun k => m R (o_bin .lss 3 false x25 x28) w16 k) w16 fun x29 w17 =>
 mguard x17 false (fun k => m R (o_pick x22 x29 (.bool false)) w17 k) w17 fun x30 w18 =>
 m R (o_pick x17 (.bool true) x30) w18 fun x31 w19 =>
 R (.returned x31) w19
def A_change_Less : Ann := ⟨[], [], [(1, [⟨0, .q none, 4, 0, 128⟩, ⟨1, .q none, 128, 1, 256⟩, ⟨2, .q (some 0), 256, 3, 512⟩, ⟨3, .f 0 true, 512, 7, 1024⟩, ⟨4, .q none, 8, 0, 2048⟩, ⟨5, .q none, 2048, 16, 4096⟩, ⟨6, .q (some 0), 4096, 48, 8192⟩, ⟨7, .f 1 false, 8192, 127, 16384⟩, ⟨8, .q none, 1024, 255, 32⟩, ⟨9, .q none, 16384, 511, 64⟩])], [], []⟩
theorem E_change_Less (x0 x1 : Value) (w : World) (R : Ending → World → Prop) : cwp Try.prog A_change_Less (Try.f78.body.getD .skip) (retPost Try.prog Try.f78.results.toList R) (argE [x0, x1]) w = F_change_Less x0 x1 w R := by kernel_rfl
theorem C_change_Less {x0 x1 : Value} {w : World} {R : Ending → World → Prop} (h : F_change_Less x0 x1 w R) : Calls Try.prog 78 #[x0, x1] w R :=
 calls_cwp (A := A_change_Less) (args := [x0, x1]) mixed Try.func78 (c := Try.f78.body.getD .skip) (by kernel_rfl) (by kernel_rfl) (by kernel_rfl) ((E_change_Less x0 x1 w R).mpr h)
def F_change_Check (x0 x1 : Value) (w : World) (R : Ending → World → Prop) : Prop :=
 m R (o_box 85 x0) w fun x2 w1 =>
 m R (o_box 34 x1) w1 fun x3 w2 =>
 dq Try.prog w2 (o_load 85 x2) fun x5 =>
 df Try.prog w2 (o_call (fv 82) [x5]) false fun x6 w3 =>
 qguard x6 true (fun k => dq Try.prog w3 (o_load 34 x3) k) fun x8 =>
 qguard x6 true (fun k => dq Try.prog w3 (o_load 85 x2) k) fun x9 =>
 mguard x6 true (fun k => df Try.prog w3 (o_call (fv 120) [x9]) true k) w3 fun x10 w4 =>
 qguard x6 true (fun k => dp Try.prog (o_fieldAddr 85 x2 5) k) fun x11 =>
 qguard x6 true (fun k => dq Try.prog w3 (o_load 34 x11) k) fun x12 =>
 mguard x6 true (fun k => df Try.prog w4 (o_call (fv 119) [x8, x10, x12]) false k) w4 fun x13 w5 =>
 dp Try.prog (o_pick x6 x13 (.bool false)) fun x14 =>
 dend w5 fun w6 =>
 R (.returned x14) w6
def A_change_Check : Ann := ⟨[], [], [(1, [⟨0, .q (some 0), 4, 0, 32⟩, ⟨1, .f 0 false, 32, 1, 64⟩, ⟨2, .q none, 64, 3, 128⟩, ⟨3, .q (some 1), 136, 7, 256⟩, ⟨4, .q (some 1), 132, 7, 512⟩, ⟨5, .f 1 true, 640, 23, 1024⟩, ⟨6, .q none, 132, 7, 2048⟩, ⟨7, .q (some 1), 2176, 71, 4096⟩, ⟨8, .f 2 false, 5504, 255, 8192⟩, ⟨9, .q none, 8320, 511, 16384⟩, ⟨10, .q none, 16384, 1023, 16⟩])], [], []⟩
theorem E_change_Check (x0 x1 : Value) (w : World) (R : Ending → World → Prop) : cwp Try.prog A_change_Check (Try.f79.body.getD .skip) (retPost Try.prog Try.f79.results.toList R) (argE [x0, x1]) w = F_change_Check x0 x1 w R := by kernel_rfl
theorem C_change_Check {x0 x1 : Value} {w : World} {R : Ending → World → Prop} (h : F_change_Check x0 x1 w R) : Calls Try.prog 79 #[x0, x1] w R :=
 calls_cwp (A := A_change_Check) (args := [x0, x1]) mixed Try.func79 (c := Try.f79.body.getD .skip) (by kernel_rfl) (by kernel_rfl) (by kernel_rfl) ((E_change_Check x0 x1 w R).mpr h)
def F_change_Sign (x0 x1 : Value) (w : World) (R : Ending → World → Prop) : Prop :=
 m R (o_box 85 x0) w fun x2 w1 =>
 m R (o_box 34 x1) w1 fun x3 w2 =>
 m R (o_alloc 85) w2 fun x4 w3 =>
 mj0 (fun j3 =>
 m R (o_load 85 x2) w3 fun x5 w4 =>
 m R (o_call (fv 82) [x5]) w4 fun x6 w5 =>
 mif x6 (
 dq Try.prog w5 (o_load 34 x3) fun x7 =>
 dq Try.prog w5 (o_load 85 x2) fun x8 =>
 df Try.prog w5 (o_call (fv 120) [x8]) true fun x9 w6 =>
 df Try.prog w6 (o_call (fv 121) [x7, x9]) false fun x10 w7 =>
 dp Try.prog (o_fieldAddr 85 x2 5) fun x11 =>
 df Try.prog w7 (o_store 34 x11 x10) false fun _ w8 =>
 dend w8 fun w9 =>
 j3 w9) (
 j3 w5)) fun u3 w10 =>
 m R (o_load 85 x2) w10 fun x12 w11 =>
 m R (o_store 85 x4 x12) w11 fun _ w12 =>
 rcell Try.prog 85 x4 w12 fun r4 =>
 R (.returned r4) w12
def A_change_Sign : Ann := ⟨[], [(3, [], 4064)], [(2, [⟨0, .q (some 0), 8, 0, 128⟩, ⟨1, .q (some 0), 4, 0, 256⟩, ⟨2, .f 0 true, 256, 2, 512⟩, ⟨3, .f 1 false, 640, 7, 1024⟩, ⟨4, .q none, 4, 15, 2048⟩, ⟨5, .f 2 false, 3072, 31, 0⟩])], [], []⟩
theorem E_change_Sign (x0 x1 : Value) (w : World) (R : Ending → World → Prop) : cwp Try.prog A_change_Sign (Try.f80.body.getD .skip) (retPost Try.prog Try.f80.results.toList R) (argE [x0, x1]) w = F_change_Sign x0 x1 w R := by kernel_rfl
theorem C_change_Sign {x0 x1 : Value} {w : World} {R : Ending → World → Prop} (h : F_change_Sign x0 x1 w R) : Calls Try.prog 80 #[x0, x1] w R :=
 calls_cwp (A := A_change_Sign) (args := [x0, x1]) mixed Try.func80 (c := Try.f80.body.getD .skip) (by kernel_rfl) (by kernel_rfl) (by kernel_rfl) ((E_change_Sign x0 x1 w R).mpr h)
def F_bevylaw10_verify (x0 : Value) (w : World) (R : Ending → World → Prop) : Prop :=
 m R (o_box 34 x0) w fun x1 w1 =>
 m R (o_alloc 34) w1 fun x2 w2 =>
 m R (o_load 34 x1) w2 fun x3 w3 =>
 m R (o_call (fv 122) [x3]) w3 fun x4 w4 =>
 m R (o_store 34 x2 x4) w4 fun _ w5 =>
 rcell Try.prog 34 x2 w5 fun r2 =>
 R (.returned r2) w5
def A_bevylaw10_verify : Ann := ⟨[], [], [], [], []⟩
theorem E_bevylaw10_verify (x0 : Value) (w : World) (R : Ending → World → Prop) : cwp Try.prog A_bevylaw10_verify (Try.f81.body.getD .skip) (retPost Try.prog Try.f81.results.toList R) (argE [x0]) w = F_bevylaw10_verify x0 w R := by kernel_rfl
theorem C_bevylaw10_verify {x0 : Value} {w : World} {R : Ending → World → Prop} (h : F_bevylaw10_verify x0 w R) : Calls Try.prog 81 #[x0] w R :=
 calls_cwp (A := A_bevylaw10_verify) (args := [x0]) mixed Try.func81 (c := Try.f81.body.getD .skip) (by kernel_rfl) (by kernel_rfl) (by kernel_rfl) ((E_bevylaw10_verify x0 w R).mpr h)
def F_change_Right (x0 : Value) (w : World) (R : Ending → World → Prop) : Prop :=
 m R (o_box 85 x0) w fun x1 w1 =>
 m R (o_fieldAddr 85 x1 4) w1 fun x4 w2 =>
 m R (o_load 83 x4) w2 fun x5 w3 =>
 m R (o_alloc 83) w3 fun x3 w4 =>
 m R (o_store 83 x3 x5) w4 fun _ w5 =>
 mj1 (fun j3 =>
 m R (o_fieldAddr 85 x1 1) w5 fun x6 w6 =>
 m R (o_load 3 x6) w6 fun x7 w7 =>
 m R (o_bin .lss 3 true x7 (.int .i64 0)) w7 fun x8 w8 =>
 mguard x8 false (fun k => m R (o_fieldAddr 85 x1 1) w8 k) w8 fun x10 w9 =>
 mguard x8 false (fun k => m R (o_load 3 x10) w9 k) w9 fun x11 w10 =>
 mguard x8 false (fun k => m R (o_bin .gtr 3 true x11 (.int .i64 4611686018427387903)) w10 k) w10 fun x12 w11 =>
 m R (o_pick x8 (.bool true) x12) w11 fun x13 w12 =>
 mguard x13 false (fun k => m R (o_fieldAddr 85 x1 2) w12 k) w12 fun x15 w13 =>
 mguard x13 false (fun k => m R (o_load 3 x15) w13 k) w13 fun x16 w14 =>
 mguard x13 false (fun k => m R (o_call (fv 123) [x16]) w14 k) w14 fun x17 w15 =>
 mguard x13 false (fun k => m R (o_un .not x17) w15 k) w15 fun x18 w16 =>
 m R (o_pick x13 (.bool true) x18) w16 fun x19 w17 =>
 mguard x19 false (fun k => m R (o_fieldAddr 83 x3 1) w17 k) w17 fun x21 w18 =>
 mguard x19 false (fun k => m R (o_load 3 x21) w18 k) w18 fun x22 w19 =>
 mguard x19 false (fun k => m R (o_call (fv 123) [x22]) w19 k) w19 fun x23 w20 =>
 mguard x19 false (fun k => m R (o_un .not x23) w20 k) w20 fun x24 w21 =>
 m R (o_pick x19 (.bool true) x24) w21 fun x25 w22 =>
 mguard x25 false (fun k => m R (o_fieldAddr 85 x1 3) w22 k) w22 fun x27 w23 =>
 mguard x25 false (fun k => m R (o_load 3 x27) w23 k) w23 fun x28 w24 =>
 mguard x25 false (fun k => m R (o_bin .lss 3 true x28 (.int .i64 1)) w24 k) w24 fun x29 w25 =>
 m R (o_pick x25 (.bool true) x29) w25 fun x30 w26 =>
 mguard x30 false (fun k => m R (o_fieldAddr 85 x1 3) w26 k) w26 fun x32 w27 =>
 mguard x30 false (fun k => m R (o_load 3 x32) w27 k) w27 fun x33 w28 =>
 mguard x30 false (fun k => m R (o_bin .gtr 3 true x33 (.int .i64 4611686018427387903)) w28 k) w28 fun x34 w29 =>
 m R (o_pick x30 (.bool true) x34) w29 fun x35 w30 =>
 j3 x35 w30) fun x35 u3 w31 =>
 mif x35 (
 R (.returned (.bool false)) w31) (
 m R (o_fieldAddr 83 x3 0) w31 fun x36 w32 =>
 m R (o_load 3 x36) w32 fun x37 w33 =>
 m R (o_bin .eql 3 true x37 (.int .i64 2)) w33 fun x39 w34 =>
 mif x39 (
 m R (o_fieldAddr 83 x3 1) w34 fun x40 w35 =>
 m R (o_load 3 x40) w35 fun x41 w36 =>
 m R (o_fieldAddr 85 x1 2) w36 fun x42 w37 =>
 m R (o_load 3 x42) w37 fun x43 w38 =>
 m R (o_bin .eql 3 false x41 x43) w38 fun x44 w39 =>
 R (.returned x44) w39) (
 mj1 (fun j9 =>
 m R (o_bin .eql 3 true x37 (.int .i64 1)) w34 fun x46 w40 =>
 mif x46 (
 j9 x46 w40) (
 m R (o_bin .eql 3 true x37 (.int .i64 3)) w40 fun x47 w41 =>
 j9 x47 w41)) fun x45 u9 w42 =>
 mif x45 (
 m R (o_fieldAddr 83 x3 2) w42 fun x48 w43 =>
 m R (o_load 34 x48) w43 fun x49 w44 =>
 m R (o_build 34 []) w44 fun x50 w45 =>
 m R (o_bin .eql 34 false x49 x50) w45 fun x51 w46 =>
 R (.returned x51) w46) (
 R (.returned (.bool false)) w42)))
def A_change_Right : Ann := ⟨[], [(3, [35], 68719476672), (9, [45], 246290604621824)], [], [], []⟩
theorem E_change_Right (x0 : Value) (w : World) (R : Ending → World → Prop) : cwp Try.prog A_change_Right (Try.f82.body.getD .skip) (retPost Try.prog Try.f82.results.toList R) (argE [x0]) w = F_change_Right x0 w R := by kernel_rfl
theorem C_change_Right {x0 : Value} {w : World} {R : Ending → World → Prop} (h : F_change_Right x0 w R) : Calls Try.prog 82 #[x0] w R :=
 calls_cwp (A := A_change_Right) (args := [x0]) mixed Try.func82 (c := Try.f82.body.getD .skip) (by kernel_rfl) (by kernel_rfl) (by kernel_rfl) ((E_change_Right x0 w R).mpr h)
def F_slices_Clone_api_Leaf_api_Leaf (x0 : Value) (w : World) (R : Ending → World → Prop) : Prop :=
 m R (o_bin .eql 24 true x0 (.slice none 0 0)) w fun x4 w1 =>
 mif x4 (
 R (.returned (.slice none 0 0)) w1) (
 m R (o_buildSlice 24 0 []) w1 fun x5 w2 =>
 m R (o_builtin .append #[24, 24] 24 [false, false] [x5, x0]) w2 fun x7 w3 =>
 R (.returned x7) w3)
def A_slices_Clone_api_Leaf_api_Leaf : Ann := ⟨[], [], [], [], []⟩
theorem E_slices_Clone_api_Leaf_api_Leaf (x0 : Value) (w : World) (R : Ending → World → Prop) : cwp Try.prog A_slices_Clone_api_Leaf_api_Leaf (Try.f83.body.getD .skip) (retPost Try.prog Try.f83.results.toList R) (argE [x0]) w = F_slices_Clone_api_Leaf_api_Leaf x0 w R := by kernel_rfl
theorem C_slices_Clone_api_Leaf_api_Leaf {x0 : Value} {w : World} {R : Ending → World → Prop} (h : F_slices_Clone_api_Leaf_api_Leaf x0 w R) : Calls Try.prog 83 #[x0] w R :=
 calls_cwp (A := A_slices_Clone_api_Leaf_api_Leaf) (args := [x0]) mixed Try.func83 (c := Try.f83.body.getD .skip) (by kernel_rfl) (by kernel_rfl) (by kernel_rfl) ((E_slices_Clone_api_Leaf_api_Leaf x0 w R).mpr h)
def F_slices_Clone_api_Parent_api_Parent (x0 : Value) (w : World) (R : Ending → World → Prop) : Prop :=
 m R (o_bin .eql 25 true x0 (.slice none 0 0)) w fun x4 w1 =>
 mif x4 (
 R (.returned (.slice none 0 0)) w1) (
 m R (o_buildSlice 25 0 []) w1 fun x5 w2 =>
 m R (o_builtin .append #[25, 25] 25 [false, false] [x5, x0]) w2 fun x7 w3 =>
 R (.returned x7) w3)
def A_slices_Clone_api_Parent_api_Parent : Ann := ⟨[], [], [], [], []⟩
theorem E_slices_Clone_api_Parent_api_Parent (x0 : Value) (w : World) (R : Ending → World → Prop) : cwp Try.prog A_slices_Clone_api_Parent_api_Parent (Try.f84.body.getD .skip) (retPost Try.prog Try.f84.results.toList R) (argE [x0]) w = F_slices_Clone_api_Parent_api_Parent x0 w R := by kernel_rfl
theorem C_slices_Clone_api_Parent_api_Parent {x0 : Value} {w : World} {R : Ending → World → Prop} (h : F_slices_Clone_api_Parent_api_Parent x0 w R) : Calls Try.prog 84 #[x0] w R :=
 calls_cwp (A := A_slices_Clone_api_Parent_api_Parent) (args := [x0]) mixed Try.func84 (c := Try.f84.body.getD .skip) (by kernel_rfl) (by kernel_rfl) (by kernel_rfl) ((E_slices_Clone_api_Parent_api_Parent x0 w R).mpr h)
def F_slices_Clone_int_int (x0 : Value) (w : World) (R : Ending → World → Prop) : Prop :=
 m R (o_bin .eql 29 true x0 (.slice none 0 0)) w fun x4 w1 =>
 mif x4 (
 R (.returned (.slice none 0 0)) w1) (
 m R (o_buildSlice 29 0 []) w1 fun x5 w2 =>
 m R (o_builtin .append #[29, 29] 29 [false, false] [x5, x0]) w2 fun x7 w3 =>
 R (.returned x7) w3)
def A_slices_Clone_int_int : Ann := ⟨[], [], [], [], []⟩
theorem E_slices_Clone_int_int (x0 : Value) (w : World) (R : Ending → World → Prop) : cwp Try.prog A_slices_Clone_int_int (Try.f85.body.getD .skip) (retPost Try.prog Try.f85.results.toList R) (argE [x0]) w = F_slices_Clone_int_int x0 w R := by kernel_rfl
theorem C_slices_Clone_int_int {x0 : Value} {w : World} {R : Ending → World → Prop} (h : F_slices_Clone_int_int x0 w R) : Calls Try.prog 85 #[x0] w R :=
 calls_cwp (A := A_slices_Clone_int_int) (args := [x0]) mixed Try.func85 (c := Try.f85.body.getD .skip) (by kernel_rfl) (by kernel_rfl) (by kernel_rfl) ((E_slices_Clone_int_int x0 w R).mpr h)
def F_change_card (x0 x1 x2 : Value) (w : World) (R : Ending → World → Prop) : Prop :=
 m R (o_box 70 x0) w fun x3 w1 =>
 m R (o_alloc 36) w1 fun x6 w2 =>
 mj1 (fun j2 =>
 m R (o_call (fv 123) [x2]) w2 fun x11 w3 =>
 m R (o_un .not x11) w3 fun x12 w4 =>
 mguard x12 false (fun k => m R (o_move x2) w4 k) w4 fun x14 w5 =>
 mguard x12 false (fun k => m R (o_move x1) w5 k) w5 fun x15 w6 =>
 mguard x12 false (fun k => m R (o_builtin .len #[71] 3 [false] [x15]) w6 k) w6 fun x16 w7 =>
 mguard x12 false (fun k => m R (o_bin .gtr 3 false x14 x16) w7 k) w7 fun x17 w8 =>
 m R (o_pick x12 (.bool true) x17) w8 fun x18 w9 =>
 j2 x18 w9) fun x18 u2 w10 =>
 mif x18 (
 m R (o_build 36 []) w10 fun x19 w11 =>
 m R (o_store 36 x6 x19) w11 fun _ w12 =>
 rcell Try.prog 36 x6 w12 fun r6 =>
 R (.returned (.tuple #[r6, (.int .i64 7)])) w12) (
 ∃ S : Rl,
 dp Try.prog (o_bin .sub 3 true x2 (.int .i64 1)) fun x22 =>
 dp Try.prog (o_indexAddr 71 x1 x22) fun x23 =>
 dqS Try.prog S w10 (o_load 90 x23) fun x24 =>
 dp Try.prog (o_bin .sub 3 true x2 (.int .i64 1)) fun x26 =>
 dp Try.prog (o_indexAddr 70 x3 x26) fun x27 =>
 dqS Try.prog S w10 (o_load 3 x27) fun x28 =>
 dfS Try.prog S w10 (o_alloc 90) true fun x8 w13 =>
 dfS Try.prog S w13 (o_store 90 x8 x24) true fun _ w14 =>
 dend w14 fun w15 =>
 mj1 (fun j5 =>
 m R (o_bin .lss 3 true x28 (.int .i64 0)) w15 fun x30 w16 =>
 mguard x30 false (fun k => m R (o_move x28) w16 k) w16 fun x32 w17 =>
 mguard x30 false (fun k => m R (o_fieldAddr 90 x8 1) w17 k) w17 fun x33 w18 =>
 mguard x30 false (fun k => m R (o_load 88 x33) w18 k) w18 fun x34 w19 =>
 mguard x30 false (fun k => m R (o_builtin .len #[88] 3 [false] [x34]) w19 k) w19 fun x35 w20 =>
 mguard x30 false (fun k => m R (o_bin .geq 3 false x32 x35) w20 k) w20 fun x36 w21 =>
 m R (o_pick x30 (.bool true) x36) w21 fun x37 w22 =>
 j5 x37 w22) fun x37 u5 w23 =>
 mif x37 (
 m R (o_build 36 []) w23 fun x38 w24 =>
 m R (o_store 36 x6 x38) w24 fun _ w25 =>
 rcell Try.prog 36 x6 w25 fun r6 =>
 R (.returned (.tuple #[r6, (.int .i64 10)])) w25) (
 dp Try.prog (o_fieldAddr 90 x8 1) fun x40 =>
 dq Try.prog w23 (o_load 88 x40) fun x41 =>
 dp Try.prog (o_indexAddr 88 x41 x28) fun x43 =>
 dp Try.prog (o_fieldAddr 87 x43 1) fun x44 =>
 dq Try.prog w23 (o_load 34 x44) fun x45 =>
 dp Try.prog (o_fieldAddr 90 x8 0) fun x46 =>
 dq Try.prog w23 (o_load 34 x46) fun x47 =>
 dp Try.prog (o_build 36 [(0, x2), (1, x45), (2, x47)]) fun x48 =>
 df Try.prog w23 (o_store 36 x6 x48) false fun _ w26 =>
 dend w26 fun w27 =>
 rcell Try.prog 36 x6 w27 fun r6 =>
 R (.returned (.tuple #[r6, (.int .i64 0)])) w27))
def A_change_card : Ann := ⟨[], [(2, [18], 523264), (5, [37], 274341036032)], [(3, [⟨0, .q none, 2, 0, 1048576⟩, ⟨1, .q none, 4, 0, 2097152⟩, ⟨2, .q none, 2097152, 2, 4194304⟩, ⟨3, .q none, 5242880, 7, 8388608⟩, ⟨4, .q (some 0), 8388608, 15, 16777216⟩, ⟨5, .q none, 4, 0, 33554432⟩, ⟨6, .q none, 33554432, 32, 67108864⟩, ⟨7, .q none, 67108872, 96, 134217728⟩, ⟨8, .q (some 0), 134217728, 224, 268435456⟩, ⟨9, .f 0 true, 0, 0, 256⟩, ⟨10, .f 1 true, 16777472, 543, 0⟩, ⟨11, .q none, 268435456, 2047, 512⟩]), (6, [⟨0, .q none, 4, 0, 549755813888⟩, ⟨1, .q none, 256, 0, 1099511627776⟩, ⟨2, .q (some 0), 1099511627776, 2, 2199023255552⟩, ⟨3, .q none, 512, 0, 4398046511104⟩, ⟨4, .q none, 6597069766656, 14, 8796093022208⟩, ⟨5, .q none, 8796093022208, 30, 17592186044416⟩, ⟨6, .q (some 0), 17592186044416, 62, 35184372088832⟩, ⟨7, .q none, 256, 0, 70368744177664⟩, ⟨8, .q (some 0), 70368744177664, 128, 140737488355328⟩, ⟨9, .q none, 176471616258048, 511, 281474976710656⟩, ⟨10, .f 0 false, 281474976710720, 1023, 0⟩, ⟨11, .q none, 0, 2047, 128⟩])], [], [3]⟩
theorem E_change_card (x0 x1 x2 : Value) (w : World) (R : Ending → World → Prop) : cwp Try.prog A_change_card (Try.f86.body.getD .skip) (retPost Try.prog Try.f86.results.toList R) (argE [x0, x1, x2]) w = F_change_card x0 x1 x2 w R := by kernel_rfl
theorem C_change_card {x0 x1 x2 : Value} {w : World} {R : Ending → World → Prop} (h : F_change_card x0 x1 x2 w R) : Calls Try.prog 86 #[x0, x1, x2] w R :=
 calls_cwp (A := A_change_card) (args := [x0, x1, x2]) mixed Try.func86 (c := Try.f86.body.getD .skip) (by kernel_rfl) (by kernel_rfl) (by kernel_rfl) ((E_change_card x0 x1 x2 w R).mpr h)
def F_bough_there (x0 x1 : Value) (w : World) (R : Ending → World → Prop) : Prop :=
 m R (o_bin .geq 3 true x0 (.int .i64 1)) w fun x6 w1 =>
 mguard x6 true (fun k => m R (o_move x0) w1 k) w1 fun x8 w2 =>
 mguard x6 true (fun k => m R (o_bin .leq 3 true x8 (.int .i64 64)) w2 k) w2 fun x9 w3 =>
 m R (o_pick x6 x9 (.bool false)) w3 fun x10 w4 =>
 mguard x10 true (fun k => m R (o_move x1) w4 k) w4 fun x12 w5 =>
 mguard x10 true (fun k => m R (o_bin .geq 3 true x12 (.int .i64 0)) w5 k) w5 fun x13 w6 =>
 m R (o_pick x10 x13 (.bool false)) w6 fun x14 w7 =>
 mguard x14 true (fun k => m R (o_move x1) w7 k) w7 fun x16 w8 =>
 mguard x14 true (fun k => m R (o_move x0) w8 k) w8 fun x17 w9 =>
 mguard x14 true (fun k => m R (o_bin .mul 3 true (.int .i64 2) x17) w9 k) w9 fun x18 w10 =>
 mguard x14 true (fun k => m R (o_bin .sub 3 true x18 (.int .i64 2)) w10 k) w10 fun x19 w11 =>
 mguard x14 true (fun k => m R (o_bin .leq 3 false x16 x19) w11 k) w11 fun x20 w12 =>
 m R (o_pick x14 x20 (.bool false)) w12 fun x21 w13 =>
 R (.returned x21) w13
def A_bough_there : Ann := ⟨[], [], [], [], []⟩
theorem E_bough_there (x0 x1 : Value) (w : World) (R : Ending → World → Prop) : cwp Try.prog A_bough_there (Try.f89.body.getD .skip) (retPost Try.prog Try.f89.results.toList R) (argE [x0, x1]) w = F_bough_there x0 x1 w R := by kernel_rfl
theorem C_bough_there {x0 x1 : Value} {w : World} {R : Ending → World → Prop} (h : F_bough_there x0 x1 w R) : Calls Try.prog 89 #[x0, x1] w R :=
 calls_cwp (A := A_bough_there) (args := [x0, x1]) mixed Try.func89 (c := Try.f89.body.getD .skip) (by kernel_rfl) (by kernel_rfl) (by kernel_rfl) ((E_bough_there x0 x1 w R).mpr h)
def F_bough_level (x0 : Value) (w : World) (R : Ending → World → Prop) : Prop :=
 ml2 x0 (.int .i64 0) w fun x0 x3 u2 w1 next2 =>
 m R (o_bin .and 3 true x0 (.int .i64 1)) w1 fun x5 w2 =>
 m R (o_bin .eql 3 true x5 (.int .i64 1)) w2 fun x6 w3 =>
 mif x6 (
 m R (o_bin .shr 3 true x0 (.int .u64 1)) w3 fun x8 w4 =>
 m R (o_bin .add 3 true x3 (.int .i64 1)) w4 fun x10 w5 =>
 next2 x8 x10 w5) (
 R (.returned x3) w3)
def A_bough_level : Ann := ⟨[(2, [0, 3], 2041)], [], [], [], []⟩
theorem E_bough_level (x0 : Value) (w : World) (R : Ending → World → Prop) : cwp Try.prog A_bough_level (Try.f90.body.getD .skip) (retPost Try.prog Try.f90.results.toList R) (argE [x0]) w = F_bough_level x0 w R := by kernel_rfl
theorem C_bough_level {x0 : Value} {w : World} {R : Ending → World → Prop} (h : F_bough_level x0 w R) : Calls Try.prog 90 #[x0] w R :=
 calls_cwp (A := A_bough_level) (args := [x0]) mixed Try.func90 (c := Try.f90.body.getD .skip) (by kernel_rfl) (by kernel_rfl) (by kernel_rfl) ((E_bough_level x0 w R).mpr h)
def F_sha_rounds (w : World) (R : Ending → World → Prop) : Prop :=
 m R (o_alloc 141) w fun x0 w1 =>
 m R (o_build 141 [(0, (.int .u32 1116352408)), (1, (.int .u32 1899447441)), (2, (.int .u32 3049323471)), (3, (.int .u32 3921009573)), (4, (.int .u32 961987163)), (5, (.int .u32 1508970993)), (6, (.int .u32 2453635748)), (7, (.int .u32 2870763221)), (8, (.int .u32 3624381080)), (9, (.int .u32 310598401)), (10, (.int .u32 607225278)), (11, (.int .u32 1426881987)), (12, (.int .u32 1925078388)), (13, (.int .u32 2162078206)), (14, (.int .u32 2614888103)), (15, (.int .u32 3248222580)), (16, (.int .u32 3835390401)), (17, (.int .u32 4022224774)), (18, (.int .u32 264347078)), (19, (.int .u32 604807628)), (20, (.int .u32 770255983)), (21, (.int .u32 1249150122)), (22, (.int .u32 1555081692)), (23, (.int .u32 1996064986)), (24, (.int .u32 2554220882)), (25, (.int .u32 2821834349)), (26, (.int .u32 2952996808)), (27, (.int .u32 3210313671)), (28, (.int .u32 3336571891)), (29, (.int .u32 3584528711)), (30, (.int .u32 113926993)), (31, (.int .u32 338241895)), (32, (.int .u32 666307205)), (33, (.int .u32 773529912)), (34, (.int .u32 1294757372)), (35, (.int .u32 1396182291)), (36, (.int .u32 1695183700)), (37, (.int .u32 1986661051)), (38, (.int .u32 2177026350)), (39, (.int .u32 2456956037)), (40, (.int .u32 2730485921)), (41, (.int .u32 2820302411)), (42, (.int .u32 3259730800)), (43, (.int .u32 3345764771)), (44, (.int .u32 3516065817)), (45, (.int .u32 3600352804)), (46, (.int .u32 4094571909)), (47, (.int .u32 275423344)), (48, (.int .u32 430227734)), (49, (.int .u32 506948616)), (50, (.int .u32 659060556)), (51, (.int .u32 883997877)), (52, (.int .u32 958139571)), (53, (.int .u32 1322822218)), (54, (.int .u32 1537002063)), (55, (.int .u32 1747873779)), (56, (.int .u32 1955562222)), (57, (.int .u32 2024104815)), (58, (.int .u32 2227730452)), (59, (.int .u32 2361852424)), (60, (.int .u32 2428436474)), (61, (.int .u32 2756734187)), (62, (.int .u32 3204031479)), (63, (.int .u32 3329325298))]) w1 fun x1 w2 =>
 m R (o_store 141 x0 x1) w2 fun _ w3 =>
 rcell Try.prog 141 x0 w3 fun r0 =>
 R (.returned r0) w3
def A_sha_rounds : Ann := ⟨[], [], [], [], []⟩
theorem E_sha_rounds (w : World) (R : Ending → World → Prop) : cwp Try.prog A_sha_rounds (Try.f93.body.getD .skip) (retPost Try.prog Try.f93.results.toList R) (argE []) w = F_sha_rounds w R := by kernel_rfl
theorem C_sha_rounds {w : World} {R : Ending → World → Prop} (h : F_sha_rounds w R) : Calls Try.prog 93 #[] w R :=
 calls_cwp (A := A_sha_rounds) (args := []) mixed Try.func93 (c := Try.f93.body.getD .skip) (by kernel_rfl) (by kernel_rfl) (by kernel_rfl) ((E_sha_rounds w R).mpr h)
def F_sha_state_put (x0 x1 : Value) (w : World) (R : Ending → World → Prop) : Prop :=
 ml1 x1 w fun x1 u0 w1 next0 =>
 m R (o_builtin .len #[9] 3 [false] [x1]) w1 fun x6 w2 =>
 m R (o_bin .gtr 3 true x6 (.int .i64 0)) w2 fun x7 w3 =>
 mif x7 (
 dp Try.prog (o_nilCheck x0) fun x9 =>
 dp Try.prog (o_fieldAddr 145 x9 1) fun x10 =>
 dp Try.prog (o_nilCheck x0) fun x12 =>
 dp Try.prog (o_fieldAddr 145 x12 2) fun x13 =>
 dq Try.prog w3 (o_load 3 x13) fun x14 =>
 dp Try.prog (o_bin .rem 3 true x14 (.int .i64 64)) fun x15 =>
 dp Try.prog (o_slice 143 x10 (some x15) none none) fun x16 =>
 df Try.prog w3 (o_builtin .copy #[106, 9] 3 [false, false] [x16, x1]) false fun x18 w4 =>
 dend w4 fun w5 =>
 m R (o_slice 9 x1 (some x18) none none) w5 fun x21 w6 =>
 m R (o_nilCheck x0) w6 fun x23 w7 =>
 m R (o_fieldAddr 145 x23 2) w7 fun x24 w8 =>
 m R (o_load 3 x24) w8 fun x25 w9 =>
 m R (o_bin .add 3 false x25 x18) w9 fun x27 w10 =>
 m R (o_nilCheck x0) w10 fun x28 w11 =>
 m R (o_fieldAddr 145 x28 2) w11 fun x29 w12 =>
 m R (o_store 3 x29 x27) w12 fun _ w13 =>
 m R (o_nilCheck x0) w13 fun x31 w14 =>
 m R (o_fieldAddr 145 x31 2) w14 fun x32 w15 =>
 m R (o_load 3 x32) w15 fun x33 w16 =>
 m R (o_bin .rem 3 true x33 (.int .i64 64)) w16 fun x34 w17 =>
 m R (o_bin .eql 3 true x34 (.int .i64 0)) w17 fun x35 w18 =>
 mif x35 (
 m R (o_call (fv 127) [x0]) w18 fun x37 w19 =>
 next0 x21 w19) (
 next0 x21 w18)) (
 R (.returned (.tuple #[])) w3)
def A_sha_state_put : Ann := ⟨[(0, [1], 274877906930)], [], [(1, [⟨0, .q none, 1, 0, 256⟩, ⟨1, .q none, 256, 1, 512⟩, ⟨2, .q none, 512, 3, 1024⟩, ⟨3, .q none, 1, 0, 2048⟩, ⟨4, .q none, 2048, 8, 4096⟩, ⟨5, .q none, 4096, 24, 8192⟩, ⟨6, .q (some 0), 8192, 56, 16384⟩, ⟨7, .q none, 16384, 120, 32768⟩, ⟨8, .q none, 33792, 255, 65536⟩, ⟨9, .q none, 2, 0, 131072⟩, ⟨10, .f 0 false, 196608, 1023, 262144⟩, ⟨11, .q none, 262144, 2047, 16⟩])], [], []⟩
theorem E_sha_state_put (x0 x1 : Value) (w : World) (R : Ending → World → Prop) : cwp Try.prog A_sha_state_put (Try.f94.body.getD .skip) (retPost Try.prog Try.f94.results.toList R) (argE [x0, x1]) w = F_sha_state_put x0 x1 w R := by kernel_rfl
theorem C_sha_state_put {x0 x1 : Value} {w : World} {R : Ending → World → Prop} (h : F_sha_state_put x0 x1 w R) : Calls Try.prog 94 #[x0, x1] w R :=
 calls_cwp (A := A_sha_state_put) (args := [x0, x1]) mixed Try.func94 (c := Try.f94.body.getD .skip) (by kernel_rfl) (by kernel_rfl) (by kernel_rfl) ((E_sha_state_put x0 x1 w R).mpr h)
def F_wire_New (w : World) (R : Ending → World → Prop) : Prop :=
 m R (o_build 173 []) w fun x1 w1 =>
 m R (o_box 173 x1) w1 fun x2 w2 =>
 R (.returned x2) w2
def A_wire_New : Ann := ⟨[], [], [], [], []⟩
theorem E_wire_New (w : World) (R : Ending → World → Prop) : cwp Try.prog A_wire_New (Try.f95.body.getD .skip) (retPost Try.prog Try.f95.results.toList R) (argE []) w = F_wire_New w R := by kernel_rfl
theorem C_wire_New {w : World} {R : Ending → World → Prop} (h : F_wire_New w R) : Calls Try.prog 95 #[] w R :=
 calls_cwp (A := A_wire_New) (args := []) mixed Try.func95 (c := Try.f95.body.getD .skip) (by kernel_rfl) (by kernel_rfl) (by kernel_rfl) ((E_wire_New w R).mpr h)
def F_wire_Writer_End (x0 : Value) (w : World) (R : Ending → World → Prop) : Prop :=
 mj1 (fun j2 =>
 m R (o_bin .eql 149 true x0 (.pointer none)) w fun x5 w1 =>
 mguard x5 false (fun k => m R (o_move x0) w1 k) w1 fun x7 w2 =>
 mguard x5 false (fun k => m R (o_nilCheck x7) w2 k) w2 fun x8 w3 =>
 mguard x5 false (fun k => m R (o_fieldAddr 173 x8 1) w3 k) w3 fun x9 w4 =>
 mguard x5 false (fun k => m R (o_load 4 x9) w4 k) w4 fun x10 w5 =>
 m R (o_pick x5 (.bool true) x10) w5 fun x11 w6 =>
 j2 x11 w6) fun x11 u2 w7 =>
 mif x11 (
 R (.returned (.tuple #[(.string (ByteArray.mk #[])), (.int .i64 1)])) w7) (
 m R (o_nilCheck x0) w7 fun x13 w8 =>
 m R (o_fieldAddr 173 x13 0) w8 fun x14 w9 =>
 m R (o_load 106 x14) w9 fun x15 w10 =>
 m R (o_conv 106 9 x15) w10 fun x16 w11 =>
 R (.returned (.tuple #[x16, (.int .i64 0)])) w11)
def A_wire_Writer_End : Ann := ⟨[], [(2, [11], 4080)], [], [], []⟩
theorem E_wire_Writer_End (x0 : Value) (w : World) (R : Ending → World → Prop) : cwp Try.prog A_wire_Writer_End (Try.f97.body.getD .skip) (retPost Try.prog Try.f97.results.toList R) (argE [x0]) w = F_wire_Writer_End x0 w R := by kernel_rfl
theorem C_wire_Writer_End {x0 : Value} {w : World} {R : Ending → World → Prop} (h : F_wire_Writer_End x0 w R) : Calls Try.prog 97 #[x0] w R :=
 calls_cwp (A := A_wire_Writer_End) (args := [x0]) mixed Try.func97 (c := Try.f97.body.getD .skip) (by kernel_rfl) (by kernel_rfl) (by kernel_rfl) ((E_wire_Writer_End x0 w R).mpr h)
def F_wire_Writer_Hash (x0 x1 : Value) (w : World) (R : Ending → World → Prop) : Prop :=
 m R (o_box 34 x1) w fun x3 w1 =>
 m R (o_bin .neq 149 true x0 (.pointer none)) w1 fun x5 w2 =>
 mif x5 (
 dp Try.prog (o_nilCheck x0) fun x8 =>
 dp Try.prog (o_fieldAddr 173 x8 0) fun x9 =>
 dq Try.prog w2 (o_load 106 x9) fun x10 =>
 dp Try.prog (o_slice 34 x3 none none none) fun x11 =>
 df Try.prog w2 (o_builtin .append #[106, 106] 106 [false, false] [x10, x11]) false fun x12 w3 =>
 dp Try.prog (o_nilCheck x0) fun x13 =>
 dp Try.prog (o_fieldAddr 173 x13 0) fun x14 =>
 df Try.prog w3 (o_store 106 x14 x12) false fun _ w4 =>
 dend w4 fun w5 =>
 R (.returned (.tuple #[])) w5) (
 R (.returned (.tuple #[])) w2)
def A_wire_Writer_Hash : Ann := ⟨[], [], [(2, [⟨0, .q none, 1, 0, 64⟩, ⟨1, .q none, 1, 0, 128⟩, ⟨2, .q none, 128, 2, 256⟩, ⟨3, .q none, 256, 6, 512⟩, ⟨4, .q (some 0), 512, 14, 1024⟩, ⟨5, .q none, 8, 0, 2048⟩, ⟨6, .f 0 false, 3072, 62, 4096⟩, ⟨7, .q none, 64, 127, 8192⟩, ⟨8, .q none, 8192, 255, 16384⟩, ⟨9, .f 1 false, 20480, 511, 0⟩])], [], []⟩
theorem E_wire_Writer_Hash (x0 x1 : Value) (w : World) (R : Ending → World → Prop) : cwp Try.prog A_wire_Writer_Hash (Try.f99.body.getD .skip) (retPost Try.prog Try.f99.results.toList R) (argE [x0, x1]) w = F_wire_Writer_Hash x0 x1 w R := by kernel_rfl
theorem C_wire_Writer_Hash {x0 x1 : Value} {w : World} {R : Ending → World → Prop} (h : F_wire_Writer_Hash x0 x1 w R) : Calls Try.prog 99 #[x0, x1] w R :=
 calls_cwp (A := A_wire_Writer_Hash) (args := [x0, x1]) mixed Try.func99 (c := Try.f99.body.getD .skip) (by kernel_rfl) (by kernel_rfl) (by kernel_rfl) ((E_wire_Writer_Hash x0 x1 w R).mpr h)
def F_bevyref02_word (x0 x1 : Value) (w : World) (R : Ending → World → Prop) : Prop :=
 dp Try.prog (o_indexAddr 106 x0 x1) fun x7 =>
 dq Try.prog w (o_load 5 x7) fun x8 =>
 dp Try.prog (o_conv 5 139 x8) fun x9 =>
 dp Try.prog (o_bin .shl 139 true x9 (.int .u64 24)) fun x10 =>
 dp Try.prog (o_bin .add 3 true x1 (.int .i64 1)) fun x13 =>
 dp Try.prog (o_indexAddr 106 x0 x13) fun x14 =>
 dq Try.prog w (o_load 5 x14) fun x15 =>
 dp Try.prog (o_conv 5 139 x15) fun x16 =>
 dp Try.prog (o_bin .shl 139 true x16 (.int .u64 16)) fun x17 =>
 dp Try.prog (o_bin .or 139 false x10 x17) fun x18 =>
 dp Try.prog (o_bin .add 3 true x1 (.int .i64 2)) fun x21 =>
 dp Try.prog (o_indexAddr 106 x0 x21) fun x22 =>
 dq Try.prog w (o_load 5 x22) fun x23 =>
 dp Try.prog (o_conv 5 139 x23) fun x24 =>
 dp Try.prog (o_bin .shl 139 true x24 (.int .u64 8)) fun x25 =>
 dp Try.prog (o_bin .or 139 false x18 x25) fun x26 =>
 dp Try.prog (o_bin .add 3 true x1 (.int .i64 3)) fun x29 =>
 dp Try.prog (o_indexAddr 106 x0 x29) fun x30 =>
 dq Try.prog w (o_load 5 x30) fun x31 =>
 dp Try.prog (o_conv 5 139 x31) fun x32 =>
 dp Try.prog (o_bin .or 139 false x26 x32) fun x33 =>
 dend w fun w1 =>
 R (.returned x33) w1
def A_bevyref02_word : Ann := ⟨[], [], [(1, [⟨0, .q none, 1, 0, 32⟩, ⟨1, .q none, 2, 0, 64⟩, ⟨2, .q none, 96, 3, 128⟩, ⟨3, .q (some 0), 128, 7, 256⟩, ⟨4, .q none, 256, 15, 512⟩, ⟨5, .q none, 512, 31, 1024⟩, ⟨6, .q none, 1, 0, 2048⟩, ⟨7, .q none, 2, 0, 4096⟩, ⟨8, .q none, 4096, 128, 8192⟩, ⟨9, .q none, 10240, 448, 16384⟩, ⟨10, .q (some 0), 16384, 960, 32768⟩, ⟨11, .q none, 32768, 1984, 65536⟩, ⟨12, .q none, 65536, 4032, 131072⟩, ⟨13, .q none, 132096, 8191, 262144⟩, ⟨14, .q none, 1, 0, 524288⟩, ⟨15, .q none, 2, 0, 1048576⟩, ⟨16, .q none, 1048576, 32768, 2097152⟩, ⟨17, .q none, 2621440, 114688, 4194304⟩, ⟨18, .q (some 0), 4194304, 245760, 8388608⟩, ⟨19, .q none, 8388608, 507904, 16777216⟩, ⟨20, .q none, 16777216, 1032192, 33554432⟩, ⟨21, .q none, 33816576, 2097151, 67108864⟩, ⟨22, .q none, 1, 0, 134217728⟩, ⟨23, .q none, 2, 0, 268435456⟩, ⟨24, .q none, 268435456, 8388608, 536870912⟩, ⟨25, .q none, 671088640, 29360128, 1073741824⟩, ⟨26, .q (some 0), 1073741824, 62914560, 2147483648⟩, ⟨27, .q none, 2147483648, 130023424, 4294967296⟩, ⟨28, .q none, 4362076160, 268435455, 8589934592⟩, ⟨29, .q none, 8589934592, 536870911, 16⟩])], [], []⟩
theorem E_bevyref02_word (x0 x1 : Value) (w : World) (R : Ending → World → Prop) : cwp Try.prog A_bevyref02_word (Try.f100.body.getD .skip) (retPost Try.prog Try.f100.results.toList R) (argE [x0, x1]) w = F_bevyref02_word x0 x1 w R := by kernel_rfl
theorem C_bevyref02_word {x0 x1 : Value} {w : World} {R : Ending → World → Prop} (h : F_bevyref02_word x0 x1 w R) : Calls Try.prog 100 #[x0, x1] w R :=
 calls_cwp (A := A_bevyref02_word) (args := [x0, x1]) mixed Try.func100 (c := Try.f100.body.getD .skip) (by kernel_rfl) (by kernel_rfl) (by kernel_rfl) ((E_bevyref02_word x0 x1 w R).mpr h)
def F_bevyref02_turned (x0 x1 : Value) (w : World) (R : Ending → World → Prop) : Prop :=
 m R (o_bin .shr 139 false x0 x1) w fun x7 w1 =>
 m R (o_bin .sub 120 true (.int .u64 32) x1) w1 fun x10 w2 =>
 m R (o_bin .shl 139 false x0 x10) w2 fun x11 w3 =>
 m R (o_bin .or 139 false x7 x11) w3 fun x12 w4 =>
 R (.returned x12) w4
def A_bevyref02_turned : Ann := ⟨[], [], [], [], []⟩
theorem E_bevyref02_turned (x0 x1 : Value) (w : World) (R : Ending → World → Prop) : cwp Try.prog A_bevyref02_turned (Try.f101.body.getD .skip) (retPost Try.prog Try.f101.results.toList R) (argE [x0, x1]) w = F_bevyref02_turned x0 x1 w R := by kernel_rfl
theorem C_bevyref02_turned {x0 x1 : Value} {w : World} {R : Ending → World → Prop} (h : F_bevyref02_turned x0 x1 w R) : Calls Try.prog 101 #[x0, x1] w R :=
 calls_cwp (A := A_bevyref02_turned) (args := [x0, x1]) mixed Try.func101 (c := Try.f101.body.getD .skip) (by kernel_rfl) (by kernel_rfl) (by kernel_rfl) ((E_bevyref02_turned x0 x1 w R).mpr h)
def F_bough_up (x0 x1 : Value) (w : World) (R : Ending → World → Prop) : Prop :=
 m R (o_box 3 x0) w fun x2 w1 =>
 m R (o_box 3 x1) w1 fun x3 w2 =>
 m R (o_func (.func 132) [] [x2, x3]) w2 fun x5 w3 =>
 R (.returned x5) w3
def A_bough_up : Ann := ⟨[], [], [], [], []⟩
theorem E_bough_up (x0 x1 : Value) (w : World) (R : Ending → World → Prop) : cwp Try.prog A_bough_up (Try.f108.body.getD .skip) (retPost Try.prog Try.f108.results.toList R) (argE [x0, x1]) w = F_bough_up x0 x1 w R := by kernel_rfl
theorem C_bough_up {x0 x1 : Value} {w : World} {R : Ending → World → Prop} (h : F_bough_up x0 x1 w R) : Calls Try.prog 108 #[x0, x1] w R :=
 calls_cwp (A := A_bough_up) (args := [x0, x1]) mixed Try.func108 (c := Try.f108.body.getD .skip) (by kernel_rfl) (by kernel_rfl) (by kernel_rfl) ((E_bough_up x0 x1 w R).mpr h)
def F_bough_Above (x0 x1 : Value) (w : World) (R : Ending → World → Prop) : Prop :=
 mj1 (fun j2 =>
 m R (o_call (fv 89) [x0, x1]) w fun x8 w1 =>
 m R (o_un .not x8) w1 fun x9 w2 =>
 mguard x9 false (fun k => m R (o_move x1) w2 k) w2 fun x11 w3 =>
 mguard x9 false (fun k => m R (o_move x0) w3 k) w3 fun x12 w4 =>
 mguard x9 false (fun k => m R (o_call (fv 55) [x12]) w4 k) w4 fun x13 w5 =>
 mguard x9 false (fun k => m R (o_bin .eql 3 false x11 x13) w5 k) w5 fun x14 w6 =>
 m R (o_pick x9 (.bool true) x14) w6 fun x15 w7 =>
 j2 x15 w7) fun x15 u2 w8 =>
 mif x15 (
 R (.returned (.int .i64 (-1))) w8) (
 ml1 x1 w8 fun x1 u3 w9 next3 =>
 m R (o_call (fv 90) [x1]) w9 fun x17 w10 =>
 dp Try.prog (o_bin .add 3 true x17 (.int .i64 1)) fun x20 =>
 dp Try.prog (o_bin .shl 3 true (.int .i64 1) x20) fun x21 =>
 dp Try.prog (o_bin .andNot 3 false x1 x21) fun x22 =>
 dp Try.prog (o_bin .shl 3 true (.int .i64 1) x17) fun x24 =>
 dp Try.prog (o_bin .or 3 false x22 x24) fun x25 =>
 dend w10 fun w11 =>
 m R (o_call (fv 89) [x0, x25]) w11 fun x28 w12 =>
 mif x28 (
 R (.returned x25) w12) (
 next3 x25 w12))
def A_bough_Above : Ann := ⟨[(3, [1], 1073676338)], [(2, [15], 65472)], [(4, [⟨0, .q none, 2, 0, 262144⟩, ⟨1, .q none, 32, 0, 524288⟩, ⟨2, .q none, 524288, 2, 1048576⟩, ⟨3, .q none, 1048576, 6, 2097152⟩, ⟨4, .q none, 2359296, 15, 4194304⟩, ⟨5, .q none, 32, 0, 8388608⟩, ⟨6, .q none, 8388608, 32, 16777216⟩, ⟨7, .q none, 20971520, 127, 33554432⟩, ⟨8, .q none, 33554432, 255, 2⟩])], [], []⟩
theorem E_bough_Above (x0 x1 : Value) (w : World) (R : Ending → World → Prop) : cwp Try.prog A_bough_Above (Try.f109.body.getD .skip) (retPost Try.prog Try.f109.results.toList R) (argE [x0, x1]) w = F_bough_Above x0 x1 w R := by kernel_rfl
theorem C_bough_Above {x0 x1 : Value} {w : World} {R : Ending → World → Prop} (h : F_bough_Above x0 x1 w R) : Calls Try.prog 109 #[x0, x1] w R :=
 calls_cwp (A := A_bough_Above) (args := [x0, x1]) mixed Try.func109 (c := Try.f109.body.getD .skip) (by kernel_rfl) (by kernel_rfl) (by kernel_rfl) ((E_bough_Above x0 x1 w R).mpr h)
def F_bough_Leaves (x0 x1 : Value) (w : World) (R : Ending → World → Prop) : Prop :=
 m R (o_call (fv 89) [x0, x1]) w fun x9 w1 =>
 m R (o_un .not x9) w1 fun x10 w2 =>
 mif x10 (
 R (.returned (.tuple #[(.int .i64 0), (.int .i64 0)])) w2) (
 m R (o_call (fv 90) [x1]) w2 fun x12 w3 =>
 m R (o_bin .shl 3 true (.int .i64 1) x12) w3 fun x13 w4 =>
 m R (o_bin .add 3 true x1 (.int .i64 1)) w4 fun x15 w5 =>
 m R (o_bin .sub 3 false x15 x13) w5 fun x17 w6 =>
 m R (o_bin .quo 3 true x17 (.int .i64 2)) w6 fun x18 w7 =>
 m R (o_bin .add 3 true x1 (.int .i64 1)) w7 fun x20 w8 =>
 m R (o_bin .add 3 false x20 x13) w8 fun x22 w9 =>
 m R (o_bin .quo 3 true x22 (.int .i64 2)) w9 fun x23 w10 =>
 m R (o_builtin .min #[3, 3] 3 [false, false] [x23, x0]) w10 fun x25 w11 =>
 R (.returned (.tuple #[x18, x25])) w11)
def A_bough_Leaves : Ann := ⟨[], [], [], [], []⟩
theorem E_bough_Leaves (x0 x1 : Value) (w : World) (R : Ending → World → Prop) : cwp Try.prog A_bough_Leaves (Try.f111.body.getD .skip) (retPost Try.prog Try.f111.results.toList R) (argE [x0, x1]) w = F_bough_Leaves x0 x1 w R := by kernel_rfl
theorem C_bough_Leaves {x0 x1 : Value} {w : World} {R : Ending → World → Prop} (h : F_bough_Leaves x0 x1 w R) : Calls Try.prog 111 #[x0, x1] w R :=
 calls_cwp (A := A_bough_Leaves) (args := [x0, x1]) mixed Try.func111 (c := Try.f111.body.getD .skip) (by kernel_rfl) (by kernel_rfl) (by kernel_rfl) ((E_bough_Leaves x0 x1 w R).mpr h)
def F_cmp_Less_int (x0 x1 : Value) (w : World) (R : Ending → World → Prop) : Prop :=
 m R (o_call (fv 133) [x0]) w fun x6 w1 =>
 mguard x6 true (fun k => m R (o_move x1) w1 k) w1 fun x8 w2 =>
 mguard x6 true (fun k => m R (o_call (fv 133) [x8]) w2 k) w2 fun x9 w3 =>
 mguard x6 true (fun k => m R (o_un .not x9) w3 k) w3 fun x10 w4 =>
 m R (o_pick x6 x10 (.bool false)) w4 fun x11 w5 =>
 mguard x11 false (fun k => m R (o_move x0) w5 k) w5 fun x13 w6 =>
 mguard x11 false (fun k => m R (o_move x1) w6 k) w6 fun x14 w7 =>
 mguard x11 false (fun k => m R (o_bin .lss 3 false x13 x14) w7 k) w7 fun x15 w8 =>
 m R (o_pick x11 (.bool true) x15) w8 fun x16 w9 =>
 R (.returned x16) w9
def A_cmp_Less_int : Ann := ⟨[], [], [], [], []⟩
theorem E_cmp_Less_int (x0 x1 : Value) (w : World) (R : Ending → World → Prop) : cwp Try.prog A_cmp_Less_int (Try.f112.body.getD .skip) (retPost Try.prog Try.f112.results.toList R) (argE [x0, x1]) w = F_cmp_Less_int x0 x1 w R := by kernel_rfl
theorem C_cmp_Less_int {x0 x1 : Value} {w : World} {R : Ending → World → Prop} (h : F_cmp_Less_int x0 x1 w R) : Calls Try.prog 112 #[x0, x1] w R :=
 calls_cwp (A := A_cmp_Less_int) (args := [x0, x1]) mixed Try.func112 (c := Try.f112.body.getD .skip) (by kernel_rfl) (by kernel_rfl) (by kernel_rfl) ((E_cmp_Less_int x0 x1 w R).mpr h)
def F_slices_isNaN_int (x0 : Value) (w : World) (R : Ending → World → Prop) : Prop :=
 m R (o_bin .neq 3 false x0 x0) w fun x5 w1 =>
 R (.returned x5) w1
def A_slices_isNaN_int : Ann := ⟨[], [], [], [], []⟩
theorem E_slices_isNaN_int (x0 : Value) (w : World) (R : Ending → World → Prop) : cwp Try.prog A_slices_isNaN_int (Try.f113.body.getD .skip) (retPost Try.prog Try.f113.results.toList R) (argE [x0]) w = F_slices_isNaN_int x0 w R := by kernel_rfl
theorem C_slices_isNaN_int {x0 : Value} {w : World} {R : Ending → World → Prop} (h : F_slices_isNaN_int x0 w R) : Calls Try.prog 113 #[x0] w R :=
 calls_cwp (A := A_slices_isNaN_int) (args := [x0]) mixed Try.func113 (c := Try.f113.body.getD .skip) (by kernel_rfl) (by kernel_rfl) (by kernel_rfl) ((E_slices_isNaN_int x0 w R).mpr h)
def F_change_rank (x0 : Value) (w : World) (R : Ending → World → Prop) : Prop :=
 m R (o_bin .eql 3 true x0 (.int .i64 2)) w fun x5 w1 =>
 mif x5 (
 R (.returned (.int .i64 0)) w1) (
 m R (o_bin .eql 3 true x0 (.int .i64 3)) w1 fun x7 w2 =>
 mif x7 (
 R (.returned (.int .i64 1)) w2) (
 m R (o_bin .eql 3 true x0 (.int .i64 1)) w2 fun x9 w3 =>
 mif x9 (
 R (.returned (.int .i64 2)) w3) (
 R (.returned (.int .i64 3)) w3)))
def A_change_rank : Ann := ⟨[], [], [], [], []⟩
theorem E_change_rank (x0 : Value) (w : World) (R : Ending → World → Prop) : cwp Try.prog A_change_rank (Try.f118.body.getD .skip) (retPost Try.prog Try.f118.results.toList R) (argE [x0]) w = F_change_rank x0 w R := by kernel_rfl
theorem C_change_rank {x0 : Value} {w : World} {R : Ending → World → Prop} (h : F_change_rank x0 w R) : Calls Try.prog 118 #[x0] w R :=
 calls_cwp (A := A_change_rank) (args := [x0]) mixed Try.func118 (c := Try.f118.body.getD .skip) (by kernel_rfl) (by kernel_rfl) (by kernel_rfl) ((E_change_rank x0 w R).mpr h)
def F_prim_Check (x0 x1 x2 : Value) (w : World) (R : Ending → World → Prop) : Prop :=
 m R (o_box 34 x0) w fun x3 w1 =>
 m R (o_box 34 x2) w1 fun x5 w2 =>
 dq Try.prog w2 (o_load 34 x3) fun x7 =>
 df Try.prog w2 (o_call (fv 145) [x7, x1]) true fun x9 w3 =>
 dq Try.prog w2 (o_load 34 x5) fun x10 =>
 dp Try.prog (o_bin .eql 34 false x9 x10) fun x11 =>
 dend w3 fun w4 =>
 R (.returned x11) w4
def A_prim_Check : Ann := ⟨[], [], [(1, [⟨0, .q (some 0), 8, 0, 128⟩, ⟨1, .q none, 2, 0, 256⟩, ⟨2, .f 0 true, 384, 3, 512⟩, ⟨3, .q (some 0), 32, 0, 1024⟩, ⟨4, .q none, 1536, 15, 2048⟩, ⟨5, .q none, 2048, 31, 64⟩])], [], []⟩
theorem E_prim_Check (x0 x1 x2 : Value) (w : World) (R : Ending → World → Prop) : cwp Try.prog A_prim_Check (Try.f119.body.getD .skip) (retPost Try.prog Try.f119.results.toList R) (argE [x0, x1, x2]) w = F_prim_Check x0 x1 x2 w R := by kernel_rfl
theorem C_prim_Check {x0 x1 x2 : Value} {w : World} {R : Ending → World → Prop} (h : F_prim_Check x0 x1 x2 w R) : Calls Try.prog 119 #[x0, x1, x2] w R :=
 calls_cwp (A := A_prim_Check) (args := [x0, x1, x2]) mixed Try.func119 (c := Try.f119.body.getD .skip) (by kernel_rfl) (by kernel_rfl) (by kernel_rfl) ((E_prim_Check x0 x1 x2 w R).mpr h)
def F_change_text (x0 : Value) (w : World) (R : Ending → World → Prop) : Prop :=
 m R (o_box 85 x0) w fun x1 w1 =>
 m R (o_call (fv 95) []) w1 fun x8 w2 =>
 m R (o_fieldAddr 85 x1 0) w2 fun x10 w3 =>
 m R (o_load 34 x10) w3 fun x11 w4 =>
 m R (o_call (fv 99) [x8, x11]) w4 fun x12 w5 =>
 m R (o_fieldAddr 85 x1 1) w5 fun x13 w6 =>
 m R (o_load 3 x13) w6 fun x14 w7 =>
 m R (o_fieldAddr 85 x1 2) w7 fun x15 w8 =>
 m R (o_load 3 x15) w8 fun x16 w9 =>
 m R (o_fieldAddr 85 x1 3) w9 fun x17 w10 =>
 m R (o_load 3 x17) w10 fun x18 w11 =>
 m R (o_fieldAddr 85 x1 4) w11 fun x19 w12 =>
 m R (o_fieldAddr 83 x19 0) w12 fun x20 w13 =>
 m R (o_load 3 x20) w13 fun x21 w14 =>
 m R (o_fieldAddr 85 x1 4) w14 fun x22 w15 =>
 m R (o_fieldAddr 83 x22 1) w15 fun x23 w16 =>
 m R (o_load 3 x23) w16 fun x24 w17 =>
 m R (o_build 186 [(0, x14), (1, x16), (2, x18), (3, x21), (4, x24)]) w17 fun x25 w18 =>
 ml1 (.int .i64 0) w18 fun x26 u4 w19 next4 =>
 m R (o_bin .lss 3 true x26 (.int .i64 5)) w19 fun x27 w20 =>
 mif x27 (
 m R (o_index 186 x25 x26) w20 fun x28 w21 =>
 m R (o_call (fv 129) [x8, x28]) w21 fun x31 w22 =>
 m R (o_bin .add 3 true x26 (.int .i64 1)) w22 fun x32 w23 =>
 next4 x32 w23) (
 m R (o_fieldAddr 85 x1 4) w20 fun x34 w24 =>
 m R (o_fieldAddr 83 x34 2) w24 fun x35 w25 =>
 m R (o_load 34 x35) w25 fun x36 w26 =>
 m R (o_call (fv 99) [x8, x36]) w26 fun x37 w27 =>
 m R (o_call (fv 97) [x8]) w27 fun x40 w28 =>
 m R (o_extract x40 0) w28 fun x41 w29 =>
 m R (o_extract x40 1) w29 fun x42 w30 =>
 R (.returned x41) w30)
def A_change_text : Ann := ⟨[(4, [26], 8522825760)], [], [], [], []⟩
theorem E_change_text (x0 : Value) (w : World) (R : Ending → World → Prop) : cwp Try.prog A_change_text (Try.f120.body.getD .skip) (retPost Try.prog Try.f120.results.toList R) (argE [x0]) w = F_change_text x0 w R := by kernel_rfl
theorem C_change_text {x0 : Value} {w : World} {R : Ending → World → Prop} (h : F_change_text x0 w R) : Calls Try.prog 120 #[x0] w R :=
 calls_cwp (A := A_change_text) (args := [x0]) mixed Try.func120 (c := Try.f120.body.getD .skip) (by kernel_rfl) (by kernel_rfl) (by kernel_rfl) ((E_change_text x0 w R).mpr h)
def F_prim_Sign (x0 x1 : Value) (w : World) (R : Ending → World → Prop) : Prop :=
 m R (o_box 34 x0) w fun x2 w1 =>
 m R (o_alloc 34) w1 fun x4 w2 =>
 m R (o_load 34 x2) w2 fun x5 w3 =>
 m R (o_call (fv 146) [x5]) w3 fun x6 w4 =>
 m R (o_call (fv 145) [x6, x1]) w4 fun x8 w5 =>
 m R (o_store 34 x4 x8) w5 fun _ w6 =>
 rcell Try.prog 34 x4 w6 fun r4 =>
 R (.returned r4) w6
def A_prim_Sign : Ann := ⟨[], [], [], [], []⟩
theorem E_prim_Sign (x0 x1 : Value) (w : World) (R : Ending → World → Prop) : cwp Try.prog A_prim_Sign (Try.f121.body.getD .skip) (retPost Try.prog Try.f121.results.toList R) (argE [x0, x1]) w = F_prim_Sign x0 x1 w R := by kernel_rfl
theorem C_prim_Sign {x0 x1 : Value} {w : World} {R : Ending → World → Prop} (h : F_prim_Sign x0 x1 w R) : Calls Try.prog 121 #[x0, x1] w R :=
 calls_cwp (A := A_prim_Sign) (args := [x0, x1]) mixed Try.func121 (c := Try.f121.body.getD .skip) (by kernel_rfl) (by kernel_rfl) (by kernel_rfl) ((E_prim_Sign x0 x1 w R).mpr h)
def F_bevyref05_Verify (x0 : Value) (w : World) (R : Ending → World → Prop) : Prop :=
 m R (o_box 33 x0) w fun x1 w1 =>
 m R (o_alloc 33) w1 fun x2 w2 =>
 m R (o_load 33 x1) w2 fun x3 w3 =>
 m R (o_call (fv 147) [x3]) w3 fun x4 w4 =>
 m R (o_bin .add 9 true (.string (ByteArray.mk #[118, 101, 114])) x4) w4 fun x5 w5 =>
 m R (o_call (fv 56) [x5]) w5 fun x6 w6 =>
 m R (o_store 33 x2 x6) w6 fun _ w7 =>
 rcell Try.prog 33 x2 w7 fun r2 =>
 R (.returned r2) w7
def A_bevyref05_Verify : Ann := ⟨[], [], [], [], []⟩
theorem E_bevyref05_Verify (x0 : Value) (w : World) (R : Ending → World → Prop) : cwp Try.prog A_bevyref05_Verify (Try.f122.body.getD .skip) (retPost Try.prog Try.f122.results.toList R) (argE [x0]) w = F_bevyref05_Verify x0 w R := by kernel_rfl
theorem C_bevyref05_Verify {x0 : Value} {w : World} {R : Ending → World → Prop} (h : F_bevyref05_Verify x0 w R) : Calls Try.prog 122 #[x0] w R :=
 calls_cwp (A := A_bevyref05_Verify) (args := [x0]) mixed Try.func122 (c := Try.f122.body.getD .skip) (by kernel_rfl) (by kernel_rfl) (by kernel_rfl) ((E_bevyref05_Verify x0 w R).mpr h)
def F_change_named (x0 : Value) (w : World) (R : Ending → World → Prop) : Prop :=
 m R (o_bin .geq 3 true x0 (.int .i64 1)) w fun x4 w1 =>
 mguard x4 true (fun k => m R (o_move x0) w1 k) w1 fun x6 w2 =>
 mguard x4 true (fun k => m R (o_bin .leq 3 true x6 (.int .i64 64)) w2 k) w2 fun x7 w3 =>
 m R (o_pick x4 x7 (.bool false)) w3 fun x8 w4 =>
 R (.returned x8) w4
def A_change_named : Ann := ⟨[], [], [], [], []⟩
theorem E_change_named (x0 : Value) (w : World) (R : Ending → World → Prop) : cwp Try.prog A_change_named (Try.f123.body.getD .skip) (retPost Try.prog Try.f123.results.toList R) (argE [x0]) w = F_change_named x0 w R := by kernel_rfl
theorem C_change_named {x0 : Value} {w : World} {R : Ending → World → Prop} (h : F_change_named x0 w R) : Calls Try.prog 123 #[x0] w R :=
 calls_cwp (A := A_change_named) (args := [x0]) mixed Try.func123 (c := Try.f123.body.getD .skip) (by kernel_rfl) (by kernel_rfl) (by kernel_rfl) ((E_change_named x0 w R).mpr h)
end Go.Proofs.Ytopcnkejobomaaa
