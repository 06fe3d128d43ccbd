/- Part 2 of the proof. -/
import Derived.Test.YtopcnkejobomaaaGreatPa1
import Derived.ProofKit
import Derived.OpenShut
import Derived.ShutString
import Derived.ChangeOld
import Derived.Below
import Derived.SliceStrings
import Derived.Deep.Slices
import Derived.Deep.Strs
import Derived.ChangeSame
import Derived.WideKeyArr2
import Derived.ChangeMaps5
import Derived.Test.YtopcnkejobomaaaGreatProg
import Derived.KernelRfl
set_option linter.unusedVariables false
namespace Go.Proofs.YtopcnkejobomaaaGreat
open Go.RowKit
section
variable {P : Program} {H H' : Hp} {w0 w w' : World} {L R R' : List Res} {g i j : Nat} {t t' tx ty : TypeId} {fs gs fs' : List Fd} {put : Res → List Res} {q : Bool} {n m cap cap' capx e e' ex sz by_ : Nat} {v x : Value} {K : Value → World → Prop} {X : List PanicEntry → World → Prop} {Kq : Value → Prop} {A A' B : Option Addr} {ps qs : List (List Fd)} {ks : List Bool}
theorem AtR.nil (L : List Res) (e sz : Nat) : AtR (rowR e sz none 0 0 [] :: L) none 0 0 e sz [] L := ⟨.refl _⟩
theorem SliC.und (c : SliC P t e sz by_) : P.underlying t = some (.slice e) := (sli_spec c.ok).1
theorem mm_appo (h : Mem H w0 L w) [c : SliC P t e sz by_] [k : AtR L A n cap e sz ps R] [k' : AtR R B m capx ex sz qs R'] [cx : SliC P tx e' sz by_] (hb : n + m ≤ 9223372036854775807 ∧ (n + m) * by_ ≤ 140737488355328)
    (hk : ∀ A' cap' w', Mem H w0 (rowR e sz A' (n + m) cap' (ps ++ qs) :: R') w' → K (.slice A' (n + m) cap') w') : mop P (o_builtin .append #[t, tx] ty ks [.slice A n cap, .slice B m capx]) w K X := by
  have h2 := h.perm k.perm
  have kx : AtR (rowR e sz A n cap ps :: R) B m capx ex sz qs (rowR e sz A n cap ps :: R') := inferInstance
  have hs := h2.src kx cx.und capx
  obtain ⟨h3, _, _, h4⟩ := h2.rowLen kx
  exact mm_app h k hs h4 h3 hb.1 hb.2 fun A' cap' w' h5 => hk A' cap' w' ((h5.perm ((k'.perm.cons _).trans (.swap ..))).drop)
theorem mm_apps (h : Mem H w0 L w) [c : SliC P t e sz by_] [k : AtR L A n cap e sz ps R] [cx : SliC P tx e' sz by_] (a : Sl H sz B qs) (hm : m = qs.length) (hb : n + m ≤ 9223372036854775807 ∧ (n + m) * by_ ≤ 140737488355328)
    (hk : ∀ A' cap' w', Mem H w0 (rowR e sz A' (n + m) cap' (ps ++ qs) :: R) w' → K (.slice A' (n + m) cap') w') : mop P (o_builtin .append #[t, tx] ty ks [.slice A n cap, .slice B m capx]) w K X := by
  subst hm
  exact mm_app h k (a.src h.fz cx.und capx) a.els rfl hb.1 hb.2 hk
theorem mm_apps0 (h : Mem H w0 L w) [c : SliC P t e sz by_] [cx : SliC P tx e' sz by_] (a : Sl H sz B qs) (hm : m = qs.length) (hb : m ≤ 9223372036854775807 ∧ m * by_ ≤ 140737488355328)
    (hk : ∀ A' cap' w', Mem H w0 (rowR e sz A' m cap' qs :: L) w' → K (.slice A' m cap') w') : mop P (o_builtin .append #[t, tx] ty ks [.slice none 0 0, .slice B m capx]) w K X := by
  have h2 := h.row0 e sz
  exact mm_apps h2 a hm (by simpa using hb) fun A' cap' w' h5 => by
    have := hk A' cap' w' (by simpa using h5)
    simpa using this
theorem df_no (h : Mem H w0 L w) {s : Sem Next} (hk : ∀ w', Mem H w0 L w' → mop P s w' K (fun _ _ => False)) : df P w s false K := df_mop fun w1 hd => mop_mono (hk w1 (h.drawn hd)) (fun _ _ h => ⟨(fun e => by cases e), h⟩) (fun _ _ h => h)
theorem Mem.ne {k : Nat} {tt : TypeId} (h : Mem H w0 L w) (a : AtR L A n cap e sz ps R) (b : AtB R k tt fs put) : ¬ A = some ⟨k, 0, none⟩ := by
  rintro rfl
  obtain ⟨R', h1, _⟩ := b.perm
  obtain ⟨B, ⟨B1, B2, rfl, ⟨_, _, h3⟩, B3, B4, rfl, ⟨_, rfl⟩, _⟩, hs, _⟩ := (h.perm (a.perm.trans (h1.cons _))).own
  rcases h3 with ⟨hA, _⟩ | ⟨g', sp, hA, rfl, _⟩
  · cases hA
  · cases hA
    have := (List.pairwise_cons.1 hs.ne).1 ⟨k, tt, fl fs, true⟩ (by simp)
    exact this rfl
theorem dS_st {S : Rl} {tt : TypeId} {gs fs' : List Fd} {k : Nat} (h : Mem H w0 L w) [c : ShpC P t q n] [a : AtB L k tt fs put] [f : Vf v n gs] [p : Put fs i gs fs'] (hk : ∀ w', Mem H w0 (put (fb k tt fs')) w' → K undef w') : dfS P S w (o_store t (.pointer (some ⟨k, i, none⟩)) v) false K :=
  ⟨fun w1 hd => mop_mono ((dm_st h hk).out w1 hd) (fun _ _ h => ⟨(fun e => by cases e), h.2⟩) (fun _ _ h => h)⟩
theorem Mem.freeze (h : Mem H w0 L w) (k : AtR L A n cap e sz ps R) : ∃ H', Le w0 H H' ∧ Mem H' w0 R w ∧ Sl H' sz A ps ∧ ps.length = n := by
  obtain ⟨B, ⟨B1, B2, rfl, ⟨h1, h2, h3⟩, h4⟩, hs, hb⟩ := (h.perm k.perm).own
  rcases h3 with ⟨rfl, hn, _, rfl⟩ | ⟨g, sp, rfl, rfl, h5⟩
  · have : ps = [] := List.eq_nil_of_length_eq_zero (by omega)
    subst this
    exact ⟨H, Le.refl _ _, ⟨⟨B2, h4, hs, hb⟩, h.fz⟩, Sl.nil H sz _, h2⟩
  · have hs : St w0 (⟨g, e, fls ps ++ sp, true⟩ :: B2) w := hs
    have hg := hb ⟨g, e, fls ps ++ sp, true⟩ (by simp)
    have hbf := hs.head
    have hne := (List.pairwise_cons.1 hs.ne).1
    refine ⟨fun b => if b = g then some (fls ps ++ sp).toArray else H b, ⟨fun b c hc => ?_, fun b hb1 hc => ?_⟩, ⟨⟨B2, h4, hs.drop, fun b hm => ⟨(hb b (List.mem_append.2 (.inr hm))).1, ?_⟩⟩, fun b c hc => ?_⟩, ⟨h1, .inr ⟨g, 0, (fls ps ++ sp).toArray, rfl, if_pos rfl, fun j u hu => ?_⟩⟩, h2⟩
    · show (if b = g then _ else H b) = _
      rw [if_neg]
      · exact hc
      · rintro rfl
        have := hg.2
        simp only [hc] at this
        cases this
    · show (if b = g then _ else H b) = _
      rw [if_neg]
      · exact hc
      · rintro rfl
        have := hs.new _ (List.mem_cons_self ..) rfl
        simp only at this
        omega
    · show (if b.g = g then _ else H b.g) = _
      rw [if_neg]
      · exact (hb b (List.mem_append.2 (.inr hm))).2
      · intro e
        exact hne b hm e.symm
    · have hc : (if b = g then some (fls ps ++ sp).toArray else H b) = some c := hc
      split at hc
      · rename_i e
        cases hc
        obtain ⟨fr, hh, _⟩ := hbf
        exact ⟨_, _, by rw [e]; exact hh⟩
      · exact h.fz b c hc
    · rw [Nat.zero_add]
      simp only [List.getElem?_toArray]
      rw [List.getElem?_append_left (List.getElem?_eq_some_iff.1 hu).1]
      exact hu
def Outp (H : Hp) (w : World) (Q : Hp → Value → Prop) : Ending → World → Prop := fun en w' => ∃ v H', en = .returned v ∧ Le w H H' ∧ Mem H' w [] w' ∧ Q H' v
theorem Mem.out {Q : Hp → Value → Prop} (h : Mem H' w0 L w) (hl : Le w0 H H') (hq : Q H' v) : Outp H w0 Q (.returned v) w := ⟨v, H', rfl, hl, h.nil, hq⟩
theorem Outp.ext {Q : Hp → Value → Prop} {en : Ending} (h : Outp H w Q en w') : Ext w w' := by
  obtain ⟨_, _, _, _, h, _⟩ := h
  exact h.ext
theorem mm_call {f : Nat} {args : List Value} {Q : Hp → Value → Prop} (h : Mem H w0 L w) [hf : FunC P f] (hc : Calls P f args.toArray w (Outp H w Q)) (hk : ∀ H' v w', Le w0 H H' → Mem H' w0 L w' → Q H' v → K v w') : mop P (o_call (fv f) args) w K X :=
  mop_to hc fun en w' ⟨v, H', he, hl, hm, hq⟩ => by
    subst he
    exact hk H' v w' (hl.old h.ext.size) (h.call hm hl.new) hq
theorem dm_call {f : Nat} {args : List Value} {ext : Bool} {Q : Hp → Value → Prop} (h : Mem H w0 L w) [hf : FunC P f] (hc : ∀ w, Mem H w0 L w → Calls P f args.toArray w (Outp H w Q)) (hk : ∀ H' v w', Ext w w' → Le w0 H H' → Mem H' w0 L w' → Q H' v → K v w') : df P w (o_call (fv f) args) ext K :=
  df_mop fun w1 hd => mop_to (hc w1 (h.drawn hd)) fun en w' ⟨v, H', he, hl, hm, hq⟩ => by
    subst he
    have hx := hd.ext.trans hm.ext
    exact ⟨fun _ => hx, hk H' v w' hx (hl.old (h.drawn hd).ext.size) ((h.drawn hd).call hm hl.new) hq⟩
theorem mm_pure {f : Nat} {args : List Value} (h : Mem H w0 L w) [hf : FunC P f] (hc : Calls P f args.toArray w fun en w' => en = .returned v ∧ St w [] w') (hk : ∀ w', Mem H w0 L w' → K v w') : mop P (o_call (fv f) args) w K X :=
  mop_to hc fun en w' ⟨he, hs⟩ => by
    subst he
    exact hk w' (h.call0 hs)
theorem dm_pure {f : Nat} {args : List Value} {ext : Bool} (h : Mem H w0 L w) [hf : FunC P f] (hc : ∀ w, Mem H w0 L w → Calls P f args.toArray w fun en w' => en = .returned v ∧ St w [] w') (hk : ∀ w', Ext w w' → Mem H w0 L w' → K v w') : df P w (o_call (fv f) args) ext K :=
  df_mop fun w1 hd => mop_to (hc w1 (h.drawn hd)) fun en w' ⟨he, hs⟩ => by
    subst he
    have hx : Ext w w' := hd.ext.trans (hs.only.mono fun _ _ ⟨_, hm, _⟩ => by cases hm)
    exact ⟨fun _ => hx, hk w' hx ((h.drawn hd).call0 hs)⟩
theorem mm_own {f : Nat} {args : List Value} {Q : Value → World → Prop} [hf : FunC P f] (hc : Calls P f args.toArray w fun en w' => ∃ v, en = .returned v ∧ Q v w') (hk : ∀ v w', Q v w' → K v w') : mop P (o_call (fv f) args) w K X :=
  mop_to hc fun en w' ⟨v, he, hq⟩ => by
    subst he
    exact hk v w' hq
theorem dm_own {f : Nat} {args : List Value} {Q : Value → World → Prop} (h : Mem H w0 L w) [hf : FunC P f] (hc : ∀ w, Mem H w0 L w → Calls P f args.toArray w fun en w' => ∃ v, en = .returned v ∧ Q v w') (hk : ∀ v w', Q v w' → K v w') : df P w (o_call (fv f) args) false K :=
  df_mop fun w1 hd => mop_to (hc w1 (h.drawn hd)) fun en w' ⟨v, he, hq⟩ => by
    subst he
    exact ⟨(fun e => by cases e), hk v w' hq⟩
theorem p_func (fn : Fn) (a b : List Value) (hfn : ∃ f, fn = .func f) : Pur P (o_func fn a b) (.func fn a.toArray b.toArray) := fun w => by
  obtain ⟨f, rfl⟩ := hfn
  simp [o_func, sv, Instr.makeFunc]
instance (f : Nat) (a b : List Value) : StepC P (o_func (.func f) a b) True (.func (.func f) a.toArray b.toArray) := ⟨fun _ => p_func _ a b ⟨f, rfl⟩⟩
theorem mop_callv {f : Nat} {first captured : Array Value} {args : List Value} {Q : Ending → World → Prop} [hf : FunC P f] (h : Calls P f (first ++ args.toArray ++ captured) w Q) (hk : ∀ en w', Q en w' → match en with
      | .returned v => K v w'
      | .panicked c => X c w'
      | .outgrown => False) : mop P (o_call (.func (.func f) first captured) args) w K X := by
  constructor
  have hb := hf.ok
  have hr : (o_call (.func (.func f) first captured) args).run P w = .ok (.enter f (first ++ args.toArray ++ captured)) w := by
    cases hff : P.funcs[f]? with
    | none => simp [hff] at hb
    | some fn =>
      simp [hff] at hb
      have hb1 : ¬ fn.body = none := by intro h; rw [h] at hb; simp at hb
      simp [o_call, Deferred.ofValue, invoke, callFunc, hff, go_sem, hb.2, hb1]
  rw [hr]
  exact h.mono fun en w' he => by
    have := hk en w' he
    cases en <;> exact this
theorem run_equalIn_nil (d : Nat) (t e : TypeId) (a : Option Addr) (n cp : Nat) (he : P.underlying t = some (.slice e)) : (Op.equalIn (d + 1) t (.slice a n cp) (.slice none 0 0)).run P w = .ok a.isNone w := by
  cases a <;> simp [Op.equalIn, run_underlying he]
theorem run_equalIn_pnil (d : Nat) (t e : TypeId) (a : Option Addr) (he : P.underlying t = some (.pointer e)) : (Op.equalIn (d + 1) t (.pointer a) (.pointer none)).run P w = .ok a.isNone w := by
  cases a <;> simp [Op.equalIn, run_underlying he]
theorem run_o_eql {t : TypeId} {c : Bool} {x y : Value} {b : Bool} (hg : ∀ u v, (eqGuard .eql t u v x y).run P w = .ok () w) (hb : binOp .eql t x y = (do pure (.bool (← Op.equal t x y)))) (h : (Op.equalIn 10000 t x y).run P w = .ok b w) : (o_bin .eql t c x y).run P w = .ok (.value (.bool b)) w := by
  have h' : (Op.equal t x y).run P w = .ok b w := h
  simp only [o_bin, sv, Sem.run_bind, hg, hb, Result.andThen_ok, h', Sem.run_pure]
theorem run_o_neq {t : TypeId} {c : Bool} {x y : Value} {b : Bool} (hg : ∀ u v, (eqGuard .neq t u v x y).run P w = .ok () w) (hb : binOp .neq t x y = (do pure (.bool !(← Op.equal t x y)))) (h : (Op.equalIn 10000 t x y).run P w = .ok b w) : (o_bin .neq t c x y).run P w = .ok (.value (.bool !b)) w := by
  have h' : (Op.equal t x y).run P w = .ok b w := h
  simp only [o_bin, sv, Sem.run_bind, hg, hb, Result.andThen_ok, h', Sem.run_pure]
theorem p_eq_nil (t : TypeId) (c : Bool) (a : Option Addr) (n cp e : Nat) (he : P.underlying t = some (.slice e)) : Pur P (o_bin .eql t c (.slice a n cp) (.slice none 0 0)) (.bool a.isNone) := fun w =>
  run_o_eql (fun _ _ => by simp only [eqGuard]; rfl) (by simp only [binOp]) (run_equalIn_nil (P := P) (w := w) 9999 t e a n cp he)
theorem p_ptr_nil (t : TypeId) (c : Bool) (a : Option Addr) (e : TypeId) (he : P.underlying t = some (.pointer e)) : Pur P (o_bin .eql t c (.pointer a) (.pointer none)) (.bool a.isNone) := fun w =>
  run_o_eql (fun _ _ => by simp only [eqGuard]; rfl) (by simp only [binOp]) (run_equalIn_pnil (P := P) (w := w) 9999 t e a he)
theorem p_ptr_nnil (t : TypeId) (c : Bool) (a : Option Addr) (e : TypeId) (he : P.underlying t = some (.pointer e)) : Pur P (o_bin .neq t c (.pointer a) (.pointer none)) (.bool (!a.isNone)) := fun w =>
  run_o_neq (fun _ _ => by simp only [eqGuard]; rfl) (by simp only [binOp]) (run_equalIn_pnil (P := P) (w := w) 9999 t e a he)
end
end Go.Proofs.YtopcnkejobomaaaGreat
namespace Go.Proofs.YtopcnkejobomaaaGreat
open Go.RowKit
def hzero : H32 := ⟨List.replicate 32 0, by simp, by intro x hx; rw [List.eq_of_mem_replicate hx]; omega⟩
class EqF (fs gs : List Fd) (ks : outParam (List CK)) (p : outParam Prop) : Prop where
  ok : Of (fl fs) ks ∧ Of (fl gs) ks ∧ (fl fs = fl gs ↔ p)
theorem one_app {a b : Value} {k : CK} {x y : List Value} {ks : List CK} {p q : Prop} (h : Of [a] [k] ∧ Of [b] [k] ∧ (a = b ↔ p)) (h' : Of x ks ∧ Of y ks ∧ (x = y ↔ q)) : Of ([a] ++ x) (k :: ks) ∧ Of ([b] ++ y) (k :: ks) ∧ ([a] ++ x = [b] ++ y ↔ p ∧ q) :=
  ⟨h.1.app h'.1, h.2.1.app h'.2.1, by rw [← h.2.2, ← h'.2.2]; simp⟩
theorem ok_int (k : IntKind) (a b : Int) : Of [.int k a] [.int k] ∧ Of [.int k b] [.int k] ∧ (Value.int k a = .int k b ↔ a = b) := ⟨rfl, rfl, by simp⟩
instance (k : IntKind) (a b : Int) (fs gs : List Fd) (ks : List CK) (p : Prop) [h : EqF fs gs ks p] : EqF (.one (.int k a) :: fs) (.one (.int k b) :: gs) (.int k :: ks) (a = b ∧ p) := ⟨one_app (ok_int k a b) h.ok⟩
theorem EqF.last {f g : Fd} {k : List CK} {p : Prop} (h : Of f.cells k ∧ Of g.cells k ∧ (f.cells = g.cells ↔ p)) : Of (fl [f]) k ∧ Of (fl [g]) k ∧ (fl [f] = fl [g] ↔ p) := by simpa [fl] using h
theorem of_h32 (h : H32) : Of (u8s h.1) (List.replicate 32 (.int .u8)) := by have := of_u8s h.1; rwa [h.2.1] at this
theorem h32_eq {a b : H32} : u8s a.1 = u8s b.1 ↔ a = b := by rw [u8s_inj]; exact Subtype.ext_iff.symm
instance (a b : H32) (fs gs : List Fd) (ks : List CK) (p : Prop) [h : EqF fs gs ks p] : EqF (.arr 32 (u8s a.1) :: fs) (.arr 32 (u8s b.1) :: gs) (List.replicate 32 (.int .u8) ++ ks) (a = b ∧ p) := ⟨by
  obtain ⟨h1, h2, h3⟩ := h.ok
  refine ⟨(of_h32 a).app h1, (of_h32 b).app h2, ?_⟩
  show u8s a.1 ++ fl fs = u8s b.1 ++ fl gs ↔ _
  rw [← h3, ← h32_eq]
  constructor
  · intro e
    exact List.append_inj e (by simp [u8s, a.2.1, b.2.1])
  · rintro ⟨e1, e2⟩
    rw [e1, e2]⟩
instance (priority := 1100) (a b : H32) : EqF [.arr 32 (u8s a.1)] [.arr 32 (u8s b.1)] (List.replicate 32 (.int .u8)) (a = b) := ⟨EqF.last ⟨of_h32 a, of_h32 b, h32_eq⟩⟩
section
variable {P : Program} {t : TypeId} {q : Bool}
instance (fs gs : List Fd) (ks : List CK) (p : Prop) [Decidable p] [h : EqF fs gs ks p] [k : KindC P t ks] : StepC P (o_bin .eql t q (.agg (fl fs).toArray) (.agg (fl gs).toArray)) True (.bool (decide p)) := ⟨fun _ => p_eql_agg q h.ok.1 h.ok.2.1 h.ok.2.2⟩
instance (a b : H32) [k : KindC P t (List.replicate 32 (.int .u8))] : StepC P (o_bin .eql t q (.agg (u8s a.1).toArray) (.agg (u8s b.1).toArray)) True (.bool (decide (a = b))) := ⟨fun _ => p_eql_agg q (of_h32 a) (of_h32 b) h32_eq⟩
class IsSl (P : Program) (t : TypeId) : Prop where
  ok : ∃ e, P.underlying t = some (.slice e)
class IsPt (P : Program) (t : TypeId) : Prop where
  ok : ∃ e, P.underlying t = some (.pointer e)
theorem isSl_of {P : Program} {t : TypeId} (h : (match P.underlying t with
    | some (.slice _) => true
    | _ => false) = true) : IsSl P t := ⟨by
  split at h
  · rename_i e hu; exact ⟨e, hu⟩
  · cases h⟩
theorem isPt_of {P : Program} {t : TypeId} (h : (match P.underlying t with
    | some (.pointer _) => true
    | _ => false) = true) : IsPt P t := ⟨by
  split at h
  · rename_i e hu; exact ⟨e, hu⟩
  · cases h⟩
instance (a : Option Addr) (n c : Nat) [h : IsSl P t] : StepC P (o_bin .eql t q (.slice a n c) (.slice none 0 0)) True (.bool a.isNone) := ⟨fun _ => by obtain ⟨e, he⟩ := h.ok; exact p_eq_nil t q a n c e he⟩
instance (a : Addr) [h : IsPt P t] : StepC P (o_bin .eql t q (.pointer (some a)) (.pointer none)) True (.bool false) := ⟨fun _ => by obtain ⟨e, he⟩ := h.ok; exact p_ptr_nil t q (some a) e he⟩
instance (a : Addr) [h : IsPt P t] : StepC P (o_bin .neq t q (.pointer (some a)) (.pointer none)) True (.bool true) := ⟨fun _ => by obtain ⟨e, he⟩ := h.ok; exact p_ptr_nnil t q (some a) e he⟩
end
end Go.Proofs.YtopcnkejobomaaaGreat
namespace Go.Proofs.YtopcnkejobomaaaGreat
open Go.RowKit
section
variable {P : Program} {s : Sem Next} {c p : Prop} [Decidable p] {v : Value} {w w' w0 : World} {K : Value → World → Prop} {X : List PanicEntry → World → Prop} {Kq : Value → Prop} {t : TypeId} {q : Bool}
theorem mop_cT [h : StepC P s c (.bool (decide p))] (hc : c) (hp : p) (hk : K (.bool true) w) : mop P s w K X := mop_c (h := h) hc (by rw [decide_eq_true hp]; exact hk)
theorem mop_cF [h : StepC P s c (.bool (decide p))] (hc : c) (hp : ¬ p) (hk : K (.bool false) w) : mop P s w K X := mop_c (h := h) hc (by rw [decide_eq_false hp]; exact hk)
theorem mop_cS [h : StepC P s c (.bool (decide p))] (hc : c) (ht : p → K (.bool true) w) (hf : ¬ p → K (.bool false) w) : mop P s w K X := mop_c (h := h) hc (by
  by_cases hp : p
  · rw [decide_eq_true hp]; exact ht hp
  · rw [decide_eq_false hp]; exact hf hp)
theorem dp_cT [h : StepC P s c (.bool (decide p))] (hc : c) (hp : p) (hk : Kq (.bool true)) : dp P s Kq := dp_c (h := h) hc (by rw [decide_eq_true hp]; exact hk)
theorem dp_cF [h : StepC P s c (.bool (decide p))] (hc : c) (hp : ¬ p) (hk : Kq (.bool false)) : dp P s Kq := dp_c (h := h) hc (by rw [decide_eq_false hp]; exact hk)
theorem dp_cS [h : StepC P s c (.bool (decide p))] (hc : c) (ht : p → Kq (.bool true)) (hf : ¬ p → Kq (.bool false)) : dp P s Kq := dp_c (h := h) hc (by
  by_cases hp : p
  · rw [decide_eq_true hp]; exact ht hp
  · rw [decide_eq_false hp]; exact hf hp)
theorem map_at {α β : Type} {f : α → β} {l : List α} {i : Nat} (h : i < l.length) : (l.map f)[i]? = some (f l[i]) := by simp [h]
theorem map_atI {α β : Type} {f : α → β} {l : List α} {i : Nat} (h : i < l.length) : (l.map f)[(i : Int).toNat]? = some (f l[i]) := by simp [h]
class AtA (L : List Res) (A : Option Addr) (n cap e sz : outParam Nat) (ps : outParam (List (List Fd))) (R : outParam (List Res)) : Prop where
  perm : L.Perm (rowR e sz A n cap ps :: R)
instance (L : List Res) (A : Option Addr) (n cap e sz : Nat) (ps : List (List Fd)) : AtA (rowR e sz A n cap ps :: L) A n cap e sz ps L := ⟨.refl _⟩
instance (priority := 900) (L R : List Res) (A : Option Addr) (n cap e sz : Nat) (ps : List (List Fd)) (x : Res) [h : AtA L A n cap e sz ps R] : AtA (x :: L) A n cap e sz ps (x :: R) := ⟨(h.perm.cons x).trans (.swap ..)⟩
class AtF (L : List Res) (g : Nat) (t : outParam Nat) (fs : outParam (List Fd)) (R : outParam (List Res)) : Prop where
  perm : L.Perm (fb g t fs :: R)
instance (L : List Res) (g t : Nat) (fs : List Fd) : AtF (fb g t fs :: L) g t fs L := ⟨.refl _⟩
instance (priority := 900) (L R : List Res) (g t : Nat) (fs : List Fd) (x : Res) [h : AtF L g t fs R] : AtF (x :: L) g t fs (x :: R) := ⟨(h.perm.cons x).trans (.swap ..)⟩
theorem Mem.up {H : Hp} {L R : List Res} {n cap e sz : Nat} {ps : List (List Fd)} (h : Mem H w0 L w) (A : Option Addr) [k : AtA L A n cap e sz ps R] : Mem H w0 (rowR e sz A n cap ps :: R) w := h.perm k.perm
theorem Mem.upB {H : Hp} {L R : List Res} {t : Nat} {fs : List Fd} (h : Mem H w0 L w) (g : Nat) [k : AtF L g t fs R] : Mem H w0 (fb g t fs :: R) w := h.perm k.perm
theorem Mem.fz0 {H : Hp} {L : List Res} {n cap e sz : Nat} {ps : List (List Fd)} {A : Option Addr} (h : Mem H w0 (rowR e sz A n cap ps :: L) w) : ∃ H', Le w0 H H' ∧ Mem H' w0 L w ∧ Sl H' sz A ps ∧ ps.length = n := h.freeze ⟨.refl _⟩
theorem Mem.reads {H : Hp} {L R : List Res} {n cap e sz : Nat} {ps : List (List Fd)} {A : Option Addr} (h : Mem H w0 L w) [k : AtA L A n cap e sz ps R] : Sl (Hp.of w) sz A ps := by
  obtain ⟨B, ⟨B1, B2, rfl, ⟨h1, h2, h3⟩, _⟩, hs, _⟩ := (h.perm k.perm).own
  rcases h3 with ⟨_, hn, _, _⟩ | ⟨g, sp, rfl, rfl, _⟩
  · have : ps = [] := List.eq_nil_of_length_eq_zero (by omega)
    subst this
    exact Sl.nil _ _ _
  · obtain ⟨fr, hb, _⟩ := hs.own ⟨g, e, fls ps ++ sp, true⟩ (by simp)
    refine ⟨h1, .inr ⟨g, 0, (fls ps ++ sp).toArray, rfl, by simp [Hp.of, hb], fun j u hu => ?_⟩⟩
    rw [Nat.zero_add]
    simp only [List.getElem?_toArray]
    rw [List.getElem?_append_left (List.getElem?_eq_some_iff.1 hu).1]
    exact hu
theorem dm_ownE {H : Hp} {L : List Res} {f : Nat} {args : List Value} {ext : Bool} {Q : Value → World → Prop} (h : Mem H w0 L w) [hf : FunC P f] (hc : ∀ w, Mem H w0 L w → Calls P f args.toArray w fun en w' => ∃ v, en = .returned v ∧ Ext w w' ∧ Q v w') (hk : ∀ v w', Ext w w' → Q v w' → K v w') : df P w (o_call (fv f) args) ext K :=
  df_mop fun w1 hd => mop_to (hc w1 (h.drawn hd)) fun en w' ⟨v, he, hx, hq⟩ => by
    subst he
    exact ⟨fun _ => hd.ext.trans hx, hk v w' (hd.ext.trans hx) hq⟩
class SubL (L L' : List Res) : Prop where
  ok : ∃ R, L.Perm (R ++ L')
instance (L : List Res) : SubL L [] := ⟨⟨L, by simp⟩⟩
instance (priority := 1100) (L : List Res) : SubL L L := ⟨⟨[], .refl _⟩⟩
instance (priority := 900) (L R L' : List Res) (r : Res) [h : AtX L r R] [k : SubL R L'] : SubL L (r :: L') := ⟨by
  obtain ⟨Q, hq⟩ := k.ok
  exact ⟨Q, h.perm.trans ((hq.cons r).trans List.perm_middle.symm)⟩⟩
theorem Mem.sub {H : Hp} {L L' : List Res} (h : Mem H w0 L w) [k : SubL L L'] : Mem H w0 L' w := by
  obtain ⟨R, hp⟩ := k.ok
  exact (h.perm hp).dropN
structure FbF (H : Hp) (g : Nat) (fs : List Fd) : Prop where
  ok : FOk fs
  at_ : ∃ c : Array Value, H g = some c ∧ ∀ (j : Nat) (u : Value), (fl fs)[j]? = some u → c[j]? = some u
theorem FbF.mono {H H' : Hp} {g : Nat} {fs : List Fd} (h : FbF H g fs) (k : H.le H') : FbF H' g fs := by
  obtain ⟨c, h1, h2⟩ := h.at_
  exact ⟨h.ok, c, k g c h1, h2⟩
theorem FbF.load {H : Hp} {g i n : Nat} {fs gs : List Fd} {q : Bool} {v : Value} (h : FbF H g fs) (hf : Fz H w) (c : ShpC P t q n) (s : Sub fs i n gs) (f : Fv q gs v) : PurW P w (o_load t (.pointer (some ⟨g, i, none⟩))) v := by
  obtain ⟨c', h1, h2⟩ := h.at_
  obtain ⟨k1, k2, k3⟩ := s.cells h.ok
  exact pw_fields c.ok k1 (by rw [← k1.len]; exact k2) f fun j u hu => by rw [hf.cell h1]; exact h2 _ _ (k3 j u hu)
abbrev Mem.now {H : Hp} {L : List Res} (_ : Mem H w0 L w) (w' : World) : Prop := Mem H w0 L w'
theorem mguard_n1 {run : (Value → World → Prop) → Prop} (h : K undef w) : mguard (.bool true) false run w K := mguard_no (by simp) h
theorem mguard_n2 {run : (Value → World → Prop) → Prop} (h : K undef w) : mguard (.bool false) true run w K := mguard_no (by simp) h
instance (b : Bool) : StepC P (o_un .not (.bool b)) True (.bool (!b)) := ⟨fun _ w => by simp [o_un, sv, go_sem]⟩
instance (priority := 1100) (a b : H32) [k : KindC P t (List.replicate 32 (.int .u8))] : StepC P (o_bin .neq t q (.agg (u8s a.1).toArray) (.agg (u8s b.1).toArray)) True (.bool (decide (a ≠ b))) := ⟨fun _ => by
  have := p_neq_agg (P := P) (t := t) q (of_h32 a) (of_h32 b) h32_eq
  rwa [show (!decide (a = b)) = decide (a ≠ b) by simp] at this⟩
instance (a b : Value) : StepC P (o_extract (.tuple #[a, b]) 0) True a := ⟨fun _ => p_extract [a, b] 0 a rfl⟩
instance (a b : Value) : StepC P (o_extract (.tuple #[a, b]) 1) True b := ⟨fun _ => p_extract [a, b] 1 b rfl⟩
instance (a b c : Value) : StepC P (o_extract (.tuple #[a, b, c]) 0) True a := ⟨fun _ => p_extract [a, b, c] 0 a rfl⟩
instance (a b c : Value) : StepC P (o_extract (.tuple #[a, b, c]) 1) True b := ⟨fun _ => p_extract [a, b, c] 1 b rfl⟩
instance (a b c : Value) : StepC P (o_extract (.tuple #[a, b, c]) 2) True c := ⟨fun _ => p_extract [a, b, c] 2 c rfl⟩
def hset (h : H32) (i : Nat) (a : Int) : H32 := ⟨h.1.set i (a % 256), by simp [h.2.1], fun x hx => by
  rcases List.mem_or_eq_of_mem_set hx with hx | rfl
  · exact h.2.2 x hx
  · omega⟩
class HFill (P : Program) (t : TypeId) (h : H32) (ps : List (Nat × Value)) (c : outParam Prop) (h' : outParam H32) : Prop where
  ok : c → Instr.fill (fun i => some (i * 1, 1)) (u8s h.1).toArray ps = some (u8s h'.1).toArray
instance (h : H32) : HFill P t h [] True h := ⟨fun _ => rfl⟩
class HshC (P : Program) (t : TypeId) : Prop where
  ok : ∃ e, P.underlying t = some (.array 32 e) ∧ (P.info? e).map (·.size) = some 1
  zer : zer P t = some (u8s hzero.1)
instance (priority := 1100) (ps : List (Nat × Value)) (c : Prop) (h' : H32) [k : HshC P t] [f : HFill P t hzero ps c h'] : StepC P (o_build t ps) c (.agg (u8s h'.1).toArray) := ⟨fun hc w => by
  obtain ⟨e, hu, hs⟩ := k.ok
  have hz := k.zer
  have hf := f.ok hc
  unfold Go.Proofs.YtopcnkejobomaaaGreat.zer at hz
  cases hi : P.info? t with
  | none => simp [hi] at hz
  | some x =>
    cases hzz : x.zero with
    | none => simp [hi, hzz] at hz
    | some z =>
      simp [hi, hzz] at hz
      have hz' : z.cells = (u8s hzero.1).toArray := by rw [← hz]
      have h1 : (zeroValue t).run P w = .ok z w := by simp [zeroValue, typeInfo, hi, hzz]
      have h2 : (sizeOf e).run P w = .ok 1 w := run_size hs w
      simp only [o_build, sv, Instr.build, Sem.run_bind, h1, Result.andThen_ok, run_underlying hu, hz', h2]
      rw [hf]
      rfl⟩
end
end Go.Proofs.YtopcnkejobomaaaGreat
namespace Go.Proofs.YtopcnkejobomaaaGreat
open Go.RowKit
def byts (l : List Int) : List (List Fd) := l.map fun x => [.one (.int .u8 x)]
theorem byts_app (a b : List Int) : byts (a ++ b) = byts a ++ byts b := by simp [byts]
theorem byts_length (l : List Int) : (byts l).length = l.length := by simp [byts]
theorem fls_byts (l : List Int) : fls (byts l) = u8s l := by
  induction l with
  | nil => rfl
  | cons x l ih =>
    show fl [.one (.int .u8 x)] ++ fls (byts l) = _
    rw [ih]
    rfl
theorem els_byts (l : List Int) : Els 1 (byts l) := Els.map (f := fun x => [.one (.int .u8 x)]) l fun _ => ⟨inferInstance, rfl⟩
class StrC (P : Program) (s d : TypeId) : Prop where
  ok : (∃ e, P.underlying s = some (.slice e) ∧ P.underlying e = some (.int .u8)) ∧ P.underlying d = some .string
section
variable {P : Program} {H H' : Hp} {w0 w w' : World} {L R R' : List Res} {g i : Nat} {t t' tx ty : TypeId} {fs gs : List Fd} {put : Res → List Res} {n m c cap e e' sz by_ : Nat} {K : Value → World → Prop} {X : List PanicEntry → World → Prop} {Kq : Value → Prop} {A : Option Addr} {l l' : List Int} {ps : List (List Fd)} {ks : List Bool}
theorem pw_str {s d : TypeId} (h : StrC P s d) {b o : Nat} (hl : l.length = n) (hc : ∀ j u, (u8s l)[j]? = some u → w.cell? ⟨b, o + j, none⟩ = some u) : PurW P w (o_conv s d (.slice (some ⟨b, o, none⟩) n c)) (.string (strOfNums l)) := by
  obtain ⟨⟨e, h1, h2⟩, h3⟩ := h.ok
  exact pw_conv_bytes s d e b o n c l h1 h2 h3 hl fun j hj => hc j _ (u8s_at l j (by omega))
theorem Mem.bytesF (h : Mem H w0 L w) (k : AtB L g t' fs put) (s : Sub fs i n [.arr n (u8s l)]) : l.length = n ∧ ∀ j u, (u8s l)[j]? = some u → w.cell? ⟨g, i + j, none⟩ = some u := by
  obtain ⟨h1, h2, h3⟩ := h.field k s
  have := (h1.ok _ (List.mem_singleton.2 rfl)).len
  refine ⟨by simpa [Fd.cells, Fd.size, u8s] using this, fun j u hu => h3 j u (by simpa [fl, Fd.cells] using hu)⟩
theorem mm_cvb {s d : TypeId} (h : Mem H w0 L w) [st : StrC P s d] [k : AtB L g t' fs put] [q : Sub fs i n [.arr n (u8s l)]] (hk : K (.string (strOfNums l)) w) : mop P (o_conv s d (.slice (some ⟨g, i, none⟩) n c)) w K X := by
  obtain ⟨h1, h2⟩ := h.bytesF k q
  exact mop_purW (pw_str st h1 h2) hk
theorem Mem.rd (h : Mem H w0 L w) (k : AtA L A n cap e sz ps R) : Rd w A (fls ps) := by
  rcases Nat.eq_zero_or_pos n with hn | hn
  · have := (h.rowLen (A := A) (n := n) ⟨k.perm⟩).1
    have : ps = [] := List.eq_nil_of_length_eq_zero (by omega)
    subst this
    exact .inl rfl
  · obtain ⟨g, rfl⟩ := h.rowAt (n := n) ⟨k.perm⟩ hn
    have hc := (h.perm k.perm).rowCells (put := fun r => r :: R) ⟨⟨R, .refl _, fun _ => .refl _⟩⟩
    have hlt : g < w.heap.size := by
      obtain ⟨B, ⟨B1, B2, rfl, ⟨_, _, h3⟩, _⟩, hs, _⟩ := (h.perm k.perm).own
      rcases h3 with ⟨hA, _⟩ | ⟨g', sp, hA, rfl, _⟩
      · cases hA
      · cases hA
        exact (hs.own ⟨g, e, fls ps ++ sp, true⟩ (by simp)).lt
    exact .inr ⟨g, 0, rfl, hlt, fun j u hu => by rw [Nat.zero_add]; exact hc.2.2 j u hu⟩
theorem mm_cvr {s d : TypeId} {k : Nat} (h : Mem H w0 L w) [st : StrC P s d] [a : AtA L A n cap e 1 (byts l) R] (hk' : k ≤ l.length) (hk : K (.string (strOfNums (l.take k))) w) : mop P (o_conv s d (.slice A k c)) w K X := by
  have hr := h.rd a
  rw [fls_byts] at hr
  rcases Nat.eq_zero_or_pos k with h0 | h0
  · subst h0
    obtain ⟨⟨e, h1, h2⟩, h3⟩ := st.ok
    refine mop_purW ?_ hk
    cases A with
    | none =>
      have : (convert s d (.slice none 0 c)).run P w = .ok (.string (strOfNums [])) w := by
        rw [run_convert_bytes_string w s d e none 0 c h1 h2 h3]
        rfl
      simp only [PurW, o_conv, sv, Sem.run_bind, this, Result.andThen_ok]
      rfl
    | some a' =>
      have := run_convert_bytes_back (P := P) w s d e a' c [] h1 h2 h3 (fun j hj => by simp at hj)
      simp only [PurW, o_conv, sv, Sem.run_bind]
      rw [show ([] : List UInt8).length = 0 from rfl] at this
      rw [this]
      rfl
  · rcases hr with hr | ⟨b, o, rfl, _, hc⟩
    · have : l = [] := by simpa [u8s] using hr
      subst this
      simp at hk'
      omega
    · refine mop_purW (pw_str st (by simp; omega) fun j u hu => hc j u ?_) hk
      have hj : j < k := by have := (List.getElem?_eq_some_iff.1 hu).1; simp [u8s] at this; omega
      rw [show u8s (l.take k) = (u8s l).take k by simp [u8s, List.map_take], List.getElem?_take] at hu
      simpa [hj] using hu
class SubA (fs : List Fd) (o : Nat) (n : outParam Nat) (ls : outParam (List Value)) (put : outParam (List Value → List Fd)) : Prop where
  ok : ∃ a b, fs = a ++ [.arr n ls] ++ b ∧ fsz a = o ∧ ∀ l', put l' = a ++ [.arr n l'] ++ b
instance (fs : List Fd) (n : Nat) (ls : List Value) : SubA (.arr n ls :: fs) 0 n ls (fun l' => .arr n l' :: fs) := ⟨⟨[], fs, rfl, rfl, fun _ => rfl⟩⟩
theorem SubA.cell {fs : List Fd} {o : Nat} {ls : List Value} {putA : List Value → List Fd} (s : SubA fs o n ls putA) (hf : FOk fs) {j : Nat} {v : Value} (hv : ls[j]? = some v) : (fl fs)[o + j]? = some v := by
  obtain ⟨a, b, rfl, rfl, _⟩ := s.ok
  have h1 := hf.left.left.len
  rw [fl_append, fl_append, List.append_assoc, List.getElem?_append_right (by omega), h1, show fsz a + j - fsz a = j by omega]
  rw [List.getElem?_append_left (by have := (List.getElem?_eq_some_iff.1 hv).1; simpa [fl, Fd.cells] using this)]
  simpa [fl, Fd.cells] using hv
theorem mm_lda {o j : Nat} {ls : List Value} {v : Value} {putA : List Value → List Fd} (h : Mem H w0 L w) [cc : ShpC P t false 1] [k : AtB L g t' fs put] [s : SubA fs o n ls putA] (hv : ls[j]? = some v) (hk : K v w) : mop P (o_load t (.pointer (some ⟨g, o + j, none⟩))) w K X := by
  obtain ⟨hb, hf⟩ := h.blf k
  exact mop_purW (pw_load1 cc.ok (by rw [hb.cell]; exact s.cell hf hv)) hk
theorem mm_appb (h : Mem H w0 L w) [cc : SliC P t e 1 by_] [k : AtR L A n cap e 1 (byts l) R] [cx : SliC P tx e' 1 by_] [b : AtB L g t' fs put] [q : Sub fs i m [.arr m (u8s l')]] (hb : n + m ≤ 9223372036854775807 ∧ (n + m) * by_ ≤ 140737488355328)
    (hk : ∀ A' cap' w', Mem H w0 (rowR e 1 A' (n + m) cap' (byts (l ++ l')) :: R) w' → K (.slice A' (n + m) cap') w') : mop P (o_builtin .append #[t, tx] ty ks [.slice A n cap, .slice (some ⟨g, i, none⟩) m c]) w K X := by
  obtain ⟨h1, h2⟩ := h.bytesF b q
  have hs : Src P 1 tx (.slice (some ⟨g, i, none⟩) m c) m (fls (byts l')) w := by
    rw [fls_byts]
    exact Src.ofSlice w cx.und ⟨g, i, none⟩ m c (u8s l') (by simp [u8s, h1]) (fun j u hu => by rw [Addr.add_lit]; exact h2 j u hu) (u8s_one l')
  refine mm_app h k hs (els_byts l') (by rw [byts_length, h1]) hb.1 hb.2 fun A' cap' w' h3 => hk A' cap' w' (by rwa [byts_app])
theorem addr_add0 (a : Option Addr) : a.map (·.add 0) = a := by
  cases a with
  | none => rfl
  | some a => obtain ⟨b, o, s⟩ := a; rfl
instance (a : Option Addr) (n cap : Nat) (kk : IntKind) (hh : Int) [cs : SliS P t sz] : StepC P (o_slice t (.slice a n cap) none (some (.int kk hh)) none) (0 ≤ hh ∧ hh ≤ cap) (.slice a hh.toNat cap) := ⟨fun ⟨h0, h1⟩ w => by
  have h2 := run_slice_h (P := P) w t a n cap cs.ok.1 kk hh h0 h1
  have h3 : (sizeOf (P.elem t)).run P w = .ok sz w := run_size cs.ok.2 w
  simp only [o_slice, sv, Sem.run_bind, run_sliceAt_slice w t _ _ _ _ cs.ok.1, h2, h3, Result.andThen_ok, sliced, Nat.zero_mul, addr_add0, ite_self, Nat.sub_zero]
  rfl⟩
instance (b o n cap : Nat) (kk : IntKind) (ll : Int) [cs : SliS P t sz] : StepC P (o_slice t (.slice (some ⟨b, o, none⟩) n cap) (some (.int kk ll)) none none) (0 ≤ ll ∧ ll ≤ n ∧ ll < cap) (.slice (some ⟨b, o + ll.toNat * sz, none⟩) (n - ll.toNat) (cap - ll.toNat)) := ⟨fun ⟨h0, h1, h4⟩ w => by
  have h2 := run_slice_l (P := P) w t (some ⟨b, o, none⟩) n cap cs.ok.1 kk ll h0 h1
  have h3 : (sizeOf (P.elem t)).run P w = .ok sz w := run_size cs.ok.2 w
  have h5 : ¬ cap = ll.toNat := by omega
  simp only [o_slice, sv, Sem.run_bind, run_sliceAt_slice w t _ _ _ _ cs.ok.1, h2, h3, Result.andThen_ok, sliced, if_neg h5, Option.map_some, Addr.add_lit]
  rfl⟩
end
end Go.Proofs.YtopcnkejobomaaaGreat
namespace Go.Proofs.YtopcnkejobomaaaGreat
open Go.RowKit Go.ChangeShapes Go.WideShapes
end Go.Proofs.YtopcnkejobomaaaGreat
namespace Go.Proofs.YtopcnkejobomaaaGreat
open Go.RowKit Go.ChangeShapes Go.WideShapes Go.Deep
end Go.Proofs.YtopcnkejobomaaaGreat
namespace Go.Proofs.YtopcnkejobomaaaGreat
open Go.RowKit Go.ChangeShapes Go.WideShapes
theorem byte_range {n : Int} (h : (Lit.int .u8 n).wf = true) : 0 ≤ n ∧ n < 256 := by have := bounds_u8 h; omega
end Go.Proofs.YtopcnkejobomaaaGreat
namespace Go.Proofs.YtopcnkejobomaaaGreat
open Go.RowKit Go.ChangeShapes Go.WideShapes Go.Deep
structure Rdr (P : Program) (t : TypeId) (sz : Nat) {α : Type} (rel : Hp → List Fd → α → Prop) : Prop where
  size : P.cellsOf t = sz
  read : ∀ {H : Type} (enc : TypeId × Value → H) (w : World) (base : Nat) (spare : Nat → Bool) (held : Bool) (n : Nat) (cs : List Value) (y : DataW H × List MemPlace), DataW.trod enc P w base spare held n t cs = some y → ∃ fs x, cs = fl fs ∧ FOk fs ∧ fsz fs = sz ∧ rel (Hp.of w) fs x
section
variable {P : Program} {t e : TypeId} {sz : Nat} {α β : Type} {rel : Hp → List Fd → α → Prop}
theorem Rdr.map (h : Rdr P t sz rel) {rel' : Hp → List Fd → β → Prop} (hm : ∀ H fs x, FOk fs → rel H fs x → ∃ y, rel' H fs y) : Rdr P t sz rel' :=
  ⟨h.size, fun enc w base spare held n cs y hy => by
    obtain ⟨fs, x, h1, h2, h3, h4⟩ := h.read enc w base spare held n cs y hy
    obtain ⟨z, hz⟩ := hm _ _ _ h2 h4
    exact ⟨fs, z, h1, h2, h3, hz⟩⟩
theorem rdr_int {k : IntKind} (ht : P.underlying t = some (.int k)) (hc : P.cellsOf t = 1) : Rdr P t 1 (fun _ fs (x : Int) => fs = [.one (.int k x)] ∧ (Lit.int k x).wf = true) :=
  ⟨hc, fun enc w base spare held n cs y hy => by
    obtain ⟨a, rfl, _, hw⟩ := DataW.trod_int ht hy
    exact ⟨[.one (.int k a)], a, rfl, inferInstance, rfl, rfl, hw⟩⟩
theorem rdr_bool (ht : P.underlying t = some .bool) (hc : P.cellsOf t = 1) : Rdr P t 1 (fun _ fs (x : Bool) => fs = [.one (.bool x)]) :=
  ⟨hc, fun enc w base spare held n cs y hy => by
    obtain ⟨a, rfl, _⟩ := DataW.trod_bool ht hy
    exact ⟨[.one (.bool a)], a, rfl, inferInstance, rfl, rfl⟩⟩
theorem rdr_arr {k : IntKind} {m : Nat} (ht : P.underlying t = some (.array m e)) (he : P.underlying e = some (.int k)) (hc : P.cellsOf t = m) (hce : P.cellsOf e = 1) : Rdr P t m (fun _ fs (x : List Int) => fs = [.arr m (x.map (.int k))] ∧ x.length = m ∧ ∀ z ∈ x, (Lit.int k z).wf = true) :=
  ⟨hc, fun enc w base spare held n cs y hy => by
    obtain ⟨ys, q, _, hx, hlen, hl, hcell⟩ := DataW.trod_array ht hy
    rw [hc] at hlen
    simp only [hce, Nat.mul_one] at hcell
    have hone : ∀ i (hi : i < m), ∃ a, cs[i]? = some (.int k a) ∧ (Lit.int k a).wf = true := fun i hi => by
      have h1 := hcell i hi
      rw [List.getElem?_eq_getElem (by omega)] at h1
      obtain ⟨a, ea, _, wa⟩ := DataW.trod_int he h1
      refine ⟨a, ?_, wa⟩
      have := congrArg (·[0]?) ea
      simpa using this
    let f : Value → Int := fun v => match v with | .int _ a => a | _ => 0
    have hcs : cs = (cs.map f).map (.int k) := by
      rw [List.map_map]
      refine List.ext_getElem (by simp) fun i g1 g2 => ?_
      obtain ⟨a, ha, _⟩ := hone i (by omega)
      rw [List.getElem?_eq_getElem g1] at ha
      simp only [Option.some.injEq] at ha
      simp only [List.getElem_map, ha, Function.comp, f]
    refine ⟨[.arr m ((cs.map f).map (.int k))], cs.map f, by simp only [fl, Fd.cells, List.append_nil]; exact hcs, ?_, by simp [fsz, Fd.size], rfl, by simp [hlen], ?_⟩
    · have : FdOk (.arr m ((cs.map f).map (.int k))) := ⟨by simp [Fd.cells, Fd.size, hlen], fun u hu => by
        simp only [Fd.cells, List.mem_map] at hu
        obtain ⟨_, _, rfl⟩ := hu
        rfl⟩
      infer_instance
    · intro z hz
      obtain ⟨v, hv, rfl⟩ := List.mem_map.1 hz
      obtain ⟨i, g1, rfl⟩ := List.mem_iff_getElem.1 hv
      obtain ⟨a, ha, hw⟩ := hone i (by omega)
      rw [List.getElem?_eq_getElem g1] at ha
      simp only [Option.some.injEq] at ha
      rw [ha]
      exact hw⟩
theorem rdr_h32 (ht : P.underlying t = some (.array 32 e)) (he : P.underlying e = some (.int .u8)) (hc : P.cellsOf t = 32) (hce : P.cellsOf e = 1) : Rdr P t 32 (fun _ fs (x : H32) => fs = [.arr 32 (u8s x.1)]) :=
  (rdr_arr ht he hc hce).map fun _ _ x _ ⟨h1, h2, h3⟩ => ⟨⟨x, h2, fun z hz => byte_range (h3 z hz)⟩, h1⟩
structure Rdf (P : Program) (fds : List Field) (off sz : Nat) {α : Type} (rel : Hp → List Fd → α → Prop) : Prop where
  read : ∀ {H : Type} (enc : TypeId × Value → H) (w : World) (base : Nat) (spare : Nat → Bool) (held : Bool) (n : Nat) (cs : List Value), cs.length = off + sz → (∀ f ∈ fds, ∃ y, DataW.trod enc P w base spare held n f.type ((cs.drop f.offset).take (P.cellsOf f.type)) = some y) → ∃ fs x, cs.drop off = fl fs ∧ FOk fs ∧ fsz fs = sz ∧ rel (Hp.of w) fs x
theorem Rdf.nil (off : Nat) : Rdf P [] off 0 (fun _ fs (_ : Unit) => fs = []) := ⟨fun enc w base spare held n cs hl _ => ⟨[], (), by rw [List.drop_eq_nil_of_le (by omega)]; rfl, inferInstance, rfl, rfl⟩⟩
theorem Rdf.cons {f : Field} {fds : List Field} {off a b s ty : Nat} {rel' : Hp → List Fd → β → Prop} (h : Rdr P ty a rel) (hty : f.type = ty) (ho : f.offset = off) (hs : s = b + a) (k : Rdf P fds (off + a) b rel') : Rdf P (f :: fds) off s (fun H fs (x : α × β) => ∃ gs hs, fs = gs ++ hs ∧ FOk gs ∧ rel H gs x.1 ∧ rel' H hs x.2) :=
  ⟨fun enc w base spare held n cs hl hf => by
    subst hs; subst hty
    obtain ⟨y, hy⟩ := hf f (List.mem_cons_self ..)
    obtain ⟨gs, x, h1, h2, h3, h4⟩ := h.read enc w base spare held n _ y hy
    obtain ⟨hs, z, k1, k2, k3, k4⟩ := k.read enc w base spare held n cs (by omega) fun g hg => hf g (List.mem_cons_of_mem _ hg)
    refine ⟨gs ++ hs, (x, z), ?_, h2.app k2, by rw [fsz_append, h3, k3]; omega, gs, hs, rfl, h2, h4, k4⟩
    rw [fl_append, ← h1, ← k1, h.size, ho, ← List.drop_drop, List.take_append_drop]⟩
theorem rdr_struct {fds : Array Field} (ht : P.underlying t = some (.struct fds)) (hc : P.cellsOf t = sz) (k : Rdf P fds.toList 0 sz rel) : Rdr P t sz rel :=
  ⟨hc, fun enc w base spare held n cs y hy => by
    obtain ⟨xs, m, _, _, hl, hlen, hf⟩ := DataW.trod_struct ht hy
    have := k.read enc w base spare held m cs (by omega) fun f hm => by
      obtain ⟨i, hi, rfl⟩ := List.mem_iff_getElem.1 hm
      have hi' : i < fds.size := by simpa using hi
      have := hf i fds[i] (by simp [hi'])
      rw [List.getElem?_eq_getElem (by omega)] at this
      simp only [Array.getElem_toList]
      exact ⟨_, this⟩
    simpa using this⟩
def All2 (r : List Fd → α → Prop) : List (List Fd) → List α → Prop
  | [], [] => True
  | p :: ps, x :: xs => r p x ∧ All2 r ps xs
  | _, _ => False
theorem All2.len {r : List Fd → α → Prop} : ∀ {ps : List (List Fd)} {xs : List α}, All2 r ps xs → ps.length = xs.length
  | [], [], _ => rfl
  | _ :: _, _ :: _, h => by simp [All2.len h.2]
  | [], _ :: _, h => h.elim
  | _ :: _, [], h => h.elim
theorem All2.eq_map {f : α → List Fd} {good : α → Prop} : ∀ {ps : List (List Fd)} {xs : List α}, All2 (fun p x => p = f x ∧ good x) ps xs → ps = xs.map f ∧ ∀ x ∈ xs, good x
  | [], [], _ => ⟨rfl, fun _ h => by cases h⟩
  | p :: ps, x :: xs, h => by
    obtain ⟨⟨rfl, hg⟩, h2⟩ := h
    obtain ⟨rfl, h4⟩ := All2.eq_map h2
    exact ⟨rfl, fun y hy => by
      cases hy with
      | head => exact hg
      | tail _ hy => exact h4 y hy⟩
  | [], _ :: _, h => h.elim
  | _ :: _, [], h => h.elim
theorem rdr_slice (ht : P.underlying t = some (.slice e)) (hc : P.cellsOf t = 1) (hsz : 0 < sz) (k : Rdr P e sz rel) : Rdr P t 1 (fun H fs (xs : List α) => ∃ A cap ps, fs = [.one (.slice A xs.length cap)] ∧ xs.length ≤ maxLen ∧ Sl H sz A ps ∧ All2 (rel H) ps xs) :=
  ⟨hc, fun enc w base spare held n cs y hy => by
    rcases DataW.trod_slice ht hy with ⟨rfl, _⟩ | ⟨a, len, cap, elems, rest, m, _, rfl, _, hb, hlc, hcm, hel, hat, _⟩
    · exact ⟨[.one (.slice none 0 0)], [], rfl, inferInstance, rfl, none, 0, [], rfl, by simp, Sl.nil _ _ _, trivial⟩
    · have key : ∀ j, j ≤ len → ∃ (ps : List (List Fd)) (xs : List α), ps.length = j ∧ Els sz ps ∧ All2 (rel (Hp.of w)) ps xs ∧ ∀ i u, (fls ps)[i]? = some u → w.cell? (a.add i) = some u := by
        intro j
        induction j with
        | zero => exact fun _ => ⟨[], [], rfl, Els.nil sz, trivial, fun i u h => by simp [fls] at h⟩
        | succ j ih =>
          intro hj
          obtain ⟨ps, xs, h1, h2, h3, h4⟩ := ih (by omega)
          have := hat j (by omega)
          rw [List.getElem?_eq_getElem (by omega)] at this
          obtain ⟨cs, hcs, htr⟩ := Option.bind_eq_some_iff.1 this
          obtain ⟨_, hcl, hcat⟩ := World.cells?_some hcs
          obtain ⟨fs, x, e1, e2, e3, e4⟩ := k.read enc w base spare held m cs _ htr
          have app : ∀ {ps : List (List Fd)} {xs : List α}, All2 (rel (Hp.of w)) ps xs → All2 (rel (Hp.of w)) (ps ++ [fs]) (xs ++ [x]) := by
            intro ps
            induction ps with
            | nil => intro xs h; cases xs with
              | nil => exact ⟨e4, trivial⟩
              | cons _ _ => exact h.elim
            | cons p ps ih => intro xs h; cases xs with
              | nil => exact h.elim
              | cons y xs => exact ⟨h.1, ih h.2⟩
          refine ⟨ps ++ [fs], xs ++ [x], by simp [h1], h2.app (Els.cons e2 e3 (Els.nil sz)), app h3, fun i u hu => ?_⟩
          rw [fls_app] at hu
          rcases Nat.lt_or_ge i (fls ps).length with hlt | hge
          · rw [List.getElem?_append_left hlt] at hu
            exact h4 i u hu
          · rw [List.getElem?_append_right hge] at hu
            have hl := h2.len
            simp only [fls, List.map_cons, List.map_nil, List.flatten_cons, List.flatten_nil, List.append_nil] at hu
            have hu2 : cs[i - (ps.map fl).flatten.length]? = some u := by rw [e1]; exact hu
            obtain ⟨hj1, hj2⟩ := List.getElem?_eq_some_iff.1 hu2
            have hq := hcat (i - (ps.map fl).flatten.length) (by rw [hcl] at hj1; exact hj1)
            rw [hu2, Go.Deep.add_add, k.size] at hq
            have hl2 : (ps.map fl).flatten.length = j * sz := by rw [← h1]; exact hl
            have hge2 : j * sz ≤ i := by rw [← hl2]; exact hge
            rw [hl2, show j * sz + (i - j * sz) = i by omega] at hq
            exact hq
      obtain ⟨ps, xs, h1, h2, h3, h4⟩ := key len (Nat.le_refl _)
      have hxl : xs.length = len := by rw [← h3.len, h1]
      refine ⟨[.one (.slice (some a) len cap)], xs, rfl, inferInstance, rfl, some a, cap, ps, by rw [hxl], by rw [hxl]; omega, ⟨h2, ?_⟩, h3⟩
      rcases Nat.eq_zero_or_pos (fls ps).length with h0 | h0
      · left
        rw [h2.len] at h0
        rcases Nat.mul_eq_zero.1 h0 with h | h
        · exact List.eq_nil_of_length_eq_zero h
        · omega
      · obtain ⟨u, hu⟩ : ∃ u, (fls ps)[0]? = some u := ⟨_, List.getElem?_eq_getElem h0⟩
        have hc0 := h4 0 u hu
        obtain ⟨b, off, spot⟩ := a
        have hs : spot = none := by simpa [Addr.add] using World.cell?_spot hc0
        subst hs
        have hcell : ∃ c t' fr, w.heap[b]? = some (.cells c t' fr) := by
          rw [Addr.add_lit] at hc0
          unfold World.cell? at hc0
          split at hc0
          · rename_i c t' fr hh
            exact ⟨c, t', fr, hh⟩
          · cases hc0
        obtain ⟨c, t', fr, hh⟩ := hcell
        refine .inr ⟨b, off, c, rfl, by simp [Hp.of, hh], fun j v hv => ?_⟩
        have := h4 j v hv
        rw [Addr.add_lit, cell_of_row w b (off + j) c t' fr hh] at this
        exact this⟩
theorem arg_agg {w : World} {r : Reach} {b : Nat} {v : Value} {fs : List Fd} (hd : (match P.underlying t with
    | some (.struct _) | some (.array _ _) => true
    | _ => false) = true) (hv : Value.okWide P w r b t v) (h : v.cells.toList = fl fs) : v = .agg (fl fs).toArray := by
  unfold Value.okWide at hv
  split at hd
  · rename_i hu
    simp only [hu] at hv
    obtain ⟨cs, rfl, _⟩ := hv
    rw [← h]
    simp [Value.cells]
  · rename_i hu
    simp only [hu] at hv
    obtain ⟨cs, rfl, _⟩ := hv
    rw [← h]
    simp [Value.cells]
  · cases hd
theorem arg_one {w : World} {r : Reach} {b : Nat} {v u : Value} (hd : (match P.underlying t with
    | some .bool | some (.int _) | some .string | some (.slice _) => true
    | _ => false) = true) (hv : Value.okWide P w r b t v) (h : v.cells.toList = fl [.one u]) : v = u := by
  have key : ∀ cs, v ≠ .agg cs := by
    rintro cs rfl
    unfold Value.okWide Cell.okWide Cell.ok at hv
    split at hd
    all_goals first
      | (cases hd; done)
      | (rename_i hu; simp only [hu] at hv)
  cases v <;> first
    | (exact absurd rfl (key _))
    | (simpa [Value.cells, fl, Fd.cells] using h)
end
end Go.Proofs.YtopcnkejobomaaaGreat
namespace Go.Proofs.YtopcnkejobomaaaGreat
open Go.RowKit
def lev : Nat → Int → Int
  | 0, _ => 0
  | f + 1, x => if x % 2 = 1 then lev f (x / 2) + 1 else 0
def level (x : Int) : Int := lev 8 x
def thr (n x : Int) : Prop := (1 ≤ n ∧ n ≤ 64) ∧ 0 ≤ x ∧ x ≤ 2 * n - 2
instance (n x : Int) : Decidable (thr n x) := by unfold thr; infer_instance
def pw (k : Int) : Int := 2 ^ k.toNat
def rtN (n : Int) : Int := if n ≤ 1 then 1 else if n ≤ 2 then 2 else if n ≤ 4 then 4 else if n ≤ 8 then 8 else if n ≤ 16 then 16 else if n ≤ 32 then 32 else 64
def root (n : Int) : Int := if thr n 0 then rtN n - 1 else -1
def pLeft (n x : Int) : Int := if thr n x ∧ level x ≠ 0 then x - pw (level x - 1) else -1
def rg : Nat → Int → Int → Int
  | 0, _, x => x
  | f + 1, n, x => if thr n x then x else rg f n (x - pw (level x - 1))
def okr : Nat → Int → Int → Bool
  | 0, _, _ => false
  | f + 1, n, x => decide (0 ≤ x ∧ x < 128) && (decide (thr n x) || (decide (1 ≤ level x) && okr f n (x - pw (level x - 1))))
def pRight (n x : Int) : Int := if thr n x ∧ level x ≠ 0 then rg 8 n (x + pw (level x - 1)) else -1
def up1 (x : Int) : Int := x - x / pw (level x + 1) % 2 * pw (level x + 1) + pw (level x)
def ug : Nat → Int → Int → Int
  | 0, _, x => x
  | f + 1, n, x => if thr n (up1 x) then up1 x else ug f n (up1 x)
def oku : Nat → Int → Int → Bool
  | 0, _, _ => false
  | f + 1, n, x => decide (0 ≤ x ∧ x < 128) && (decide (thr n (up1 x)) || oku f n (up1 x))
def pAbove (n x : Int) : Int := if thr n x ∧ x ≠ root n then ug 8 n x else -1
def pBeside (n x : Int) : Int := if pAbove n x < 0 then -1 else if x < pAbove n x then pRight n (pAbove n x) else pLeft n (pAbove n x)
def pFrom (n x : Int) : Int := if thr n x then (x + 1 - pw (level x)) / 2 else 0
def pTo (n x : Int) : Int := if thr n x then min ((x + 1 + pw (level x)) / 2) n else 0
def halfI (n : Int) : Int := if n ≤ 2 then 1 else if n ≤ 4 then 2 else if n ≤ 8 then 4 else if n ≤ 16 then 8 else if n ≤ 32 then 16 else 32
def rootI (a n : Int) : Int := if n = 1 then 2 * a else 2 * (a + halfI n) - 1
def fnd : Nat → Int → Int → Int → Int → Int → Int × Int × Int × Int
  | 0, a, n, _, p, b => (a, n, p, b)
  | f + 1, a, n, x, p, b => if rootI a n = x then (a, n, p, b) else if x < rootI a n then fnd f a (halfI n) x (rootI a n) (rootI (a + halfI n) (n - halfI n)) else fnd f (a + halfI n) (n - halfI n) x (rootI a n) (rootI a (halfI n))
def fd (n x : Int) : Int × Int × Int × Int := fnd 7 0 n x (-1) (-1)
def rRoot (n : Int) : Int := if thr n 0 then rootI 0 n else -1
def lf (n x : Int) : Int := if thr n x then (if (fd n x).2.1 = 1 then -1 else rootI (fd n x).1 (halfI (fd n x).2.1)) else -1
def rt (n x : Int) : Int := if thr n x then (if (fd n x).2.1 = 1 then -1 else rootI ((fd n x).1 + halfI (fd n x).2.1) ((fd n x).2.1 - halfI (fd n x).2.1)) else -1
def ab (n x : Int) : Int := if thr n x then (fd n x).2.2.1 else -1
def bs (n x : Int) : Int := if thr n x then (fd n x).2.2.2 else -1
def fro (n x : Int) : Int := if thr n x then (fd n x).1 else 0
def til (n x : Int) : Int := if thr n x then (fd n x).1 + (fd n x).2.1 else 0
def hld (n x p : Int) : Prop := fro n x ≤ p ∧ p < til n x
instance (n x p : Int) : Decidable (hld n x p) := by unfold hld; infer_instance
def dirF : Nat → Int → Int → List Int
  | 0, _, _ => []
  | f + 1, n, x => if ab n x < 0 then [] else ab n x :: dirF f n (ab n x)
def dirL (n l : Int) : List Int := if 0 ≤ l ∧ l < n then dirF 8 n (2 * l) else []
set_option maxRecDepth 100000 in
theorem bough_fin : ∀ n : Fin 65, ∀ x : Fin 127, thr (n.val : Int) (x.val : Int) →
    pLeft n.val x.val = lf n.val x.val ∧ pRight n.val x.val = rt n.val x.val ∧ pAbove n.val x.val = ab n.val x.val ∧ pBeside n.val x.val = bs n.val x.val ∧ pFrom n.val x.val = fro n.val x.val ∧ pTo n.val x.val = til n.val x.val ∧
    (level x.val ≠ 0 → okr 8 n.val (x.val + pw (level x.val - 1)) = true) ∧ ((x.val : Int) ≠ root n.val → oku 8 n.val x.val = true) ∧ root n.val = rRoot n.val := by decide +kernel
end Go.Proofs.YtopcnkejobomaaaGreat
namespace Go.Proofs.YtopcnkejobomaaaGreat
def pX (R : Ending → World → Prop) : List PanicEntry → World → Prop := fun c w => R (.panicked c) w
abbrev m (R : Ending → World → Prop) (s : Sem Next) (w : World) (K : Value → World → Prop) : Prop := mop Tryz.prog s w K (pX R)
theorem mixed : Tryz.prog.follows .mixedOrders = true := by kernel_rfl
abbrev ml1 (a0 : Value) (w : World) (F : Value → Env → World → (Value → World → Prop) → Prop) : Prop :=
  ∃ (I : Value → World → Prop) (μ : Value → World → Nat), I a0 w ∧ ∀ (x0 : Value) (u : Env) (w : World), I x0 w → F x0 u w (fun y0 w2 => I y0 w2 ∧ μ y0 w2 < μ x0 w)
abbrev ml2 (a0 a1 : Value) (w : World) (F : Value → Value → Env → World → (Value → Value → World → Prop) → Prop) : Prop :=
  ∃ (I : Value → Value → World → Prop) (μ : Value → Value → World → Nat), I a0 a1 w ∧ ∀ (x0 x1 : Value) (u : Env) (w : World), I x0 x1 w → F x0 x1 u w (fun y0 y1 w2 => I y0 y1 w2 ∧ μ y0 y1 w2 < μ x0 x1 w)
abbrev ml9 (a0 a1 a2 a3 a4 a5 a6 a7 a8 : Value) (w : World) (F : Value → Value → Value → Value → Value → Value → Value → Value → Value → Env → World → (Value → Value → Value → Value → Value → Value → Value → Value → Value → World → Prop) → Prop) : Prop :=
  ∃ (I : Value → Value → Value → Value → Value → Value → Value → Value → Value → World → Prop) (μ : Value → Value → Value → Value → Value → Value → Value → Value → Value → World → Nat), I a0 a1 a2 a3 a4 a5 a6 a7 a8 w ∧ ∀ (x0 x1 x2 x3 x4 x5 x6 x7 x8 : Value) (u : Env) (w : World), I x0 x1 x2 x3 x4 x5 x6 x7 x8 w → F x0 x1 x2 x3 x4 x5 x6 x7 x8 u w (fun y0 y1 y2 y3 y4 y5 y6 y7 y8 w2 => I y0 y1 y2 y3 y4 y5 y6 y7 y8 w2 ∧ μ y0 y1 y2 y3 y4 y5 y6 y7 y8 w2 < μ x0 x1 x2 x3 x4 x5 x6 x7 x8 w)
abbrev mj0 (F : (World → Prop) → Prop) (G : Env → World → Prop) : Prop :=
  ∃ J : World → Prop, F J ∧ ∀ (u : Env) (w : World), J w → G u w
abbrev mj1 (F : (Value → World → Prop) → Prop) (G : Value → Env → World → Prop) : Prop :=
  ∃ J : Value → World → Prop, F J ∧ ∀ (x0 : Value) (u : Env) (w : World), J x0 w → G x0 u w
instance : ShpC Tryz.prog 25 true 2 := ⟨by kernel_rfl⟩
instance : FunC Tryz.prog 5 := ⟨by kernel_rfl⟩
instance : FunC Tryz.prog 6 := ⟨by kernel_rfl⟩
instance : FunC Tryz.prog 7 := ⟨by kernel_rfl⟩
instance : FunC Tryz.prog 8 := ⟨by kernel_rfl⟩
instance : FunC Tryz.prog 9 := ⟨by kernel_rfl⟩
instance : FunC Tryz.prog 10 := ⟨by kernel_rfl⟩
instance (ty : TypeId) (cs : List Bool) (a : Option Addr) (n c : Nat) : StepC Tryz.prog (o_builtin .len #[29] ty cs [.slice a n c]) True (.int .i64 n) := ⟨fun _ => p_len_slice 29 ty 3 cs a n c (by kernel_rfl)⟩
instance : FunC Tryz.prog 11 := ⟨by kernel_rfl⟩
instance : FunC Tryz.prog 12 := ⟨by kernel_rfl⟩
instance : ZerF Tryz.prog 25 [.one (.slice none 0 0), .one (.slice none 0 0)] := ⟨by kernel_rfl, inferInstance⟩
instance : BltC Tryz.prog 25 := ⟨by kernel_rfl⟩
instance : FunC Tryz.prog 13 := ⟨by kernel_rfl⟩
instance : KindC Tryz.prog 33 (List.replicate 32 (.int .u8)) := ⟨by kernel_rfl, by kernel_rfl, by kernel_rfl⟩
instance : FunC Tryz.prog 14 := ⟨by kernel_rfl⟩
instance : ZerF Tryz.prog 33 [.arr 32 (u8s hzero.1)] := ⟨by kernel_rfl, inferInstance⟩
instance : HshC Tryz.prog 33 := ⟨⟨5, by kernel_rfl, by kernel_rfl⟩, by kernel_rfl⟩
instance : FunC Tryz.prog 15 := ⟨by kernel_rfl⟩
instance : FunC Tryz.prog 16 := ⟨by kernel_rfl⟩
instance : FunC Tryz.prog 18 := ⟨by kernel_rfl⟩
instance : FunC Tryz.prog 17 := ⟨by kernel_rfl⟩
instance : FunC Tryz.prog 19 := ⟨by kernel_rfl⟩
instance (priority := 1100) (b : Nat) : StepC Tryz.prog (o_fieldAddr 25 (.pointer (some ⟨b, 0, none⟩)) 0) True (.pointer (some ⟨b, 0, none⟩)) := ⟨fun _ => p_fieldAddr 25 b 0 0 0 1 (by kernel_rfl) (by decide)⟩
instance : ShpC Tryz.prog 22 false 1 := ⟨by kernel_rfl⟩
instance (ty : TypeId) (cs : List Bool) (a : Option Addr) (n c : Nat) : StepC Tryz.prog (o_builtin .len #[22] ty cs [.slice a n c]) True (.int .i64 n) := ⟨fun _ => p_len_slice 22 ty 57 cs a n c (by kernel_rfl)⟩
instance : FunC Tryz.prog 20 := ⟨by kernel_rfl⟩
instance : FunC Tryz.prog 21 := ⟨by kernel_rfl⟩
instance : ShpC Tryz.prog 33 true 32 := ⟨by kernel_rfl⟩
instance : ShpC Tryz.prog 3 false 1 := ⟨by kernel_rfl⟩
instance : ZerF Tryz.prog 53 [.one (.int .i64 0), .one (.int .i64 0), .one (.int .i64 0)] := ⟨by kernel_rfl, inferInstance⟩
instance : BltC Tryz.prog 53 := ⟨by kernel_rfl⟩
instance : PlC Tryz.prog 53 0 0 1 := ⟨by kernel_rfl⟩
instance : PlC Tryz.prog 53 1 1 1 := ⟨by kernel_rfl⟩
instance : PlC Tryz.prog 53 2 2 1 := ⟨by kernel_rfl⟩
instance : ZerF Tryz.prog 57 [.one (.int .i64 0), .arr 32 (u8s hzero.1), .arr 32 (u8s hzero.1), .arr 32 (u8s hzero.1)] := ⟨by kernel_rfl, inferInstance⟩
instance : BltC Tryz.prog 57 := ⟨by kernel_rfl⟩
instance : PlC Tryz.prog 57 0 0 1 := ⟨by kernel_rfl⟩
instance : FunC Tryz.prog 28 := ⟨by kernel_rfl⟩
instance : FunC Tryz.prog 29 := ⟨by kernel_rfl⟩
instance (priority := 1100) (b : Nat) : StepC Tryz.prog (o_fieldAddr 25 (.pointer (some ⟨b, 0, none⟩)) 1) True (.pointer (some ⟨b, 1, none⟩)) := ⟨fun _ => p_fieldAddr 25 b 0 1 1 1 (by kernel_rfl) (by decide)⟩
instance : ShpC Tryz.prog 23 false 1 := ⟨by kernel_rfl⟩
instance (ty : TypeId) (cs : List Bool) (a : Option Addr) (n c : Nat) : StepC Tryz.prog (o_builtin .len #[23] ty cs [.slice a n c]) True (.int .i64 n) := ⟨fun _ => p_len_slice 23 ty 61 cs a n c (by kernel_rfl)⟩
instance (b o n c : Nat) (k : IntKind) (i : Int) : StepC Tryz.prog (o_indexAddr 23 (.slice (some ⟨b, o, none⟩) n c) (.int k i)) (0 ≤ i ∧ i < n) (.pointer (some ⟨b, o + i.toNat * 66, none⟩)) := ⟨fun h => p_indexAddr_slice (P := Tryz.prog) 23 b o n c k i 66 (by kernel_rfl) (by kernel_rfl) h.1 h.2⟩
instance : SliS Tryz.prog 23 66 := ⟨by kernel_rfl, by kernel_rfl⟩
instance (priority := 1100) (b : Nat) : StepC Tryz.prog (o_fieldAddr 61 (.pointer (some ⟨b, 0, none⟩)) 3) True (.pointer (some ⟨b, 65, none⟩)) := ⟨fun _ => p_fieldAddr 61 b 0 3 65 1 (by kernel_rfl) (by decide)⟩
instance (b o : Nat) : StepC Tryz.prog (o_fieldAddr 61 (.pointer (some ⟨b, o, none⟩)) 3) True (.pointer (some ⟨b, o + 65, none⟩)) := ⟨fun _ => p_fieldAddr 61 b o 3 65 1 (by kernel_rfl) (by decide)⟩
instance : ShpC Tryz.prog 29 false 1 := ⟨by kernel_rfl⟩
instance : SliS Tryz.prog 22 97 := ⟨by kernel_rfl, by kernel_rfl⟩
instance : ShpC Tryz.prog 57 true 97 := ⟨by kernel_rfl⟩
instance : KindC Tryz.prog 57 ((.int .i64) :: (List.replicate 32 (.int .u8) ++ (List.replicate 32 (.int .u8) ++ (List.replicate 32 (.int .u8))))) := ⟨by kernel_rfl, by kernel_rfl, by kernel_rfl⟩
instance (priority := 1100) (b : Nat) : StepC Tryz.prog (o_fieldAddr 57 (.pointer (some ⟨b, 0, none⟩)) 0) True (.pointer (some ⟨b, 0, none⟩)) := ⟨fun _ => p_fieldAddr 57 b 0 0 0 1 (by kernel_rfl) (by decide)⟩
instance (b o : Nat) : StepC Tryz.prog (o_fieldAddr 57 (.pointer (some ⟨b, o, none⟩)) 0) True (.pointer (some ⟨b, o + 0, none⟩)) := ⟨fun _ => p_fieldAddr 57 b o 0 0 1 (by kernel_rfl) (by decide)⟩
instance : ShpC Tryz.prog 61 true 66 := ⟨by kernel_rfl⟩
instance : ZerF Tryz.prog 61 [.one (.bool false), .arr 32 (u8s hzero.1), .arr 32 (u8s hzero.1), .one (.slice none 0 0)] := ⟨by kernel_rfl, inferInstance⟩
instance (priority := 1100) (b : Nat) : StepC Tryz.prog (o_fieldAddr 61 (.pointer (some ⟨b, 0, none⟩)) 0) True (.pointer (some ⟨b, 0, none⟩)) := ⟨fun _ => p_fieldAddr 61 b 0 0 0 1 (by kernel_rfl) (by decide)⟩
instance (b o : Nat) : StepC Tryz.prog (o_fieldAddr 61 (.pointer (some ⟨b, o, none⟩)) 0) True (.pointer (some ⟨b, o + 0, none⟩)) := ⟨fun _ => p_fieldAddr 61 b o 0 0 1 (by kernel_rfl) (by decide)⟩
instance : ShpC Tryz.prog 4 false 1 := ⟨by kernel_rfl⟩
instance (priority := 1100) (b : Nat) : StepC Tryz.prog (o_fieldAddr 61 (.pointer (some ⟨b, 0, none⟩)) 1) True (.pointer (some ⟨b, 1, none⟩)) := ⟨fun _ => p_fieldAddr 61 b 0 1 1 32 (by kernel_rfl) (by decide)⟩
instance (priority := 1100) (b : Nat) : StepC Tryz.prog (o_fieldAddr 61 (.pointer (some ⟨b, 0, none⟩)) 2) True (.pointer (some ⟨b, 33, none⟩)) := ⟨fun _ => p_fieldAddr 61 b 0 2 33 32 (by kernel_rfl) (by decide)⟩
instance : SliS Tryz.prog 29 1 := ⟨by kernel_rfl, by kernel_rfl⟩
instance : FunC Tryz.prog 30 := ⟨by kernel_rfl⟩
instance : ZerF Tryz.prog 63 [.arr 65 (List.replicate 65 (.bool false))] := ⟨by kernel_rfl, inferInstance⟩
instance (b o : Nat) (k : IntKind) (i : Int) : StepC Tryz.prog (o_indexAddr 63 (.pointer (some ⟨b, o, none⟩)) (.int k i)) (0 ≤ i ∧ i < 65) (.pointer (some ⟨b, o + i.toNat, none⟩)) := ⟨fun h => by have := p_indexAddr_array (P := Tryz.prog) 63 b o 65 k i 1 (by kernel_rfl) (by kernel_rfl) (by kernel_rfl) h.1 h.2; rwa [Nat.mul_one] at this⟩
instance : FunC Tryz.prog 31 := ⟨by kernel_rfl⟩
instance : FunC Tryz.prog 32 := ⟨by kernel_rfl⟩
instance : FunC Tryz.prog 34 := ⟨by kernel_rfl⟩
instance : FdC Tryz.prog 25 0 0 1 false := ⟨by kernel_rfl⟩
instance : FunC Tryz.prog 35 := ⟨by kernel_rfl⟩
instance : FunC Tryz.prog 33 := ⟨by kernel_rfl⟩
instance : FunC Tryz.prog 36 := ⟨by kernel_rfl⟩
instance : ZerF Tryz.prog 3 [.one (.int .i64 0)] := ⟨by kernel_rfl, inferInstance⟩
instance : ZerF Tryz.prog 29 [.one (.slice none 0 0)] := ⟨by kernel_rfl, inferInstance⟩
instance : ZerF Tryz.prog 69 [.one .nilFunc] := ⟨by kernel_rfl, inferInstance⟩
instance : FunC Tryz.prog 37 := ⟨by kernel_rfl⟩
instance : ShpC Tryz.prog 69 false 1 := ⟨by kernel_rfl⟩
instance : ZerC Tryz.prog 33 (List.replicate 32 (.int .u8 0)) := ⟨by kernel_rfl⟩
instance : FunC Tryz.prog 40 := ⟨by kernel_rfl⟩
instance : FunC Tryz.prog 42 := ⟨by kernel_rfl⟩
instance : FunC Tryz.prog 41 := ⟨by kernel_rfl⟩
instance : ZerF Tryz.prog 32 [.arr 32 (u8s hzero.1)] := ⟨by kernel_rfl, inferInstance⟩
instance : ZerC Tryz.prog 32 (List.replicate 32 (.int .u8 0)) := ⟨by kernel_rfl⟩
instance : FunC Tryz.prog 43 := ⟨by kernel_rfl⟩
instance : ShpC Tryz.prog 32 true 32 := ⟨by kernel_rfl⟩
instance : FunC Tryz.prog 44 := ⟨by kernel_rfl⟩
instance : FunC Tryz.prog 45 := ⟨by kernel_rfl⟩
instance : FunC Tryz.prog 46 := ⟨by kernel_rfl⟩
instance : FunC Tryz.prog 47 := ⟨by kernel_rfl⟩
instance : FunC Tryz.prog 48 := ⟨by kernel_rfl⟩
instance : FunC Tryz.prog 49 := ⟨by kernel_rfl⟩
instance : FunC Tryz.prog 50 := ⟨by kernel_rfl⟩
instance : FunC Tryz.prog 51 := ⟨by kernel_rfl⟩
instance : FunC Tryz.prog 52 := ⟨by kernel_rfl⟩
instance : FunC Tryz.prog 53 := ⟨by kernel_rfl⟩
instance : FunC Tryz.prog 54 := ⟨by kernel_rfl⟩
instance : FunC Tryz.prog 55 := ⟨by kernel_rfl⟩
instance (priority := 1100) (b : Nat) : StepC Tryz.prog (o_fieldAddr 57 (.pointer (some ⟨b, 0, none⟩)) 2) True (.pointer (some ⟨b, 33, none⟩)) := ⟨fun _ => p_fieldAddr 57 b 0 2 33 32 (by kernel_rfl) (by decide)⟩
instance : FunC Tryz.prog 72 := ⟨by kernel_rfl⟩
instance : FunC Tryz.prog 73 := ⟨by kernel_rfl⟩
instance : BltC Tryz.prog 61 := ⟨by kernel_rfl⟩
instance : FunC Tryz.prog 74 := ⟨by kernel_rfl⟩
instance : FunC Tryz.prog 75 := ⟨by kernel_rfl⟩
instance : FunC Tryz.prog 76 := ⟨by kernel_rfl⟩
instance : FunC Tryz.prog 77 := ⟨by kernel_rfl⟩
instance : FunC Tryz.prog 78 := ⟨by kernel_rfl⟩
instance : FunC Tryz.prog 79 := ⟨by kernel_rfl⟩
instance : FunC Tryz.prog 80 := ⟨by kernel_rfl⟩
instance (a : Int) : StepC Tryz.prog (o_conv 3 121 (.int .i64 a)) True (.int .u64 (a % 18446744073709551616)) := ⟨fun _ => by have := p_conv_int (P := Tryz.prog) 3 121 .i64 .u64 a (by kernel_rfl) (by kernel_rfl); rwa [show IntKind.wrap .u64 a = a % 18446744073709551616 by simp [IntKind.wrap, IntKind.bits, IntKind.signed]] at this⟩
instance : FunC Tryz.prog 38 := ⟨by kernel_rfl⟩
instance : FunC Tryz.prog 39 := ⟨by kernel_rfl⟩
instance : FunC Tryz.prog 83 := ⟨by kernel_rfl⟩
instance : FunC Tryz.prog 84 := ⟨by kernel_rfl⟩
instance : FunC Tryz.prog 85 := ⟨by kernel_rfl⟩
instance (ty : TypeId) (cs : List Bool) (a : Option Addr) (n c : Nat) : StepC Tryz.prog (o_builtin .len #[123] ty cs [.slice a n c]) True (.int .i64 n) := ⟨fun _ => p_len_slice 123 ty 9 cs a n c (by kernel_rfl)⟩
instance (b o n c : Nat) (k : IntKind) (i : Int) : StepC Tryz.prog (o_indexAddr 123 (.slice (some ⟨b, o, none⟩) n c) (.int k i)) (0 ≤ i ∧ i < n) (.pointer (some ⟨b, o + i.toNat, none⟩)) := ⟨fun h => by have := p_indexAddr_slice (P := Tryz.prog) 123 b o n c k i 1 (by kernel_rfl) (by kernel_rfl) h.1 h.2; rwa [Nat.mul_one] at this⟩
instance : ShpC Tryz.prog 9 false 1 := ⟨by kernel_rfl⟩
instance : FunC Tryz.prog 86 := ⟨by kernel_rfl⟩
instance : ZerC Tryz.prog 133 (List.replicate 72 (.int .u8 0)) := ⟨by kernel_rfl⟩
instance (b o : Nat) (k : IntKind) (i : Int) : StepC Tryz.prog (o_indexAddr 133 (.pointer (some ⟨b, o, none⟩)) (.int k i)) (0 ≤ i ∧ i < 72) (.pointer (some ⟨b, o + i.toNat, none⟩)) := ⟨fun h => by have := p_indexAddr_array (P := Tryz.prog) 133 b o 72 k i 1 (by kernel_rfl) (by kernel_rfl) (by kernel_rfl) h.1 h.2; rwa [Nat.mul_one] at this⟩
instance : ShpC Tryz.prog 5 false 1 := ⟨by kernel_rfl⟩
instance (priority := 1100) (b : Nat) : StepC Tryz.prog (o_fieldAddr 131 (.pointer (some ⟨b, 0, none⟩)) 2) True (.pointer (some ⟨b, 72, none⟩)) := ⟨fun _ => p_fieldAddr 131 b 0 2 72 1 (by kernel_rfl) (by decide)⟩
instance (a : Int) : StepC Tryz.prog (o_conv 3 134 (.int .i64 a)) True (.int .u64 (a % 18446744073709551616)) := ⟨fun _ => by have := p_conv_int (P := Tryz.prog) 3 134 .i64 .u64 a (by kernel_rfl) (by kernel_rfl); rwa [show IntKind.wrap .u64 a = a % 18446744073709551616 by simp [IntKind.wrap, IntKind.bits, IntKind.signed]] at this⟩
instance (a : Int) : StepC Tryz.prog (o_conv 134 5 (.int .u64 a)) True (.int .u8 (a % 256)) := ⟨fun _ => by have := p_conv_int (P := Tryz.prog) 134 5 .u64 .u8 a (by kernel_rfl) (by kernel_rfl); rwa [show IntKind.wrap .u8 a = a % 256 by simp [IntKind.wrap, IntKind.bits, IntKind.signed]] at this⟩
instance (b o : Nat) (k : IntKind) (l : Int) : StepC Tryz.prog (o_slice 133 (.pointer (some ⟨b, o, none⟩)) none (some (.int k l)) none) (0 ≤ l ∧ l ≤ 72) (.slice (some ⟨b, o, none⟩) l.toNat 72) := ⟨fun h => p_slice_array_h (P := Tryz.prog) 133 b o 72 k l 1 (by kernel_rfl) (by kernel_rfl) (by kernel_rfl) h.1 h.2⟩
instance : StrC Tryz.prog 135 9 := ⟨⟨5, by kernel_rfl, by kernel_rfl⟩, by kernel_rfl⟩
instance (priority := 1100) (b : Nat) : StepC Tryz.prog (o_fieldAddr 131 (.pointer (some ⟨b, 0, none⟩)) 0) True (.pointer (some ⟨b, 0, none⟩)) := ⟨fun _ => p_fieldAddr 131 b 0 0 0 8 (by kernel_rfl) (by decide)⟩
instance (priority := 1200) (b : Nat) (k : IntKind) : StepC Tryz.prog (o_indexAddr 126 (.pointer (some ⟨b, 0, none⟩)) (.int k 0)) True (.pointer (some ⟨b, 0, none⟩)) := ⟨fun _ => by have := p_indexAddr_array (P := Tryz.prog) 126 b 0 8 k 0 1 (by kernel_rfl) (by kernel_rfl) (by kernel_rfl) (by omega) (by omega); exact this⟩
instance (priority := 1200) (b : Nat) (k : IntKind) : StepC Tryz.prog (o_indexAddr 126 (.pointer (some ⟨b, 0, none⟩)) (.int k 1)) True (.pointer (some ⟨b, 1, none⟩)) := ⟨fun _ => by have := p_indexAddr_array (P := Tryz.prog) 126 b 0 8 k 1 1 (by kernel_rfl) (by kernel_rfl) (by kernel_rfl) (by omega) (by omega); exact this⟩
instance (priority := 1200) (b : Nat) (k : IntKind) : StepC Tryz.prog (o_indexAddr 126 (.pointer (some ⟨b, 0, none⟩)) (.int k 2)) True (.pointer (some ⟨b, 2, none⟩)) := ⟨fun _ => by have := p_indexAddr_array (P := Tryz.prog) 126 b 0 8 k 2 1 (by kernel_rfl) (by kernel_rfl) (by kernel_rfl) (by omega) (by omega); exact this⟩
instance (priority := 1200) (b : Nat) (k : IntKind) : StepC Tryz.prog (o_indexAddr 126 (.pointer (some ⟨b, 0, none⟩)) (.int k 3)) True (.pointer (some ⟨b, 3, none⟩)) := ⟨fun _ => by have := p_indexAddr_array (P := Tryz.prog) 126 b 0 8 k 3 1 (by kernel_rfl) (by kernel_rfl) (by kernel_rfl) (by omega) (by omega); exact this⟩
instance (priority := 1200) (b : Nat) (k : IntKind) : StepC Tryz.prog (o_indexAddr 126 (.pointer (some ⟨b, 0, none⟩)) (.int k 4)) True (.pointer (some ⟨b, 4, none⟩)) := ⟨fun _ => by have := p_indexAddr_array (P := Tryz.prog) 126 b 0 8 k 4 1 (by kernel_rfl) (by kernel_rfl) (by kernel_rfl) (by omega) (by omega); exact this⟩
instance (priority := 1200) (b : Nat) (k : IntKind) : StepC Tryz.prog (o_indexAddr 126 (.pointer (some ⟨b, 0, none⟩)) (.int k 5)) True (.pointer (some ⟨b, 5, none⟩)) := ⟨fun _ => by have := p_indexAddr_array (P := Tryz.prog) 126 b 0 8 k 5 1 (by kernel_rfl) (by kernel_rfl) (by kernel_rfl) (by omega) (by omega); exact this⟩
instance (priority := 1200) (b : Nat) (k : IntKind) : StepC Tryz.prog (o_indexAddr 126 (.pointer (some ⟨b, 0, none⟩)) (.int k 6)) True (.pointer (some ⟨b, 6, none⟩)) := ⟨fun _ => by have := p_indexAddr_array (P := Tryz.prog) 126 b 0 8 k 6 1 (by kernel_rfl) (by kernel_rfl) (by kernel_rfl) (by omega) (by omega); exact this⟩
instance (priority := 1200) (b : Nat) (k : IntKind) : StepC Tryz.prog (o_indexAddr 126 (.pointer (some ⟨b, 0, none⟩)) (.int k 7)) True (.pointer (some ⟨b, 7, none⟩)) := ⟨fun _ => by have := p_indexAddr_array (P := Tryz.prog) 126 b 0 8 k 7 1 (by kernel_rfl) (by kernel_rfl) (by kernel_rfl) (by omega) (by omega); exact this⟩
instance (b o : Nat) (k : IntKind) (i : Int) : StepC Tryz.prog (o_indexAddr 126 (.pointer (some ⟨b, o, none⟩)) (.int k i)) (0 ≤ i ∧ i < 8) (.pointer (some ⟨b, o + i.toNat, none⟩)) := ⟨fun h => by have := p_indexAddr_array (P := Tryz.prog) 126 b o 8 k i 1 (by kernel_rfl) (by kernel_rfl) (by kernel_rfl) h.1 h.2; rwa [Nat.mul_one] at this⟩
instance : ShpC Tryz.prog 125 false 1 := ⟨by kernel_rfl⟩
instance (a : Int) : StepC Tryz.prog (o_conv 125 5 (.int .u32 a)) True (.int .u8 (a % 256)) := ⟨fun _ => by have := p_conv_int (P := Tryz.prog) 125 5 .u32 .u8 a (by kernel_rfl) (by kernel_rfl); rwa [show IntKind.wrap .u8 a = a % 256 by simp [IntKind.wrap, IntKind.bits, IntKind.signed]] at this⟩
instance (b o : Nat) (k : IntKind) (i : Int) : StepC Tryz.prog (o_indexAddr 33 (.pointer (some ⟨b, o, none⟩)) (.int k i)) (0 ≤ i ∧ i < 32) (.pointer (some ⟨b, o + i.toNat, none⟩)) := ⟨fun h => by have := p_indexAddr_array (P := Tryz.prog) 33 b o 32 k i 1 (by kernel_rfl) (by kernel_rfl) (by kernel_rfl) h.1 h.2; rwa [Nat.mul_one] at this⟩
instance : FunC Tryz.prog 87 := ⟨by kernel_rfl⟩
instance : ZerC Tryz.prog 127 (List.replicate 64 (.int .u32 0)) := ⟨by kernel_rfl⟩
instance : ShpC Tryz.prog 127 true 64 := ⟨by kernel_rfl⟩
instance (ty : TypeId) (cs : List Bool) (a : Option Addr) (n c : Nat) : StepC Tryz.prog (o_builtin .len #[135] ty cs [.slice a n c]) True (.int .i64 n) := ⟨fun _ => p_len_slice 135 ty 5 cs a n c (by kernel_rfl)⟩
instance (ty : TypeId) (cs : List Bool) (s : ByteArray) : StepC Tryz.prog (o_builtin .len #[9] ty cs [.string s]) True (.int .i64 s.size) := ⟨fun _ => p_len_string 9 ty cs s (by kernel_rfl)⟩
instance : ZerC Tryz.prog 126 (List.replicate 8 (.int .u32 0)) := ⟨by kernel_rfl⟩
instance : ShpC Tryz.prog 126 true 8 := ⟨by kernel_rfl⟩
instance : FunC Tryz.prog 88 := ⟨by kernel_rfl⟩
instance (b o : Nat) (k : IntKind) (i : Int) : StepC Tryz.prog (o_indexAddr 127 (.pointer (some ⟨b, o, none⟩)) (.int k i)) (0 ≤ i ∧ i < 64) (.pointer (some ⟨b, o + i.toNat, none⟩)) := ⟨fun h => by have := p_indexAddr_array (P := Tryz.prog) 127 b o 64 k i 1 (by kernel_rfl) (by kernel_rfl) (by kernel_rfl) h.1 h.2; rwa [Nat.mul_one] at this⟩
instance : FunC Tryz.prog 89 := ⟨by kernel_rfl⟩
instance (b o : Nat) (k : IntKind) (i : Int) : StepC Tryz.prog (o_indexAddr 32 (.pointer (some ⟨b, o, none⟩)) (.int k i)) (0 ≤ i ∧ i < 32) (.pointer (some ⟨b, o + i.toNat, none⟩)) := ⟨fun h => by have := p_indexAddr_array (P := Tryz.prog) 32 b o 32 k i 1 (by kernel_rfl) (by kernel_rfl) (by kernel_rfl) h.1 h.2; rwa [Nat.mul_one] at this⟩
instance : FunC Tryz.prog 90 := ⟨by kernel_rfl⟩
instance : FunC Tryz.prog 91 := ⟨by kernel_rfl⟩
instance : ZerF Tryz.prog 140 [.one (.slice none 0 0), .one (.bool false)] := ⟨by kernel_rfl, inferInstance⟩
instance : BltC Tryz.prog 140 := ⟨by kernel_rfl⟩
instance : ShpC Tryz.prog 140 true 2 := ⟨by kernel_rfl⟩
instance : IsPt Tryz.prog 74 := isPt_of (by kernel_rfl)
instance (priority := 1100) (b : Nat) : StepC Tryz.prog (o_fieldAddr 140 (.pointer (some ⟨b, 0, none⟩)) 1) True (.pointer (some ⟨b, 1, none⟩)) := ⟨fun _ => p_fieldAddr 140 b 0 1 1 1 (by kernel_rfl) (by decide)⟩
instance : FunC Tryz.prog 92 := ⟨by kernel_rfl⟩
instance (a : Int) : StepC Tryz.prog (o_conv 3 5 (.int .i64 a)) True (.int .u8 (a % 256)) := ⟨fun _ => by have := p_conv_int (P := Tryz.prog) 3 5 .i64 .u8 a (by kernel_rfl) (by kernel_rfl); rwa [show IntKind.wrap .u8 a = a % 256 by simp [IntKind.wrap, IntKind.bits, IntKind.signed]] at this⟩
instance (priority := 1100) (b : Nat) : StepC Tryz.prog (o_fieldAddr 140 (.pointer (some ⟨b, 0, none⟩)) 0) True (.pointer (some ⟨b, 0, none⟩)) := ⟨fun _ => p_fieldAddr 140 b 0 0 0 1 (by kernel_rfl) (by decide)⟩
instance : ShpC Tryz.prog 135 false 1 := ⟨by kernel_rfl⟩
instance : FunC Tryz.prog 93 := ⟨by kernel_rfl⟩
instance (priority := 1100) (b : Nat) : StepC Tryz.prog (o_fieldAddr 57 (.pointer (some ⟨b, 0, none⟩)) 1) True (.pointer (some ⟨b, 1, none⟩)) := ⟨fun _ => p_fieldAddr 57 b 0 1 1 32 (by kernel_rfl) (by decide)⟩
instance (priority := 1100) (b : Nat) : StepC Tryz.prog (o_fieldAddr 57 (.pointer (some ⟨b, 0, none⟩)) 3) True (.pointer (some ⟨b, 65, none⟩)) := ⟨fun _ => p_fieldAddr 57 b 0 3 65 32 (by kernel_rfl) (by decide)⟩
instance : ZerF Tryz.prog 144 [.one (.int .u8 0), .one (.int .u8 0), .one (.int .u8 0), .one (.int .u8 0), .one (.int .u8 0), .one (.int .u8 0), .one (.int .u8 0), .one (.int .u8 0)] := ⟨by kernel_rfl, inferInstance⟩
instance (priority := 1200) (b : Nat) (k : IntKind) : StepC Tryz.prog (o_indexAddr 144 (.pointer (some ⟨b, 0, none⟩)) (.int k 0)) True (.pointer (some ⟨b, 0, none⟩)) := ⟨fun _ => by have := p_indexAddr_array (P := Tryz.prog) 144 b 0 8 k 0 1 (by kernel_rfl) (by kernel_rfl) (by kernel_rfl) (by omega) (by omega); exact this⟩
instance (priority := 1200) (b : Nat) (k : IntKind) : StepC Tryz.prog (o_indexAddr 144 (.pointer (some ⟨b, 0, none⟩)) (.int k 1)) True (.pointer (some ⟨b, 1, none⟩)) := ⟨fun _ => by have := p_indexAddr_array (P := Tryz.prog) 144 b 0 8 k 1 1 (by kernel_rfl) (by kernel_rfl) (by kernel_rfl) (by omega) (by omega); exact this⟩
instance (priority := 1200) (b : Nat) (k : IntKind) : StepC Tryz.prog (o_indexAddr 144 (.pointer (some ⟨b, 0, none⟩)) (.int k 2)) True (.pointer (some ⟨b, 2, none⟩)) := ⟨fun _ => by have := p_indexAddr_array (P := Tryz.prog) 144 b 0 8 k 2 1 (by kernel_rfl) (by kernel_rfl) (by kernel_rfl) (by omega) (by omega); exact this⟩
instance (priority := 1200) (b : Nat) (k : IntKind) : StepC Tryz.prog (o_indexAddr 144 (.pointer (some ⟨b, 0, none⟩)) (.int k 3)) True (.pointer (some ⟨b, 3, none⟩)) := ⟨fun _ => by have := p_indexAddr_array (P := Tryz.prog) 144 b 0 8 k 3 1 (by kernel_rfl) (by kernel_rfl) (by kernel_rfl) (by omega) (by omega); exact this⟩
instance (priority := 1200) (b : Nat) (k : IntKind) : StepC Tryz.prog (o_indexAddr 144 (.pointer (some ⟨b, 0, none⟩)) (.int k 4)) True (.pointer (some ⟨b, 4, none⟩)) := ⟨fun _ => by have := p_indexAddr_array (P := Tryz.prog) 144 b 0 8 k 4 1 (by kernel_rfl) (by kernel_rfl) (by kernel_rfl) (by omega) (by omega); exact this⟩
instance (priority := 1200) (b : Nat) (k : IntKind) : StepC Tryz.prog (o_indexAddr 144 (.pointer (some ⟨b, 0, none⟩)) (.int k 5)) True (.pointer (some ⟨b, 5, none⟩)) := ⟨fun _ => by have := p_indexAddr_array (P := Tryz.prog) 144 b 0 8 k 5 1 (by kernel_rfl) (by kernel_rfl) (by kernel_rfl) (by omega) (by omega); exact this⟩
instance (priority := 1200) (b : Nat) (k : IntKind) : StepC Tryz.prog (o_indexAddr 144 (.pointer (some ⟨b, 0, none⟩)) (.int k 6)) True (.pointer (some ⟨b, 6, none⟩)) := ⟨fun _ => by have := p_indexAddr_array (P := Tryz.prog) 144 b 0 8 k 6 1 (by kernel_rfl) (by kernel_rfl) (by kernel_rfl) (by omega) (by omega); exact this⟩
instance (priority := 1200) (b : Nat) (k : IntKind) : StepC Tryz.prog (o_indexAddr 144 (.pointer (some ⟨b, 0, none⟩)) (.int k 7)) True (.pointer (some ⟨b, 7, none⟩)) := ⟨fun _ => by have := p_indexAddr_array (P := Tryz.prog) 144 b 0 8 k 7 1 (by kernel_rfl) (by kernel_rfl) (by kernel_rfl) (by omega) (by omega); exact this⟩
instance (b o : Nat) : StepC Tryz.prog (o_slice 144 (.pointer (some ⟨b, o, none⟩)) none none none) True (.slice (some ⟨b, o, none⟩) 8 8) := ⟨fun _ => p_slice_array_all (P := Tryz.prog) 144 b o 8 1 (by kernel_rfl) (by kernel_rfl) (by kernel_rfl)⟩
instance : FunC Tryz.prog 94 := ⟨by kernel_rfl⟩
instance : FunC Tryz.prog 95 := ⟨by kernel_rfl⟩
instance : FunC Tryz.prog 96 := ⟨by kernel_rfl⟩
instance (b o : Nat) : StepC Tryz.prog (o_slice 32 (.pointer (some ⟨b, o, none⟩)) none none none) True (.slice (some ⟨b, o, none⟩) 32 32) := ⟨fun _ => p_slice_array_all (P := Tryz.prog) 32 b o 32 1 (by kernel_rfl) (by kernel_rfl) (by kernel_rfl)⟩
instance : FunC Tryz.prog 110 := ⟨by kernel_rfl⟩
instance : FunC Tryz.prog 111 := ⟨by kernel_rfl⟩
instance : FunC Tryz.prog 112 := ⟨by kernel_rfl⟩
instance : PlC Tryz.prog 25 0 0 1 := ⟨by kernel_rfl⟩
instance : PlC Tryz.prog 25 1 1 1 := ⟨by kernel_rfl⟩
instance (a : Int) : StepC Tryz.prog (o_conv 121 3 (.int .u64 a)) ((-9223372036854775808) ≤ a ∧ a < 9223372036854775808) (.int .i64 a) := ⟨fun h => by have := p_conv_int (P := Tryz.prog) 121 3 .u64 .i64 a (by kernel_rfl) (by kernel_rfl); rwa [show IntKind.wrap .i64 a = a by simp [IntKind.wrap, IntKind.bits, IntKind.signed]; omega] at this⟩
instance : FunC Tryz.prog 115 := ⟨by kernel_rfl⟩
instance : FunC Tryz.prog 116 := ⟨by kernel_rfl⟩
instance (priority := 1100) (b : Nat) : StepC Tryz.prog (o_fieldAddr 131 (.pointer (some ⟨b, 0, none⟩)) 1) True (.pointer (some ⟨b, 8, none⟩)) := ⟨fun _ => p_fieldAddr 131 b 0 1 8 64 (by kernel_rfl) (by decide)⟩
instance (b o : Nat) (k : IntKind) (l : Int) : StepC Tryz.prog (o_slice 129 (.pointer (some ⟨b, o, none⟩)) (some (.int k l)) none none) (0 ≤ l ∧ l < 64) (.slice (some ⟨b, o + l.toNat, none⟩) (64 - l.toNat) (64 - l.toNat)) := ⟨fun h => by have := p_slice_array_l (P := Tryz.prog) 129 b o 64 k l 1 (by kernel_rfl) (by kernel_rfl) (by kernel_rfl) h.1 h.2; rwa [Nat.mul_one] at this⟩
instance (s : ByteArray) (k : IntKind) (l : Int) : StepC Tryz.prog (o_slice 9 (.string s) (some (.int k l)) none none) (0 ≤ l ∧ l ≤ s.size) (.string (s.extract l.toNat s.size)) := ⟨fun h => p_slice_string_l (P := Tryz.prog) 9 s k l (by kernel_rfl) h.1 h.2⟩
instance : FunC Tryz.prog 129 := ⟨by kernel_rfl⟩
instance (b o : Nat) : StepC Tryz.prog (o_slice 33 (.pointer (some ⟨b, o, none⟩)) none none none) True (.slice (some ⟨b, o, none⟩) 32 32) := ⟨fun _ => p_slice_array_all (P := Tryz.prog) 33 b o 32 1 (by kernel_rfl) (by kernel_rfl) (by kernel_rfl)⟩
instance (b o n c : Nat) (k : IntKind) (i : Int) : StepC Tryz.prog (o_indexAddr 135 (.slice (some ⟨b, o, none⟩) n c) (.int k i)) (0 ≤ i ∧ i < n) (.pointer (some ⟨b, o + i.toNat, none⟩)) := ⟨fun h => by have := p_indexAddr_slice (P := Tryz.prog) 135 b o n c k i 1 (by kernel_rfl) (by kernel_rfl) h.1 h.2; rwa [Nat.mul_one] at this⟩
instance (a : Int) : StepC Tryz.prog (o_conv 5 125 (.int .u8 a)) (0 ≤ a ∧ a < 256) (.int .u32 a) := ⟨fun h => by have := p_conv_int (P := Tryz.prog) 5 125 .u8 .u32 a (by kernel_rfl) (by kernel_rfl); rwa [show IntKind.wrap .u32 a = a by simp [IntKind.wrap, IntKind.bits, IntKind.signed]; omega] at this⟩
instance : ZerF Tryz.prog 141 [.one (.int .i64 0), .one (.int .i64 0), .one (.int .i64 0), .one (.int .i64 0)] := ⟨by kernel_rfl, inferInstance⟩
instance : BltC Tryz.prog 141 := ⟨by kernel_rfl⟩
instance : PlC Tryz.prog 141 0 0 1 := ⟨by kernel_rfl⟩
instance : PlC Tryz.prog 141 1 1 1 := ⟨by kernel_rfl⟩
instance : PlC Tryz.prog 141 2 2 1 := ⟨by kernel_rfl⟩
instance : PlC Tryz.prog 141 3 3 1 := ⟨by kernel_rfl⟩
instance : ShpC Tryz.prog 141 true 4 := ⟨by kernel_rfl⟩
instance : IsSl Tryz.prog 22 := isSl_of (by kernel_rfl)
instance : IsSl Tryz.prog 23 := isSl_of (by kernel_rfl)
instance : IsSl Tryz.prog 29 := isSl_of (by kernel_rfl)
instance : FunC Tryz.prog 144 := ⟨by kernel_rfl⟩
instance : FunC Tryz.prog 151 := ⟨by kernel_rfl⟩
instance (priority := 1100) (b : Nat) : StepC Tryz.prog (o_fieldAddr 131 (.pointer (some ⟨b, 0, none⟩)) 3) True (.pointer (some ⟨b, 73, none⟩)) := ⟨fun _ => p_fieldAddr 131 b 0 3 73 64 (by kernel_rfl) (by decide)⟩
instance : SliC Tryz.prog 29 3 1 8 := ⟨by kernel_rfl⟩
instance : SliC Tryz.prog 123 9 1 16 := ⟨by kernel_rfl⟩
instance : SliC Tryz.prog 23 61 66 96 := ⟨by kernel_rfl⟩
instance : SliC Tryz.prog 22 57 97 104 := ⟨by kernel_rfl⟩
instance : SliC Tryz.prog 135 5 1 1 := ⟨by kernel_rfl⟩
end Go.Proofs.YtopcnkejobomaaaGreat
set_option linter.unusedVariables false
namespace Go.Proofs.YtopcnkejobomaaaGreat
def F_bevylaw08_TreeAsks (x0 x1 x2 : Value) (w : World) (R : Ending → World → Prop) : Prop :=
 m R (o_box 25 x0) w fun x3 w1 =>
 mj1 (fun j2 =>
 m R (o_call (fv 5) []) w1 fun x8 w2 =>
 m R (o_un .not x8) w2 fun x9 w3 =>
 mguard x9 false (fun k => m R (o_load 25 x3) w3 k) w3 fun x11 w4 =>
 mguard x9 false (fun k => m R (o_call (fv 6) [x11]) w4 k) w4 fun x12 w5 =>
 mguard x9 false (fun k => m R (o_un .not x12) w5 k) w5 fun x13 w6 =>
 m R (o_pick x9 (.bool true) x13) w6 fun x14 w7 =>
 j2 x14 w7) fun x14 u2 w8 =>
 mif x14 (
 m R (o_call (fv 5) []) w8 fun x15 w9 =>
 R (.returned x15) w9) (
 m R (o_load 25 x3) w8 fun x16 w10 =>
 m R (o_call (fv 7) [x16]) w10 fun x17 w11 =>
 m R (o_load 25 x3) w11 fun x18 w12 =>
 m R (o_call (fv 8) [x18]) w12 fun x19 w13 =>
 m R (o_bin .neq 4 false x19 x17) w13 fun x21 w14 =>
 mif x21 (
 R (.returned (.bool false)) w14) (
 m R (o_un .not x17) w14 fun x23 w15 =>
 mif x23 (
 m R (o_load 25 x3) w15 fun x24 w16 =>
 m R (o_call (fv 9) [x24, x1]) w16 fun x26 w17 =>
 m R (o_bin .eql 3 true x26 (.int .i64 (-1))) w17 fun x27 w18 =>
 mguard x27 true (fun k => m R (o_load 25 x3) w18 k) w18 fun x29 w19 =>
 mguard x27 true (fun k => m R (o_call (fv 10) [x29]) w19 k) w19 fun x30 w20 =>
 mguard x27 true (fun k => m R (o_builtin .len #[29] 3 [false] [x30]) w20 k) w20 fun x31 w21 =>
 mguard x27 true (fun k => m R (o_bin .eql 3 true x31 (.int .i64 0)) w21 k) w21 fun x32 w22 =>
 m R (o_pick x27 x32 (.bool false)) w22 fun x33 w23 =>
 mguard x33 true (fun k => m R (o_load 25 x3) w23 k) w23 fun x35 w24 =>
 mguard x33 true (fun k => m R (o_move x2) w24 k) w24 fun x36 w25 =>
 mguard x33 true (fun k => m R (o_call (fv 11) [x35, x36]) w25 k) w25 fun x37 w26 =>
 mguard x33 true (fun k => m R (o_builtin .len #[29] 3 [false] [x37]) w26 k) w26 fun x38 w27 =>
 mguard x33 true (fun k => m R (o_bin .eql 3 true x38 (.int .i64 0)) w27 k) w27 fun x39 w28 =>
 m R (o_pick x33 x39 (.bool false)) w28 fun x40 w29 =>
 mguard x40 true (fun k => m R (o_load 25 x3) w29 k) w29 fun x42 w30 =>
 mguard x40 true (fun k => m R (o_call (fv 12) [x42]) w30 k) w30 fun x43 w31 =>
 mguard x40 true (fun k => m R (o_build 25 []) w31 k) w31 fun x44 w32 =>
 mguard x40 true (fun k => m R (o_call (fv 13) [x44]) w32 k) w32 fun x45 w33 =>
 mguard x40 true (fun k => m R (o_bin .eql 33 false x43 x45) w33 k) w33 fun x46 w34 =>
 m R (o_pick x40 x46 (.bool false)) w34 fun x47 w35 =>
 mguard x47 true (fun k => m R (o_load 25 x3) w35 k) w35 fun x49 w36 =>
 mguard x47 true (fun k => m R (o_move x2) w36 k) w36 fun x50 w37 =>
 mguard x47 true (fun k => m R (o_call (fv 14) [x49, x50]) w37 k) w37 fun x51 w38 =>
 mguard x47 true (fun k => m R (o_build 33 []) w38 k) w38 fun x52 w39 =>
 mguard x47 true (fun k => m R (o_bin .eql 33 false x51 x52) w39 k) w39 fun x53 w40 =>
 m R (o_pick x47 x53 (.bool false)) w40 fun x54 w41 =>
 mguard x54 true (fun k => m R (o_load 25 x3) w41 k) w41 fun x56 w42 =>
 mguard x54 true (fun k => m R (o_call (fv 15) [x56]) w42 k) w42 fun x57 w43 =>
 mguard x54 true (fun k => m R (o_bin .eql 9 true x57 (.string (ByteArray.mk #[]))) w43 k) w43 fun x58 w44 =>
 m R (o_pick x54 x58 (.bool false)) w44 fun x59 w45 =>
 R (.returned x59) w45) (
 mj1 (fun j9 =>
 dq Tryz.prog w15 (o_load 25 x3) fun x60 =>
 df Tryz.prog w15 (o_call (fv 9) [x60, x1]) true fun x62 w46 =>
 dq Tryz.prog w15 (o_load 25 x3) fun x63 =>
 df Tryz.prog w46 (o_call (fv 16) [x63, x1]) false fun x65 w47 =>
 dp Tryz.prog (o_bin .neq 3 false x62 x65) fun x66 =>
 qguard x66 false (fun k => dq Tryz.prog w47 (o_load 25 x3) k) fun x68 =>
 mguard x66 false (fun k => df Tryz.prog w47 (o_call (fv 10) [x68]) true k) w47 fun x69 w48 =>
 qguard x66 false (fun k => dq Tryz.prog w47 (o_load 25 x3) k) fun x70 =>
 mguard x66 false (fun k => df Tryz.prog w48 (o_call (fv 18) [x70]) false k) w48 fun x71 w49 =>
 mguard x66 false (fun k => df Tryz.prog w49 (o_call (fv 17) [x69, x71]) false k) w49 fun x72 w50 =>
 qguard x66 false (fun k => dp Tryz.prog (o_un .not x72) k) fun x73 =>
 dp Tryz.prog (o_pick x66 (.bool true) x73) fun x74 =>
 qguard x74 false (fun k => dq Tryz.prog w50 (o_load 25 x3) k) fun x76 =>
 mguard x74 false (fun k => df Tryz.prog w50 (o_call (fv 12) [x76]) true k) w50 fun x77 w51 =>
 qguard x74 false (fun k => dq Tryz.prog w50 (o_load 25 x3) k) fun x78 =>
 mguard x74 false (fun k => df Tryz.prog w51 (o_call (fv 13) [x78]) false k) w51 fun x79 w52 =>
 qguard x74 false (fun k => dp Tryz.prog (o_bin .neq 33 false x77 x79) k) fun x80 =>
 dp Tryz.prog (o_pick x74 (.bool true) x80) fun x81 =>
 qguard x81 false (fun k => dq Tryz.prog w52 (o_load 25 x3) k) fun x83 =>
 mguard x81 false (fun k => df Tryz.prog w52 (o_call (fv 15) [x83]) true k) w52 fun x84 w53 =>
 qguard x81 false (fun k => dq Tryz.prog w52 (o_load 25 x3) k) fun x85 =>
 mguard x81 false (fun k => df Tryz.prog w53 (o_call (fv 19) [x85]) false k) w53 fun x86 w54 =>
 qguard x81 false (fun k => dp Tryz.prog (o_bin .neq 9 false x84 x86) k) fun x87 =>
 dp Tryz.prog (o_pick x81 (.bool true) x87) fun x88 =>
 dend w54 fun w55 =>
 j9 x88 w55) fun x88 u9 w56 =>
 mif x88 (
 R (.returned (.bool false)) w56) (
 mj1 (fun j11 =>
 m R (o_bin .lss 3 true x2 (.int .i64 0)) w56 fun x90 w57 =>
 mguard x90 false (fun k => m R (o_move x2) w57 k) w57 fun x92 w58 =>
 mguard x90 false (fun k => m R (o_fieldAddr 25 x3 0) w58 k) w58 fun x93 w59 =>
 mguard x90 false (fun k => m R (o_load 22 x93) w59 k) w59 fun x94 w60 =>
 mguard x90 false (fun k => m R (o_builtin .len #[22] 3 [false] [x94]) w60 k) w60 fun x95 w61 =>
 mguard x90 false (fun k => m R (o_bin .mul 3 true (.int .i64 2) x95) w61 k) w61 fun x96 w62 =>
 mguard x90 false (fun k => m R (o_bin .sub 3 true x96 (.int .i64 2)) w62 k) w62 fun x97 w63 =>
 mguard x90 false (fun k => m R (o_bin .gtr 3 false x92 x97) w63 k) w63 fun x98 w64 =>
 m R (o_pick x90 (.bool true) x98) w64 fun x99 w65 =>
 j11 x99 w65) fun x99 u11 w66 =>
 mif x99 (
 m R (o_load 25 x3) w66 fun x100 w67 =>
 m R (o_call (fv 11) [x100, x2]) w67 fun x102 w68 =>
 m R (o_builtin .len #[29] 3 [false] [x102]) w68 fun x103 w69 =>
 m R (o_bin .eql 3 true x103 (.int .i64 0)) w69 fun x104 w70 =>
 mguard x104 true (fun k => m R (o_load 25 x3) w70 k) w70 fun x106 w71 =>
 mguard x104 true (fun k => m R (o_move x2) w71 k) w71 fun x107 w72 =>
 mguard x104 true (fun k => m R (o_call (fv 14) [x106, x107]) w72 k) w72 fun x108 w73 =>
 mguard x104 true (fun k => m R (o_build 33 []) w73 k) w73 fun x109 w74 =>
 mguard x104 true (fun k => m R (o_bin .eql 33 false x108 x109) w74 k) w74 fun x110 w75 =>
 m R (o_pick x104 x110 (.bool false)) w75 fun x111 w76 =>
 R (.returned x111) w76) (
 dq Tryz.prog w66 (o_load 25 x3) fun x112 =>
 df Tryz.prog w66 (o_call (fv 11) [x112, x2]) true fun x114 w77 =>
 dq Tryz.prog w66 (o_load 25 x3) fun x115 =>
 df Tryz.prog w77 (o_call (fv 20) [x115, x2]) false fun x117 w78 =>
 df Tryz.prog w78 (o_call (fv 17) [x114, x117]) false fun x118 w79 =>
 qguard x118 true (fun k => dq Tryz.prog w79 (o_load 25 x3) k) fun x120 =>
 qguard x118 true (fun k => dp Tryz.prog (o_move x2) k) fun x121 =>
 mguard x118 true (fun k => df Tryz.prog w79 (o_call (fv 14) [x120, x121]) true k) w79 fun x122 w80 =>
 qguard x118 true (fun k => dq Tryz.prog w79 (o_load 25 x3) k) fun x123 =>
 qguard x118 true (fun k => dp Tryz.prog (o_move x2) k) fun x124 =>
 mguard x118 true (fun k => df Tryz.prog w80 (o_call (fv 21) [x123, x124]) false k) w80 fun x125 w81 =>
 qguard x118 true (fun k => dp Tryz.prog (o_bin .eql 33 false x122 x125) k) fun x126 =>
 dp Tryz.prog (o_pick x118 x126 (.bool false)) fun x127 =>
 dend w81 fun w82 =>
 R (.returned x127) w82)))))
def A_bevylaw08_TreeAsks : Ann := ⟨[], [(2, [14], 32512), (9, [88], 618970018489768632842715136), (11, [99], 1267031630208586711359253643264)], [(8, [⟨0, .q (some 0), 8, 0, 1152921504606846976⟩, ⟨1, .q none, 2, 0, 2305843009213693952⟩, ⟨2, .f 0 true, 3458764513820540928, 3, 4611686018427387904⟩, ⟨3, .q (some 0), 8, 0, 9223372036854775808⟩, ⟨4, .q none, 2, 0, 18446744073709551616⟩, ⟨5, .f 1 false, 27670116110564327424, 31, 36893488147419103232⟩, ⟨6, .q none, 41505174165846491136, 63, 73786976294838206464⟩, ⟨7, .q none, 73786976294838206464, 127, 147573952589676412928⟩, ⟨8, .q (some 2), 147573952589676412936, 255, 295147905179352825856⟩, ⟨9, .f 2 true, 442721857769029238784, 511, 590295810358705651712⟩, ⟨10, .q (some 2), 147573952589676412936, 255, 1180591620717411303424⟩, ⟨11, .f 3 false, 1328165573307087716352, 2047, 2361183241434822606848⟩, ⟨12, .f 4 false, 3099053004383204671488, 4095, 4722366482869645213696⟩, ⟨13, .q none, 4869940435459321626624, 8191, 9444732965739290427392⟩, ⟨14, .q none, 9592306918328966840320, 16383, 18889465931478580854784⟩, ⟨15, .q none, 18889465931478580854784, 32767, 37778931862957161709568⟩, ⟨16, .q (some 5), 37778931862957161709576, 65535, 75557863725914323419136⟩, ⟨17, .f 5 true, 113336795588871485128704, 131071, 151115727451828646838272⟩, ⟨18, .q (some 5), 37778931862957161709576, 65535, 302231454903657293676544⟩, ⟨19, .f 6 false, 340010386766614455386112, 524287, 604462909807314587353088⟩, ⟨20, .q none, 793357569122100395900928, 1048575, 1208925819614629174706176⟩, ⟨21, .q none, 1246704751477586336415744, 2097151, 2417851639229258349412352⟩, ⟨22, .q none, 2417851639229258349412352, 4194303, 4835703278458516698824704⟩, ⟨23, .q (some 7), 4835703278458516698824712, 8388607, 9671406556917033397649408⟩, ⟨24, .f 7 true, 14507109835375550096474112, 16777215, 19342813113834066795298816⟩, ⟨25, .q (some 7), 4835703278458516698824712, 8388607, 38685626227668133590597632⟩, ⟨26, .f 8 false, 43521329506126650289422336, 67108863, 77371252455336267181195264⟩, ⟨27, .q none, 101549768847628850675318784, 134217727, 154742504910672534362390528⟩, ⟨28, .q none, 159578208189131051061215232, 268435455, 309485009821345068724781056⟩]), (12, [⟨0, .q (some 0), 8, 0, 5192296858534827628530496329220096⟩, ⟨1, .q none, 4, 0, 10384593717069655257060992658440192⟩, ⟨2, .f 0 true, 15576890575604482885591488987660288, 3, 20769187434139310514121985316880384⟩, ⟨3, .q (some 0), 8, 0, 41538374868278621028243970633760768⟩, ⟨4, .q none, 4, 0, 83076749736557242056487941267521536⟩, ⟨5, .f 1 false, 124615124604835863084731911901282304, 31, 166153499473114484112975882535043072⟩, ⟨6, .f 2 false, 186922686907253794627097867851923456, 63, 332306998946228968225951765070086144⟩, ⟨7, .q none, 332306998946228968225951765070086144, 127, 664613997892457936451903530140172288⟩, ⟨8, .q (some 3), 664613997892457936451903530140172296, 255, 1329227995784915872903807060280344576⟩, ⟨9, .q none, 664613997892457936451903530140172292, 255, 2658455991569831745807614120560689152⟩, ⟨10, .f 3 true, 4652297985247205555163324710981206016, 1023, 5316911983139663491615228241121378304⟩, ⟨11, .q (some 3), 664613997892457936451903530140172296, 255, 10633823966279326983230456482242756608⟩, ⟨12, .q none, 664613997892457936451903530140172292, 255, 21267647932558653966460912964485513216⟩, ⟨13, .f 4 false, 32566085896730438886143272976868442112, 8191, 42535295865117307932921825928971026432⟩, ⟨14, .q none, 48516821846149429360988957700232577024, 16383, 85070591730234615865843651857942052864⟩, ⟨15, .q none, 85735205728127073802295555388082225152, 32767, 170141183460469231731687303715884105728⟩, ⟨16, .q none, 170141183460469231731687303715884105728, 65535, 64⟩])], [], []⟩
theorem E_bevylaw08_TreeAsks (x0 x1 x2 : Value) (w : World) (R : Ending → World → Prop) : cwp Tryz.prog A_bevylaw08_TreeAsks (Tryz.f3.body.getD .skip) (retPost Tryz.prog Tryz.f3.results.toList R) (argE [x0, x1, x2]) w = F_bevylaw08_TreeAsks x0 x1 x2 w R := by kernel_rfl
theorem C_bevylaw08_TreeAsks {x0 x1 x2 : Value} {w : World} {R : Ending → World → Prop} (h : F_bevylaw08_TreeAsks x0 x1 x2 w R) : Calls Tryz.prog 3 #[x0, x1, x2] w R :=
 calls_cwp (A := A_bevylaw08_TreeAsks) (args := [x0, x1, x2]) mixed Tryz.func3 (c := Tryz.f3.body.getD .skip) (by kernel_rfl) (by kernel_rfl) (by kernel_rfl) ((E_bevylaw08_TreeAsks x0 x1 x2 w R).mpr h)
def F_bevylaw08_awake (w : World) (R : Ending → World → Prop) : Prop :=
 m R (o_alloc 25) w fun x1 w1 =>
 m R (o_build 53 [(0, (.int .i64 5)), (1, (.int .i64 2)), (2, (.int .i64 9))]) w1 fun x11 w2 =>
 ml1 (.int .i64 0) w2 fun x12 u4 w3 next4 =>
 m R (o_bin .lss 3 true x12 (.int .i64 3)) w3 fun x13 w4 =>
 mif x13 (
 m R (o_index 53 x11 x12) w4 fun x15 w5 =>
 m R (o_load 25 x1) w5 fun x17 w6 =>
 m R (o_build 57 [(0, x15)]) w6 fun x19 w7 =>
 m R (o_call (fv 28) [x17, x19]) w7 fun x20 w8 =>
 m R (o_extract x20 0) w8 fun x21 w9 =>
 m R (o_extract x20 1) w9 fun x22 w10 =>
 m R (o_extract x20 2) w10 fun x23 w11 =>
 m R (o_store 25 x1 x21) w11 fun _ w12 =>
 mj1 (fun j9 =>
 m R (o_bin .neq 50 true x23 (.int .i64 0)) w12 fun x25 w13 =>
 mguard x25 false (fun k => m R (o_move x22) w13 k) w13 fun x27 w14 =>
 mguard x25 false (fun k => m R (o_move x12) w14 k) w14 fun x28 w15 =>
 mguard x25 false (fun k => m R (o_bin .neq 3 false x27 x28) w15 k) w15 fun x29 w16 =>
 m R (o_pick x25 (.bool true) x29) w16 fun x30 w17 =>
 j9 x30 w17) fun x30 u9 w18 =>
 mif x30 (
 R (.returned (.bool false)) w18) (
 m R (o_bin .add 3 true x12 (.int .i64 1)) w18 fun x31 w19 =>
 next4 x31 w19)) (
 m R (o_load 25 x1) w4 fun x33 w20 =>
 m R (o_call (fv 29) [x33, (.int .i64 1)]) w20 fun x34 w21 =>
 m R (o_extract x34 0) w21 fun x35 w22 =>
 m R (o_extract x34 1) w22 fun x36 w23 =>
 m R (o_store 25 x1 x35) w23 fun _ w24 =>
 m R (o_load 25 x1) w24 fun x38 w25 =>
 m R (o_build 57 [(0, (.int .i64 7))]) w25 fun x39 w26 =>
 m R (o_call (fv 28) [x38, x39]) w26 fun x40 w27 =>
 m R (o_extract x40 0) w27 fun x41 w28 =>
 m R (o_extract x40 1) w28 fun x42 w29 =>
 m R (o_extract x40 2) w29 fun x43 w30 =>
 m R (o_alloc 25) w30 fun x6 w31 =>
 m R (o_store 25 x6 x41) w31 fun _ w32 =>
 m R (o_load 25 x6) w32 fun x45 w33 =>
 m R (o_call (fv 29) [x45, (.int .i64 2)]) w33 fun x46 w34 =>
 m R (o_extract x46 0) w34 fun x47 w35 =>
 m R (o_extract x46 1) w35 fun x48 w36 =>
 m R (o_alloc 25) w36 fun x9 w37 =>
 m R (o_store 25 x9 x47) w37 fun _ w38 =>
 m R (o_bin .eql 50 true x36 (.int .i64 0)) w38 fun x50 w39 =>
 mguard x50 true (fun k => m R (o_move x43) w39 k) w39 fun x52 w40 =>
 mguard x50 true (fun k => m R (o_bin .eql 50 true x52 (.int .i64 0)) w40 k) w40 fun x53 w41 =>
 m R (o_pick x50 x53 (.bool false)) w41 fun x54 w42 =>
 mguard x54 true (fun k => m R (o_move x42) w42 k) w42 fun x56 w43 =>
 mguard x54 true (fun k => m R (o_bin .eql 3 true x56 (.int .i64 1)) w43 k) w43 fun x57 w44 =>
 m R (o_pick x54 x57 (.bool false)) w44 fun x58 w45 =>
 mguard x58 true (fun k => m R (o_move x48) w45 k) w45 fun x60 w46 =>
 mguard x58 true (fun k => m R (o_bin .eql 50 true x60 (.int .i64 0)) w46 k) w46 fun x61 w47 =>
 m R (o_pick x58 x61 (.bool false)) w47 fun x62 w48 =>
 mguard x62 true (fun k => m R (o_fieldAddr 25 x9 0) w48 k) w48 fun x64 w49 =>
 mguard x62 true (fun k => m R (o_load 22 x64) w49 k) w49 fun x65 w50 =>
 mguard x62 true (fun k => m R (o_builtin .len #[22] 3 [false] [x65]) w50 k) w50 fun x66 w51 =>
 mguard x62 true (fun k => m R (o_bin .eql 3 true x66 (.int .i64 2)) w51 k) w51 fun x67 w52 =>
 m R (o_pick x62 x67 (.bool false)) w52 fun x68 w53 =>
 mguard x68 true (fun k => m R (o_load 25 x9) w53 k) w53 fun x70 w54 =>
 mguard x68 true (fun k => m R (o_call (fv 8) [x70]) w54 k) w54 fun x71 w55 =>
 m R (o_pick x68 x71 (.bool false)) w55 fun x72 w56 =>
 R (.returned x72) w56)
def A_bevylaw08_awake : Ann := ⟨[(4, [12], 4294963261)], [(9, [30], 2130706432)], [], [], []⟩
theorem E_bevylaw08_awake (w : World) (R : Ending → World → Prop) : cwp Tryz.prog A_bevylaw08_awake (Tryz.f5.body.getD .skip) (retPost Tryz.prog Tryz.f5.results.toList R) (argE []) w = F_bevylaw08_awake w R := by kernel_rfl
theorem C_bevylaw08_awake {w : World} {R : Ending → World → Prop} (h : F_bevylaw08_awake w R) : Calls Tryz.prog 5 #[] w R :=
 calls_cwp (A := A_bevylaw08_awake) (args := []) mixed Tryz.func5 (c := Tryz.f5.body.getD .skip) (by kernel_rfl) (by kernel_rfl) (by kernel_rfl) ((E_bevylaw08_awake w R).mpr h)
def F_bevylaw08_few (x0 : Value) (w : World) (R : Ending → World → Prop) : Prop :=
 m R (o_box 25 x0) w fun x1 w1 =>
 mj1 (fun j2 =>
 m R (o_fieldAddr 25 x1 0) w1 fun x4 w2 =>
 m R (o_load 22 x4) w2 fun x5 w3 =>
 m R (o_builtin .len #[22] 3 [false] [x5]) w3 fun x6 w4 =>
 m R (o_bin .gtr 3 true x6 (.int .i64 100)) w4 fun x7 w5 =>
 mguard x7 false (fun k => m R (o_fieldAddr 25 x1 1) w5 k) w5 fun x9 w6 =>
 mguard x7 false (fun k => m R (o_load 23 x9) w6 k) w6 fun x10 w7 =>
 mguard x7 false (fun k => m R (o_builtin .len #[23] 3 [false] [x10]) w7 k) w7 fun x11 w8 =>
 mguard x7 false (fun k => m R (o_bin .gtr 3 true x11 (.int .i64 100)) w8 k) w8 fun x12 w9 =>
 m R (o_pick x7 (.bool true) x12) w9 fun x13 w10 =>
 j2 x13 w10) fun x13 u2 w11 =>
 mif x13 (
 R (.returned (.bool false)) w11) (
 ml1 (.int .i64 0) w11 fun x3 u4 w12 next4 =>
 m R (o_fieldAddr 25 x1 1) w12 fun x15 w13 =>
 m R (o_load 23 x15) w13 fun x16 w14 =>
 m R (o_builtin .len #[23] 3 [false] [x16]) w14 fun x17 w15 =>
 m R (o_bin .lss 3 false x3 x17) w15 fun x18 w16 =>
 mif x18 (
 m R (o_fieldAddr 25 x1 1) w16 fun x21 w17 =>
 m R (o_load 23 x21) w17 fun x22 w18 =>
 m R (o_indexAddr 23 x22 x3) w18 fun x24 w19 =>
 m R (o_fieldAddr 61 x24 3) w19 fun x25 w20 =>
 m R (o_load 29 x25) w20 fun x26 w21 =>
 m R (o_builtin .len #[29] 3 [false] [x26]) w21 fun x27 w22 =>
 m R (o_bin .gtr 3 true x27 (.int .i64 100)) w22 fun x28 w23 =>
 mif x28 (
 R (.returned (.bool false)) w23) (
 m R (o_bin .add 3 true x3 (.int .i64 1)) w23 fun x20 w24 =>
 next4 x20 w24)) (
 R (.returned (.bool true)) w16))
def A_bevylaw08_few : Ann := ⟨[(4, [3], 536854540)], [(2, [13], 16368)], [], [], []⟩
theorem E_bevylaw08_few (x0 : Value) (w : World) (R : Ending → World → Prop) : cwp Tryz.prog A_bevylaw08_few (Tryz.f6.body.getD .skip) (retPost Tryz.prog Tryz.f6.results.toList R) (argE [x0]) w = F_bevylaw08_few x0 w R := by kernel_rfl
theorem C_bevylaw08_few {x0 : Value} {w : World} {R : Ending → World → Prop} (h : F_bevylaw08_few x0 w R) : Calls Tryz.prog 6 #[x0] w R :=
 calls_cwp (A := A_bevylaw08_few) (args := [x0]) mixed Tryz.func6 (c := Tryz.f6.body.getD .skip) (by kernel_rfl) (by kernel_rfl) (by kernel_rfl) ((E_bevylaw08_few x0 w R).mpr h)
def F_bevyref08_Right (x0 : Value) (w : World) (R : Ending → World → Prop) : Prop :=
 m R (o_box 25 x0) w fun x1 w1 =>
 m R (o_fieldAddr 25 x1 0) w1 fun x11 w2 =>
 m R (o_load 22 x11) w2 fun x12 w3 =>
 m R (o_builtin .len #[22] 3 [false] [x12]) w3 fun x13 w4 =>
 mj1 (fun j3 =>
 m R (o_bin .gtr 3 true x13 (.int .i64 64)) w4 fun x15 w5 =>
 mguard x15 false (fun k => m R (o_move x13) w5 k) w5 fun x17 w6 =>
 mguard x15 false (fun k => m R (o_bin .gtr 3 true x17 (.int .i64 0)) w6 k) w6 fun x18 w7 =>
 mguard x15 false (fun k => m R (o_move x18) w7 k) w7 fun x19 w8 =>
 mguard x19 true (fun k => m R (o_fieldAddr 25 x1 1) w8 k) w8 fun x20 w9 =>
 mguard x19 true (fun k => m R (o_load 23 x20) w9 k) w9 fun x21 w10 =>
 mguard x19 true (fun k => m R (o_builtin .len #[23] 3 [false] [x21]) w10 k) w10 fun x22 w11 =>
 mguard x19 true (fun k => m R (o_move x13) w11 k) w11 fun x23 w12 =>
 mguard x19 true (fun k => m R (o_bin .sub 3 true x23 (.int .i64 1)) w12 k) w12 fun x24 w13 =>
 mguard x19 true (fun k => m R (o_bin .neq 3 false x22 x24) w13 k) w13 fun x25 w14 =>
 mguard x15 false (fun k => m R (o_pick x19 x25 (.bool false)) w14 k) w14 fun x26 w15 =>
 m R (o_pick x15 (.bool true) x26) w15 fun x27 w16 =>
 mguard x27 false (fun k => m R (o_move x13) w16 k) w16 fun x29 w17 =>
 mguard x27 false (fun k => m R (o_bin .eql 3 true x29 (.int .i64 0)) w17 k) w17 fun x30 w18 =>
 mguard x27 false (fun k => m R (o_move x30) w18 k) w18 fun x31 w19 =>
 mguard x31 true (fun k => m R (o_fieldAddr 25 x1 1) w19 k) w19 fun x32 w20 =>
 mguard x31 true (fun k => m R (o_load 23 x32) w20 k) w20 fun x33 w21 =>
 mguard x31 true (fun k => m R (o_builtin .len #[23] 3 [false] [x33]) w21 k) w21 fun x34 w22 =>
 mguard x31 true (fun k => m R (o_bin .gtr 3 true x34 (.int .i64 0)) w22 k) w22 fun x35 w23 =>
 mguard x27 false (fun k => m R (o_pick x31 x35 (.bool false)) w23 k) w23 fun x36 w24 =>
 m R (o_pick x27 (.bool true) x36) w24 fun x37 w25 =>
 j3 x37 w25) fun x37 u3 w26 =>
 mif x37 (
 R (.returned (.bool false)) w26) (
 ml1 (.int .i64 0) w26 fun x4 u5 w27 next5 =>
 m R (o_bin .lss 3 false x4 x13) w27 fun x40 w28 =>
 mif x40 (
 mj0 (fun j6 =>
 m R (o_fieldAddr 25 x1 0) w28 fun x43 w29 =>
 m R (o_load 22 x43) w29 fun x44 w30 =>
 m R (o_indexAddr 22 x44 x4) w30 fun x46 w31 =>
 m R (o_load 57 x46) w31 fun x47 w32 =>
 m R (o_alloc 57) w32 fun x5 w33 =>
 m R (o_store 57 x5 x47) w33 fun _ w34 =>
 m R (o_load 57 x5) w34 fun x48 w35 =>
 m R (o_build 57 []) w35 fun x49 w36 =>
 m R (o_bin .eql 57 false x48 x49) w36 fun x50 w37 =>
 mif x50 (
 j6 w37) (
 mj1 (fun j10 =>
 m R (o_fieldAddr 57 x5 0) w37 fun x51 w38 =>
 m R (o_load 3 x51) w38 fun x52 w39 =>
 m R (o_bin .lss 3 true x52 (.int .i64 1)) w39 fun x53 w40 =>
 mguard x53 false (fun k => m R (o_fieldAddr 57 x5 0) w40 k) w40 fun x55 w41 =>
 mguard x53 false (fun k => m R (o_load 3 x55) w41 k) w41 fun x56 w42 =>
 mguard x53 false (fun k => m R (o_bin .gtr 3 true x56 (.int .i64 64)) w42 k) w42 fun x57 w43 =>
 m R (o_pick x53 (.bool true) x57) w43 fun x58 w44 =>
 j10 x58 w44) fun x58 u10 w45 =>
 mif x58 (
 R (.returned (.bool false)) w45) (
 ml1 (.int .i64 0) w45 fun x6 u12 w46 next12 =>
 m R (o_bin .lss 3 false x6 x4) w46 fun x61 w47 =>
 mif x61 (
 dp Tryz.prog (o_fieldAddr 25 x1 0) fun x64 =>
 dq Tryz.prog w47 (o_load 22 x64) fun x65 =>
 dp Tryz.prog (o_indexAddr 22 x65 x6) fun x67 =>
 dp Tryz.prog (o_fieldAddr 57 x67 0) fun x68 =>
 dq Tryz.prog w47 (o_load 3 x68) fun x69 =>
 dp Tryz.prog (o_fieldAddr 57 x5 0) fun x70 =>
 dq Tryz.prog w47 (o_load 3 x70) fun x71 =>
 dp Tryz.prog (o_bin .eql 3 false x69 x71) fun x72 =>
 dend w47 fun w48 =>
 mif x72 (
 R (.returned (.bool false)) w48) (
 m R (o_bin .add 3 true x6 (.int .i64 1)) w48 fun x63 w49 =>
 next12 x63 w49)) (
 j6 w47)))) fun u6 w50 =>
 m R (o_bin .add 3 true x4 (.int .i64 1)) w50 fun x42 w51 =>
 next5 x42 w51) (
 ml1 (.int .i64 0) w28 fun x7 u17 w52 next17 =>
 m R (o_fieldAddr 25 x1 1) w52 fun x74 w53 =>
 m R (o_load 23 x74) w53 fun x75 w54 =>
 m R (o_builtin .len #[23] 3 [false] [x75]) w54 fun x76 w55 =>
 m R (o_bin .lss 3 false x7 x76) w55 fun x77 w56 =>
 mif x77 (
 m R (o_fieldAddr 25 x1 1) w56 fun x80 w57 =>
 m R (o_load 23 x80) w57 fun x81 w58 =>
 m R (o_indexAddr 23 x81 x7) w58 fun x83 w59 =>
 m R (o_load 61 x83) w59 fun x84 w60 =>
 m R (o_alloc 61) w60 fun x8 w61 =>
 m R (o_store 61 x8 x84) w61 fun _ w62 =>
 mj1 (fun j21 =>
 m R (o_fieldAddr 61 x8 0) w62 fun x85 w63 =>
 m R (o_load 4 x85) w63 fun x86 w64 =>
 m R (o_un .not x86) w64 fun x87 w65 =>
 mguard x87 true (fun k => m R (o_fieldAddr 61 x8 1) w65 k) w65 fun x89 w66 =>
 mguard x87 true (fun k => m R (o_load 33 x89) w66 k) w66 fun x90 w67 =>
 mguard x87 true (fun k => m R (o_build 33 []) w67 k) w67 fun x91 w68 =>
 mguard x87 true (fun k => m R (o_bin .neq 33 false x90 x91) w68 k) w68 fun x92 w69 =>
 mguard x87 true (fun k => m R (o_move x92) w69 k) w69 fun x93 w70 =>
 mguard x93 false (fun k => m R (o_fieldAddr 61 x8 2) w70 k) w70 fun x94 w71 =>
 mguard x93 false (fun k => m R (o_load 33 x94) w71 k) w71 fun x95 w72 =>
 mguard x93 false (fun k => m R (o_build 33 []) w72 k) w72 fun x96 w73 =>
 mguard x93 false (fun k => m R (o_bin .neq 33 false x95 x96) w73 k) w73 fun x97 w74 =>
 mguard x87 true (fun k => m R (o_pick x93 (.bool true) x97) w74 k) w74 fun x98 w75 =>
 mguard x87 true (fun k => m R (o_move x98) w75 k) w75 fun x99 w76 =>
 mguard x99 false (fun k => m R (o_fieldAddr 61 x8 3) w76 k) w76 fun x100 w77 =>
 mguard x99 false (fun k => m R (o_load 29 x100) w77 k) w77 fun x101 w78 =>
 mguard x99 false (fun k => m R (o_builtin .len #[29] 3 [false] [x101]) w78 k) w78 fun x102 w79 =>
 mguard x99 false (fun k => m R (o_bin .gtr 3 true x102 (.int .i64 0)) w79 k) w79 fun x103 w80 =>
 mguard x87 true (fun k => m R (o_pick x99 (.bool true) x103) w80 k) w80 fun x104 w81 =>
 m R (o_pick x87 x104 (.bool false)) w81 fun x105 w82 =>
 j21 x105 w82) fun x105 u21 w83 =>
 mif x105 (
 R (.returned (.bool false)) w83) (
 ml1 (.int .i64 0) w83 fun x9 u23 w84 next23 =>
 m R (o_fieldAddr 61 x8 3) w84 fun x107 w85 =>
 m R (o_load 29 x107) w85 fun x108 w86 =>
 m R (o_builtin .len #[29] 3 [false] [x108]) w86 fun x109 w87 =>
 m R (o_bin .lss 3 false x9 x109) w87 fun x110 w88 =>
 mif x110 (
 m R (o_fieldAddr 61 x8 3) w88 fun x113 w89 =>
 m R (o_load 29 x113) w89 fun x114 w90 =>
 m R (o_indexAddr 29 x114 x9) w90 fun x116 w91 =>
 m R (o_load 3 x116) w91 fun x117 w92 =>
 mj1 (fun j27 =>
 m R (o_bin .mul 3 true (.int .i64 2) x7) w92 fun x120 w93 =>
 m R (o_bin .add 3 true x120 (.int .i64 1)) w93 fun x121 w94 =>
 m R (o_call (fv 30) [x13, x121, x117]) w94 fun x123 w95 =>
 m R (o_un .not x123) w95 fun x124 w96 =>
 mguard x124 false (fun k => m R (o_fieldAddr 25 x1 0) w96 k) w96 fun x126 w97 =>
 mguard x124 false (fun k => m R (o_load 22 x126) w97 k) w97 fun x127 w98 =>
 mguard x124 false (fun k => m R (o_move x117) w98 k) w98 fun x128 w99 =>
 mguard x124 false (fun k => m R (o_indexAddr 22 x127 x128) w99 k) w99 fun x129 w100 =>
 mguard x124 false (fun k => m R (o_fieldAddr 57 x129 0) w100 k) w100 fun x130 w101 =>
 mguard x124 false (fun k => m R (o_load 3 x130) w101 k) w101 fun x131 w102 =>
 mguard x124 false (fun k => m R (o_bin .eql 3 true x131 (.int .i64 0)) w102 k) w102 fun x132 w103 =>
 m R (o_pick x124 (.bool true) x132) w103 fun x133 w104 =>
 mguard x133 false (fun k => m R (o_move x9) w104 k) w104 fun x135 w105 =>
 mguard x133 false (fun k => m R (o_bin .gtr 3 true x135 (.int .i64 0)) w105 k) w105 fun x136 w106 =>
 mguard x133 false (fun k => m R (o_move x136) w106 k) w106 fun x137 w107 =>
 mguard x137 true (fun k => m R (o_fieldAddr 61 x8 3) w107 k) w107 fun x138 w108 =>
 mguard x137 true (fun k => m R (o_load 29 x138) w108 k) w108 fun x139 w109 =>
 mguard x137 true (fun k => m R (o_move x9) w109 k) w109 fun x140 w110 =>
 mguard x137 true (fun k => m R (o_bin .sub 3 true x140 (.int .i64 1)) w110 k) w110 fun x141 w111 =>
 mguard x137 true (fun k => m R (o_indexAddr 29 x139 x141) w111 k) w111 fun x142 w112 =>
 mguard x137 true (fun k => m R (o_load 3 x142) w112 k) w112 fun x143 w113 =>
 mguard x137 true (fun k => m R (o_move x117) w113 k) w113 fun x144 w114 =>
 mguard x137 true (fun k => m R (o_bin .geq 3 false x143 x144) w114 k) w114 fun x145 w115 =>
 mguard x133 false (fun k => m R (o_pick x137 x145 (.bool false)) w115 k) w115 fun x146 w116 =>
 m R (o_pick x133 (.bool true) x146) w116 fun x147 w117 =>
 j27 x147 w117) fun x147 u27 w118 =>
 mif x147 (
 R (.returned (.bool false)) w118) (
 m R (o_bin .add 3 true x9 (.int .i64 1)) w118 fun x112 w119 =>
 next23 x112 w119)) (
 m R (o_bin .add 3 true x7 (.int .i64 1)) w88 fun x79 w120 =>
 next17 x79 w120))) (
 m R (o_bin .eql 3 true x13 (.int .i64 0)) w56 fun x149 w121 =>
 mguard x149 false (fun k => m R (o_fieldAddr 25 x1 0) w121 k) w121 fun x151 w122 =>
 mguard x149 false (fun k => m R (o_load 22 x151) w122 k) w122 fun x152 w123 =>
 mguard x149 false (fun k => m R (o_move x13) w123 k) w123 fun x153 w124 =>
 mguard x149 false (fun k => m R (o_bin .sub 3 true x153 (.int .i64 1)) w124 k) w124 fun x154 w125 =>
 mguard x149 false (fun k => m R (o_indexAddr 22 x152 x154) w125 k) w125 fun x155 w126 =>
 mguard x149 false (fun k => m R (o_fieldAddr 57 x155 0) w126 k) w126 fun x156 w127 =>
 mguard x149 false (fun k => m R (o_load 3 x156) w127 k) w127 fun x157 w128 =>
 mguard x149 false (fun k => m R (o_bin .neq 3 true x157 (.int .i64 0)) w128 k) w128 fun x158 w129 =>
 m R (o_pick x149 (.bool true) x158) w129 fun x159 w130 =>
 R (.returned x159) w130)))
def A_bevyref08_Right : Ann := ⟨[(5, [4], 9444732965464412520564), (12, [6], 9444156504986987003972), (17, [7], 356811923176489970264562047629408044805261188), (23, [9], 356811923176408840626156885680677995090544132)], [(3, [37], 274877890560), (6, [], 9444732956943197405284), (10, [58], 574208952489738240), (21, [105], 81129599728980454027655414546432), (27, [147], 356811922844182971318342524136422019025600512)], [(14, [⟨0, .q none, 2, 0, 18446744073709551616⟩, ⟨1, .q (some 0), 18446744073709551616, 1, 36893488147419103232⟩, ⟨2, .q none, 64, 0, 73786976294838206464⟩, ⟨3, .q none, 110680464442257309696, 7, 147573952589676412928⟩, ⟨4, .q none, 147573952589676412928, 15, 295147905179352825856⟩, ⟨5, .q (some 0), 295147905179352825856, 31, 590295810358705651712⟩, ⟨6, .q none, 32, 0, 1180591620717411303424⟩, ⟨7, .q (some 0), 1180591620717411303424, 64, 2361183241434822606848⟩, ⟨8, .q none, 2951479051793528258560, 255, 4722366482869645213696⟩])], [], []⟩
theorem E_bevyref08_Right (x0 : Value) (w : World) (R : Ending → World → Prop) : cwp Tryz.prog A_bevyref08_Right (Tryz.f7.body.getD .skip) (retPost Tryz.prog Tryz.f7.results.toList R) (argE [x0]) w = F_bevyref08_Right x0 w R := by kernel_rfl
theorem C_bevyref08_Right {x0 : Value} {w : World} {R : Ending → World → Prop} (h : F_bevyref08_Right x0 w R) : Calls Tryz.prog 7 #[x0] w R :=
 calls_cwp (A := A_bevyref08_Right) (args := [x0]) mixed Tryz.func7 (c := Tryz.f7.body.getD .skip) (by kernel_rfl) (by kernel_rfl) (by kernel_rfl) ((E_bevyref08_Right x0 w R).mpr h)
def F_tree_Right (x0 : Value) (w : World) (R : Ending → World → Prop) : Prop :=
 m R (o_box 25 x0) w fun x1 w1 =>
 m R (o_fieldAddr 25 x1 0) w1 fun x11 w2 =>
 m R (o_load 22 x11) w2 fun x12 w3 =>
 m R (o_builtin .len #[22] 3 [false] [x12]) w3 fun x13 w4 =>
 mj1 (fun j3 =>
 m R (o_bin .gtr 3 true x13 (.int .i64 64)) w4 fun x15 w5 =>
 mguard x15 false (fun k => m R (o_fieldAddr 25 x1 1) w5 k) w5 fun x17 w6 =>
 mguard x15 false (fun k => m R (o_load 23 x17) w6 k) w6 fun x18 w7 =>
 mguard x15 false (fun k => m R (o_builtin .len #[23] 3 [false] [x18]) w7 k) w7 fun x19 w8 =>
 mguard x15 false (fun k => m R (o_move x13) w8 k) w8 fun x20 w9 =>
 mguard x15 false (fun k => m R (o_bin .sub 3 true x20 (.int .i64 1)) w9 k) w9 fun x21 w10 =>
 mguard x15 false (fun k => m R (o_builtin .max #[3, 3] 3 [false, true] [x21, (.int .i64 0)]) w10 k) w10 fun x22 w11 =>
 mguard x15 false (fun k => m R (o_bin .neq 3 false x19 x22) w11 k) w11 fun x23 w12 =>
 m R (o_pick x15 (.bool true) x23) w12 fun x24 w13 =>
 j3 x24 w13) fun x24 u3 w14 =>
 mif x24 (
 R (.returned (.bool false)) w14) (
 m R (o_alloc 63) w14 fun x4 w15 =>
 m R (o_fieldAddr 25 x1 0) w15 fun x25 w16 =>
 m R (o_load 22 x25) w16 fun x26 w17 =>
 m R (o_builtin .len #[22] 3 [false] [x26]) w17 fun x27 w18 =>
 ml1 (.int .i64 0) w18 fun x28 u6 w19 next6 =>
 m R (o_bin .lss 3 false x28 x27) w19 fun x29 w20 =>
 mif x29 (
 mj0 (fun j12 =>
 m R (o_indexAddr 22 x26 x28) w20 fun x30 w21 =>
 m R (o_load 57 x30) w21 fun x31 w22 =>
 m R (o_alloc 57) w22 fun x6 w23 =>
 m R (o_store 57 x6 x31) w23 fun _ w24 =>
 m R (o_load 57 x6) w24 fun x33 w25 =>
 m R (o_build 57 []) w25 fun x34 w26 =>
 m R (o_bin .eql 57 false x33 x34) w26 fun x35 w27 =>
 mif x35 (
 j12 w27) (
 mj1 (fun j10 =>
 m R (o_fieldAddr 57 x6 0) w27 fun x37 w28 =>
 m R (o_load 3 x37) w28 fun x38 w29 =>
 m R (o_bin .lss 3 true x38 (.int .i64 1)) w29 fun x39 w30 =>
 mguard x39 false (fun k => m R (o_fieldAddr 57 x6 0) w30 k) w30 fun x41 w31 =>
 mguard x39 false (fun k => m R (o_load 3 x41) w31 k) w31 fun x42 w32 =>
 mguard x39 false (fun k => m R (o_bin .gtr 3 true x42 (.int .i64 64)) w32 k) w32 fun x43 w33 =>
 m R (o_pick x39 (.bool true) x43) w33 fun x44 w34 =>
 mguard x44 false (fun k => m R (o_fieldAddr 57 x6 0) w34 k) w34 fun x46 w35 =>
 mguard x44 false (fun k => m R (o_load 3 x46) w35 k) w35 fun x47 w36 =>
 mguard x44 false (fun k => m R (o_indexAddr 63 x4 x47) w36 k) w36 fun x48 w37 =>
 mguard x44 false (fun k => m R (o_load 4 x48) w37 k) w37 fun x49 w38 =>
 m R (o_pick x44 (.bool true) x49) w38 fun x50 w39 =>
 j10 x50 w39) fun x36 u10 w40 =>
 mif x36 (
 R (.returned (.bool false)) w40) (
 m R (o_fieldAddr 57 x6 0) w40 fun x51 w41 =>
 m R (o_load 3 x51) w41 fun x52 w42 =>
 m R (o_indexAddr 63 x4 x52) w42 fun x53 w43 =>
 m R (o_store 4 x53 (.bool true)) w43 fun _ w44 =>
 j12 w44))) fun u12 w45 =>
 m R (o_bin .add 3 true x28 (.int .i64 1)) w45 fun x54 w46 =>
 next6 x54 w46) (
 m R (o_fieldAddr 25 x1 1) w20 fun x55 w47 =>
 m R (o_load 23 x55) w47 fun x56 w48 =>
 m R (o_builtin .len #[23] 3 [false] [x56]) w48 fun x57 w49 =>
 ml1 (.int .i64 0) w49 fun x58 u14 w50 next14 =>
 m R (o_bin .lss 3 false x58 x57) w50 fun x59 w51 =>
 mif x59 (
 m R (o_indexAddr 23 x56 x58) w51 fun x61 w52 =>
 m R (o_load 61 x61) w52 fun x62 w53 =>
 m R (o_alloc 61) w53 fun x8 w54 =>
 m R (o_store 61 x8 x62) w54 fun _ w55 =>
 mj1 (fun j17 =>
 m R (o_fieldAddr 61 x8 0) w55 fun x63 w56 =>
 m R (o_load 4 x63) w56 fun x64 w57 =>
 m R (o_un .not x64) w57 fun x65 w58 =>
 mguard x65 true (fun k => m R (o_load 61 x8) w58 k) w58 fun x67 w59 =>
 mguard x65 true (fun k => m R (o_call (fv 31) [x67]) w59 k) w59 fun x68 w60 =>
 mguard x65 true (fun k => m R (o_un .not x68) w60 k) w60 fun x69 w61 =>
 m R (o_pick x65 x69 (.bool false)) w61 fun x70 w62 =>
 j17 x70 w62) fun x70 u17 w63 =>
 mif x70 (
 R (.returned (.bool false)) w63) (
 m R (o_fieldAddr 61 x8 3) w63 fun x71 w64 =>
 m R (o_load 29 x71) w64 fun x72 w65 =>
 m R (o_builtin .len #[29] 3 [false] [x72]) w65 fun x73 w66 =>
 ml1 (.int .i64 0) w66 fun x74 u19 w67 next19 =>
 m R (o_bin .lss 3 false x74 x73) w67 fun x75 w68 =>
 mif x75 (
 m R (o_indexAddr 29 x72 x74) w68 fun x77 w69 =>
 m R (o_load 3 x77) w69 fun x78 w70 =>
 mj1 (fun j22 =>
 m R (o_bin .mul 3 true (.int .i64 2) x58) w70 fun x81 w71 =>
 m R (o_bin .add 3 true x81 (.int .i64 1)) w71 fun x82 w72 =>
 m R (o_call (fv 32) [x13, x82, x78]) w72 fun x84 w73 =>
 m R (o_un .not x84) w73 fun x85 w74 =>
 mguard x85 false (fun k => m R (o_fieldAddr 25 x1 0) w74 k) w74 fun x87 w75 =>
 mguard x85 false (fun k => m R (o_load 22 x87) w75 k) w75 fun x88 w76 =>
 mguard x85 false (fun k => m R (o_move x78) w76 k) w76 fun x89 w77 =>
 mguard x85 false (fun k => m R (o_indexAddr 22 x88 x89) w77 k) w77 fun x90 w78 =>
 mguard x85 false (fun k => m R (o_fieldAddr 57 x90 0) w78 k) w78 fun x91 w79 =>
 mguard x85 false (fun k => m R (o_load 3 x91) w79 k) w79 fun x92 w80 =>
 mguard x85 false (fun k => m R (o_bin .eql 3 true x92 (.int .i64 0)) w80 k) w80 fun x93 w81 =>
 m R (o_pick x85 (.bool true) x93) w81 fun x94 w82 =>
 mguard x94 false (fun k => m R (o_move x74) w82 k) w82 fun x96 w83 =>
 mguard x94 false (fun k => m R (o_bin .gtr 3 true x96 (.int .i64 0)) w83 k) w83 fun x97 w84 =>
 mguard x94 false (fun k => m R (o_move x97) w84 k) w84 fun x98 w85 =>
 mguard x98 true (fun k => m R (o_move x78) w85 k) w85 fun x99 w86 =>
 mguard x98 true (fun k => m R (o_fieldAddr 61 x8 3) w86 k) w86 fun x100 w87 =>
 mguard x98 true (fun k => m R (o_load 29 x100) w87 k) w87 fun x101 w88 =>
 mguard x98 true (fun k => m R (o_move x74) w88 k) w88 fun x102 w89 =>
 mguard x98 true (fun k => m R (o_bin .sub 3 true x102 (.int .i64 1)) w89 k) w89 fun x103 w90 =>
 mguard x98 true (fun k => m R (o_indexAddr 29 x101 x103) w90 k) w90 fun x104 w91 =>
 mguard x98 true (fun k => m R (o_load 3 x104) w91 k) w91 fun x105 w92 =>
 mguard x98 true (fun k => m R (o_bin .leq 3 false x99 x105) w92 k) w92 fun x106 w93 =>
 mguard x94 false (fun k => m R (o_pick x98 x106 (.bool false)) w93 k) w93 fun x107 w94 =>
 m R (o_pick x94 (.bool true) x107) w94 fun x108 w95 =>
 j22 x108 w95) fun x108 u22 w96 =>
 mif x108 (
 R (.returned (.bool false)) w96) (
 m R (o_bin .add 3 true x74 (.int .i64 1)) w96 fun x109 w97 =>
 next19 x109 w97)) (
 m R (o_bin .add 3 true x58 (.int .i64 1)) w68 fun x110 w98 =>
 next14 x110 w98))) (
 m R (o_bin .eql 3 true x13 (.int .i64 0)) w51 fun x112 w99 =>
 mguard x112 false (fun k => m R (o_fieldAddr 25 x1 0) w99 k) w99 fun x114 w100 =>
 mguard x112 false (fun k => m R (o_load 22 x114) w100 k) w100 fun x115 w101 =>
 mguard x112 false (fun k => m R (o_move x13) w101 k) w101 fun x116 w102 =>
 mguard x112 false (fun k => m R (o_bin .sub 3 true x116 (.int .i64 1)) w102 k) w102 fun x117 w103 =>
 mguard x112 false (fun k => m R (o_indexAddr 22 x115 x117) w103 k) w103 fun x118 w104 =>
 mguard x112 false (fun k => m R (o_fieldAddr 57 x118 0) w104 k) w104 fun x119 w105 =>
 mguard x112 false (fun k => m R (o_load 3 x119) w105 k) w105 fun x120 w106 =>
 mguard x112 false (fun k => m R (o_bin .gtr 3 true x120 (.int .i64 0)) w106 k) w106 fun x121 w107 =>
 m R (o_pick x112 (.bool true) x121) w107 fun x122 w108 =>
 R (.returned x122) w108)))
def A_tree_Right : Ann := ⟨[(6, [28], 36028796750528580), (14, [58], 2596148429267413526034872012900228), (19, [74], 1298074214614817441201145501451780)], [(3, [24], 33538048), (12, [], 18014397435740228), (10, [36], 2251731094208512), (17, [70], 2351959869397967831040), (22, [108], 649037106712390543758997453799424)], [], [], []⟩
theorem E_tree_Right (x0 : Value) (w : World) (R : Ending → World → Prop) : cwp Tryz.prog A_tree_Right (Tryz.f8.body.getD .skip) (retPost Tryz.prog Tryz.f8.results.toList R) (argE [x0]) w = F_tree_Right x0 w R := by kernel_rfl
theorem C_tree_Right {x0 : Value} {w : World} {R : Ending → World → Prop} (h : F_tree_Right x0 w R) : Calls Tryz.prog 8 #[x0] w R :=
 calls_cwp (A := A_tree_Right) (args := [x0]) mixed Tryz.func8 (c := Tryz.f8.body.getD .skip) (by kernel_rfl) (by kernel_rfl) (by kernel_rfl) ((E_tree_Right x0 w R).mpr h)
def F_tree_Place (x0 x1 : Value) (w : World) (R : Ending → World → Prop) : Prop :=
 m R (o_box 25 x0) w fun x2 w1 =>
 m R (o_box 3 x1) w1 fun x3 w2 =>
 m R (o_load 3 x3) w2 fun x5 w3 =>
 m R (o_bin .lss 3 true x5 (.int .i64 1)) w3 fun x6 w4 =>
 mif x6 (
 R (.returned (.int .i64 (-1))) w4) (
 m R (o_load 25 x2) w4 fun x7 w5 =>
 m R (o_call (fv 34) [x7]) w5 fun x8 w6 =>
 m R (o_field 25 x8 0) w6 fun x9 w7 =>
 m R (o_func (.func 35) [] [x3]) w7 fun x10 w8 =>
 m R (o_call (fv 33) [x9, x10]) w8 fun x11 w9 =>
 R (.returned x11) w9)
def A_tree_Place : Ann := ⟨[], [], [], [], []⟩
theorem E_tree_Place (x0 x1 : Value) (w : World) (R : Ending → World → Prop) : cwp Tryz.prog A_tree_Place (Tryz.f9.body.getD .skip) (retPost Tryz.prog Tryz.f9.results.toList R) (argE [x0, x1]) w = F_tree_Place x0 x1 w R := by kernel_rfl
theorem C_tree_Place {x0 x1 : Value} {w : World} {R : Ending → World → Prop} (h : F_tree_Place x0 x1 w R) : Calls Tryz.prog 9 #[x0, x1] w R :=
 calls_cwp (A := A_tree_Place) (args := [x0, x1]) mixed Tryz.func9 (c := Tryz.f9.body.getD .skip) (by kernel_rfl) (by kernel_rfl) (by kernel_rfl) ((E_tree_Place x0 x1 w R).mpr h)
def F_tree_Names (x0 : Value) (w : World) (R : Ending → World → Prop) : Prop :=
 m R (o_box 25 x0) w fun x1 w1 =>
 m R (o_load 25 x1) w1 fun x6 w2 =>
 m R (o_call (fv 34) [x6]) w2 fun x7 w3 =>
 m R (o_field 25 x7 0) w3 fun x8 w4 =>
 m R (o_builtin .len #[22] 3 [false] [x8]) w4 fun x9 w5 =>
 ml2 (.slice none 0 0) (.int .i64 0) w5 fun x3 x10 u3 w6 next3 =>
 m R (o_bin .lss 3 false x10 x9) w6 fun x11 w7 =>
 mif x11 (
 mj1 (fun j7 =>
 m R (o_indexAddr 22 x8 x10) w7 fun x12 w8 =>
 m R (o_load 57 x12) w8 fun x13 w9 =>
 m R (o_alloc 57) w9 fun x5 w10 =>
 m R (o_store 57 x5 x13) w10 fun _ w11 =>
 m R (o_fieldAddr 57 x5 0) w11 fun x14 w12 =>
 m R (o_load 3 x14) w12 fun x15 w13 =>
 m R (o_bin .gtr 3 true x15 (.int .i64 0)) w13 fun x16 w14 =>
 mif x16 (
 m R (o_fieldAddr 57 x5 0) w14 fun x18 w15 =>
 m R (o_load 3 x18) w15 fun x19 w16 =>
 m R (o_buildSlice 29 1 [(0, x19)]) w16 fun x20 w17 =>
 m R (o_builtin .append #[29, 29] 29 [false, false] [x3, x20]) w17 fun x21 w18 =>
 j7 x21 w18) (
 j7 x3 w14)) fun x3 u7 w19 =>
 m R (o_bin .add 3 true x10 (.int .i64 1)) w19 fun x22 w20 =>
 next3 x3 x22 w20) (
 m R (o_call (fv 36) [x3]) w7 fun x24 w21 =>
 R (.returned x3) w21)
def A_tree_Names : Ann := ⟨[(3, [3, 10], 8387624)], [(7, [3], 4190248)], [], [], []⟩
theorem E_tree_Names (x0 : Value) (w : World) (R : Ending → World → Prop) : cwp Tryz.prog A_tree_Names (Tryz.f10.body.getD .skip) (retPost Tryz.prog Tryz.f10.results.toList R) (argE [x0]) w = F_tree_Names x0 w R := by kernel_rfl
theorem C_tree_Names {x0 : Value} {w : World} {R : Ending → World → Prop} (h : F_tree_Names x0 w R) : Calls Tryz.prog 10 #[x0] w R :=
 calls_cwp (A := A_tree_Names) (args := [x0]) mixed Tryz.func10 (c := Tryz.f10.body.getD .skip) (by kernel_rfl) (by kernel_rfl) (by kernel_rfl) ((E_tree_Names x0 w R).mpr h)
def F_tree_Resolve (x0 x1 : Value) (w : World) (R : Ending → World → Prop) : Prop :=
 m R (o_box 25 x0) w fun x2 w1 =>
 m R (o_load 25 x2) w1 fun x8 w2 =>
 m R (o_call (fv 34) [x8]) w2 fun x9 w3 =>
 m R (o_store 25 x2 x9) w3 fun _ w4 =>
 m R (o_fieldAddr 25 x2 0) w4 fun x10 w5 =>
 m R (o_load 22 x10) w5 fun x11 w6 =>
 m R (o_builtin .len #[22] 3 [false] [x11]) w6 fun x12 w7 =>
 m R (o_alloc 3) w7 fun x5 w8 =>
 m R (o_store 3 x5 x12) w8 fun _ w9 =>
 m R (o_alloc 29) w9 fun x6 w10 =>
 m R (o_alloc 69) w10 fun x7 w11 =>
 m R (o_func (.func 37) [] [x2, x6, x7, x5]) w11 fun x13 w12 =>
 m R (o_store 69 x7 x13) w12 fun _ w13 =>
 mj0 (fun j8 =>
 mj1 (fun j7 =>
 m R (o_bin .geq 3 true x1 (.int .i64 0)) w13 fun x15 w14 =>
 mguard x15 true (fun k => m R (o_move x1) w14 k) w14 fun x17 w15 =>
 mguard x15 true (fun k => m R (o_load 3 x5) w15 k) w15 fun x18 w16 =>
 mguard x15 true (fun k => m R (o_bin .mul 3 true (.int .i64 2) x18) w16 k) w16 fun x19 w17 =>
 mguard x15 true (fun k => m R (o_bin .sub 3 true x19 (.int .i64 1)) w17 k) w17 fun x20 w18 =>
 mguard x15 true (fun k => m R (o_bin .lss 3 false x17 x20) w18 k) w18 fun x21 w19 =>
 m R (o_pick x15 x21 (.bool false)) w19 fun x22 w20 =>
 j7 x22 w20) fun x22 u7 w21 =>
 mif x22 (
 m R (o_load 69 x7) w21 fun x23 w22 =>
 m R (o_call x23 [x1]) w22 fun x25 w23 =>
 j8 w23) (
 j8 w21)) fun u8 w24 =>
 m R (o_load 29 x6) w24 fun x26 w25 =>
 R (.returned x26) w25
def A_tree_Resolve : Ann := ⟨[], [(8, [], 67092480), (7, [22], 8372224)], [], [], []⟩
theorem E_tree_Resolve (x0 x1 : Value) (w : World) (R : Ending → World → Prop) : cwp Tryz.prog A_tree_Resolve (Tryz.f11.body.getD .skip) (retPost Tryz.prog Tryz.f11.results.toList R) (argE [x0, x1]) w = F_tree_Resolve x0 x1 w R := by kernel_rfl
theorem C_tree_Resolve {x0 x1 : Value} {w : World} {R : Ending → World → Prop} (h : F_tree_Resolve x0 x1 w R) : Calls Tryz.prog 11 #[x0, x1] w R :=
 calls_cwp (A := A_tree_Resolve) (args := [x0, x1]) mixed Tryz.func11 (c := Tryz.f11.body.getD .skip) (by kernel_rfl) (by kernel_rfl) (by kernel_rfl) ((E_tree_Resolve x0 x1 w R).mpr h)
def F_tree_Hash (x0 : Value) (w : World) (R : Ending → World → Prop) : Prop :=
 m R (o_box 25 x0) w fun x1 w1 =>
 m R (o_alloc 33) w1 fun x2 w2 =>
 m R (o_load 25 x1) w2 fun x3 w3 =>
 m R (o_call (fv 34) [x3]) w3 fun x4 w4 =>
 m R (o_store 25 x1 x4) w4 fun _ w5 =>
 m R (o_fieldAddr 25 x1 0) w5 fun x5 w6 =>
 m R (o_load 22 x5) w6 fun x6 w7 =>
 m R (o_builtin .len #[22] 3 [false] [x6]) w7 fun x7 w8 =>
 m R (o_bin .eql 3 true x7 (.int .i64 0)) w8 fun x8 w9 =>
 mif x8 (
 m R (o_buildSlice 123 1 [(0, (.string (ByteArray.mk #[110, 111, 110, 101])))]) w9 fun x9 w10 =>
 m R (o_call (fv 40) [x9]) w10 fun x10 w11 =>
 m R (o_store 33 x2 x10) w11 fun _ w12 =>
 rcell Tryz.prog 33 x2 w12 fun r2 =>
 R (.returned r2) w12) (
 dq Tryz.prog w9 (o_load 25 x1) fun x11 =>
 dp Tryz.prog (o_fieldAddr 25 x1 0) fun x12 =>
 dq Tryz.prog w9 (o_load 22 x12) fun x13 =>
 dp Tryz.prog (o_builtin .len #[22] 3 [false] [x13]) fun x14 =>
 df Tryz.prog w9 (o_call (fv 42) [x14]) true fun x15 w13 =>
 df Tryz.prog w13 (o_call (fv 41) [x11, x15]) false fun x16 w14 =>
 df Tryz.prog w14 (o_store 33 x2 x16) false fun _ w15 =>
 dend w15 fun w16 =>
 rcell Tryz.prog 33 x2 w16 fun r2 =>
 R (.returned r2) w16)
def A_tree_Hash : Ann := ⟨[], [], [(4, [⟨0, .q (some 0), 2, 0, 2048⟩, ⟨1, .q none, 2, 0, 4096⟩, ⟨2, .q (some 0), 4096, 2, 8192⟩, ⟨3, .q none, 8192, 6, 16384⟩, ⟨4, .f 0 true, 16384, 14, 32768⟩, ⟨5, .f 1 false, 34816, 31, 65536⟩, ⟨6, .f 2 false, 65540, 63, 0⟩])], [], []⟩
theorem E_tree_Hash (x0 : Value) (w : World) (R : Ending → World → Prop) : cwp Tryz.prog A_tree_Hash (Tryz.f12.body.getD .skip) (retPost Tryz.prog Tryz.f12.results.toList R) (argE [x0]) w = F_tree_Hash x0 w R := by kernel_rfl
theorem C_tree_Hash {x0 : Value} {w : World} {R : Ending → World → Prop} (h : F_tree_Hash x0 w R) : Calls Tryz.prog 12 #[x0] w R :=
 calls_cwp (A := A_tree_Hash) (args := [x0]) mixed Tryz.func12 (c := Tryz.f12.body.getD .skip) (by kernel_rfl) (by kernel_rfl) (by kernel_rfl) ((E_tree_Hash x0 w R).mpr h)
def F_bevyref08_Hash (x0 : Value) (w : World) (R : Ending → World → Prop) : Prop :=
 m R (o_box 25 x0) w fun x1 w1 =>
 m R (o_alloc 32) w1 fun x2 w2 =>
 m R (o_fieldAddr 25 x1 0) w2 fun x3 w3 =>
 m R (o_load 22 x3) w3 fun x4 w4 =>
 m R (o_builtin .len #[22] 3 [false] [x4]) w4 fun x5 w5 =>
 m R (o_bin .eql 3 true x5 (.int .i64 0)) w5 fun x6 w6 =>
 mif x6 (
 m R (o_call (fv 43) [(.string (ByteArray.mk #[110, 111, 110, 101]))]) w6 fun x7 w7 =>
 m R (o_store 32 x2 x7) w7 fun _ w8 =>
 rcell Tryz.prog 32 x2 w8 fun r2 =>
 R (.returned r2) w8) (
 dq Tryz.prog w6 (o_load 25 x1) fun x8 =>
 dp Tryz.prog (o_fieldAddr 25 x1 0) fun x9 =>
 dq Tryz.prog w6 (o_load 22 x9) fun x10 =>
 dp Tryz.prog (o_builtin .len #[22] 3 [false] [x10]) fun x11 =>
 df Tryz.prog w6 (o_call (fv 44) [x11]) true fun x12 w9 =>
 df Tryz.prog w9 (o_call (fv 21) [x8, x12]) false fun x13 w10 =>
 df Tryz.prog w10 (o_store 32 x2 x13) false fun _ w11 =>
 dend w11 fun w12 =>
 rcell Tryz.prog 32 x2 w12 fun r2 =>
 R (.returned r2) w12)
def A_bevyref08_Hash : Ann := ⟨[], [], [(3, [⟨0, .q (some 0), 2, 0, 256⟩, ⟨1, .q none, 2, 0, 512⟩, ⟨2, .q (some 0), 512, 2, 1024⟩, ⟨3, .q none, 1024, 6, 2048⟩, ⟨4, .f 0 true, 2048, 14, 4096⟩, ⟨5, .f 1 false, 4352, 31, 8192⟩, ⟨6, .f 2 false, 8196, 63, 0⟩])], [], []⟩
theorem E_bevyref08_Hash (x0 : Value) (w : World) (R : Ending → World → Prop) : cwp Tryz.prog A_bevyref08_Hash (Tryz.f13.body.getD .skip) (retPost Tryz.prog Tryz.f13.results.toList R) (argE [x0]) w = F_bevyref08_Hash x0 w R := by kernel_rfl
theorem C_bevyref08_Hash {x0 : Value} {w : World} {R : Ending → World → Prop} (h : F_bevyref08_Hash x0 w R) : Calls Tryz.prog 13 #[x0] w R :=
 calls_cwp (A := A_bevyref08_Hash) (args := [x0]) mixed Tryz.func13 (c := Tryz.f13.body.getD .skip) (by kernel_rfl) (by kernel_rfl) (by kernel_rfl) ((E_bevyref08_Hash x0 w R).mpr h)
def F_tree_HashAt (x0 x1 : Value) (w : World) (R : Ending → World → Prop) : Prop :=
 m R (o_box 25 x0) w fun x2 w1 =>
 m R (o_alloc 33) w1 fun x4 w2 =>
 m R (o_load 25 x2) w2 fun x5 w3 =>
 m R (o_call (fv 34) [x5]) w3 fun x6 w4 =>
 m R (o_store 25 x2 x6) w4 fun _ w5 =>
 mj1 (fun j3 =>
 m R (o_bin .lss 3 true x1 (.int .i64 0)) w5 fun x8 w6 =>
 mguard x8 false (fun k => m R (o_move x1) w6 k) w6 fun x10 w7 =>
 mguard x8 false (fun k => m R (o_fieldAddr 25 x2 0) w7 k) w7 fun x11 w8 =>
 mguard x8 false (fun k => m R (o_load 22 x11) w8 k) w8 fun x12 w9 =>
 mguard x8 false (fun k => m R (o_builtin .len #[22] 3 [false] [x12]) w9 k) w9 fun x13 w10 =>
 mguard x8 false (fun k => m R (o_bin .mul 3 true (.int .i64 2) x13) w10 k) w10 fun x14 w11 =>
 mguard x8 false (fun k => m R (o_bin .sub 3 true x14 (.int .i64 1)) w11 k) w11 fun x15 w12 =>
 mguard x8 false (fun k => m R (o_bin .geq 3 false x10 x15) w12 k) w12 fun x16 w13 =>
 m R (o_pick x8 (.bool true) x16) w13 fun x17 w14 =>
 j3 x17 w14) fun x17 u3 w15 =>
 mif x17 (
 m R (o_build 33 []) w15 fun x18 w16 =>
 m R (o_store 33 x4 x18) w16 fun _ w17 =>
 rcell Tryz.prog 33 x4 w17 fun r4 =>
 R (.returned r4) w17) (
 m R (o_load 25 x2) w15 fun x19 w18 =>
 m R (o_call (fv 41) [x19, x1]) w18 fun x21 w19 =>
 m R (o_store 33 x4 x21) w19 fun _ w20 =>
 rcell Tryz.prog 33 x4 w20 fun r4 =>
 R (.returned r4) w20)
def A_tree_HashAt : Ann := ⟨[], [(3, [17], 262016)], [], [], []⟩
theorem E_tree_HashAt (x0 x1 : Value) (w : World) (R : Ending → World → Prop) : cwp Tryz.prog A_tree_HashAt (Tryz.f14.body.getD .skip) (retPost Tryz.prog Tryz.f14.results.toList R) (argE [x0, x1]) w = F_tree_HashAt x0 x1 w R := by kernel_rfl
theorem C_tree_HashAt {x0 x1 : Value} {w : World} {R : Ending → World → Prop} (h : F_tree_HashAt x0 x1 w R) : Calls Tryz.prog 14 #[x0, x1] w R :=
 calls_cwp (A := A_tree_HashAt) (args := [x0, x1]) mixed Tryz.func14 (c := Tryz.f14.body.getD .skip) (by kernel_rfl) (by kernel_rfl) (by kernel_rfl) ((E_tree_HashAt x0 x1 w R).mpr h)
def F_tree_Pack (x0 : Value) (w : World) (R : Ending → World → Prop) : Prop :=
 m R (o_box 25 x0) w fun x1 w1 =>
 m R (o_load 25 x1) w1 fun x10 w2 =>
 m R (o_call (fv 8) [x10]) w2 fun x11 w3 =>
 m R (o_un .not x11) w3 fun x12 w4 =>
 mif x12 (
 R (.returned (.string (ByteArray.mk #[]))) w4) (
 m R (o_call (fv 45) []) w4 fun x13 w5 =>
 m R (o_fieldAddr 25 x1 0) w5 fun x15 w6 =>
 m R (o_load 22 x15) w6 fun x16 w7 =>
 m R (o_builtin .len #[22] 3 [false] [x16]) w7 fun x17 w8 =>
 m R (o_call (fv 46) [x13, x17]) w8 fun x18 w9 =>
 m R (o_fieldAddr 25 x1 0) w9 fun x19 w10 =>
 m R (o_load 22 x19) w10 fun x20 w11 =>
 m R (o_builtin .len #[22] 3 [false] [x20]) w11 fun x21 w12 =>
 ml1 (.int .i64 0) w12 fun x22 u6 w13 next6 =>
 m R (o_bin .lss 3 false x22 x21) w13 fun x23 w14 =>
 mif x23 (
 m R (o_indexAddr 22 x20 x22) w14 fun x24 w15 =>
 m R (o_load 57 x24) w15 fun x25 w16 =>
 m R (o_alloc 57) w16 fun x5 w17 =>
 m R (o_store 57 x5 x25) w17 fun _ w18 =>
 m R (o_load 57 x5) w18 fun x27 w19 =>
 m R (o_call (fv 47) [x13, x27]) w19 fun x28 w20 =>
 m R (o_bin .add 3 true x22 (.int .i64 1)) w20 fun x29 w21 =>
 next6 x29 w21) (
 m R (o_fieldAddr 25 x1 1) w14 fun x30 w22 =>
 m R (o_load 23 x30) w22 fun x31 w23 =>
 m R (o_builtin .len #[23] 3 [false] [x31]) w23 fun x32 w24 =>
 ml1 (.int .i64 0) w24 fun x33 u11 w25 next11 =>
 m R (o_bin .lss 3 false x33 x32) w25 fun x34 w26 =>
 mif x34 (
 m R (o_indexAddr 23 x31 x33) w26 fun x35 w27 =>
 m R (o_load 61 x35) w27 fun x36 w28 =>
 m R (o_alloc 61) w28 fun x7 w29 =>
 m R (o_store 61 x7 x36) w29 fun _ w30 =>
 m R (o_load 61 x7) w30 fun x38 w31 =>
 m R (o_call (fv 48) [x13, x38]) w31 fun x39 w32 =>
 m R (o_bin .add 3 true x33 (.int .i64 1)) w32 fun x40 w33 =>
 next11 x40 w33) (
 m R (o_call (fv 49) [x13]) w26 fun x43 w34 =>
 m R (o_extract x43 0) w34 fun x44 w35 =>
 m R (o_extract x43 1) w35 fun x45 w36 =>
 R (.returned x44) w36)))
def A_tree_Pack : Ann := ⟨[(6, [22], 1069547552), (11, [33], 2190433321088)], [], [], [], []⟩
theorem E_tree_Pack (x0 : Value) (w : World) (R : Ending → World → Prop) : cwp Tryz.prog A_tree_Pack (Tryz.f15.body.getD .skip) (retPost Tryz.prog Tryz.f15.results.toList R) (argE [x0]) w = F_tree_Pack x0 w R := by kernel_rfl
theorem C_tree_Pack {x0 : Value} {w : World} {R : Ending → World → Prop} (h : F_tree_Pack x0 w R) : Calls Tryz.prog 15 #[x0] w R :=
 calls_cwp (A := A_tree_Pack) (args := [x0]) mixed Tryz.func15 (c := Tryz.f15.body.getD .skip) (by kernel_rfl) (by kernel_rfl) (by kernel_rfl) ((E_tree_Pack x0 w R).mpr h)
def F_bevyref08_Place (x0 x1 : Value) (w : World) (R : Ending → World → Prop) : Prop :=
 m R (o_box 25 x0) w fun x2 w1 =>
 ml1 (.int .i64 0) w1 fun x5 u2 w2 next2 =>
 mj0 (fun j4 =>
 m R (o_fieldAddr 25 x2 0) w2 fun x7 w3 =>
 m R (o_load 22 x7) w3 fun x8 w4 =>
 m R (o_builtin .len #[22] 3 [false] [x8]) w4 fun x9 w5 =>
 m R (o_bin .lss 3 false x5 x9) w5 fun x10 w6 =>
 mguard x10 true (fun k => m R (o_move x1) w6 k) w6 fun x12 w7 =>
 mguard x10 true (fun k => m R (o_bin .gtr 3 true x12 (.int .i64 0)) w7 k) w7 fun x13 w8 =>
 m R (o_pick x10 x13 (.bool false)) w8 fun x14 w9 =>
 mif x14 (
 j4 w9) (
 R (.returned (.int .i64 (-1))) w9)) fun u4 w10 =>
 m R (o_fieldAddr 25 x2 0) w10 fun x17 w11 =>
 m R (o_load 22 x17) w11 fun x18 w12 =>
 m R (o_indexAddr 22 x18 x5) w12 fun x20 w13 =>
 m R (o_fieldAddr 57 x20 0) w13 fun x21 w14 =>
 m R (o_load 3 x21) w14 fun x22 w15 =>
 m R (o_bin .eql 3 false x22 x1) w15 fun x24 w16 =>
 mif x24 (
 R (.returned x5) w16) (
 m R (o_bin .add 3 true x5 (.int .i64 1)) w16 fun x16 w17 =>
 next2 x16 w17)
def A_bevyref08_Place : Ann := ⟨[(2, [5], 67108848)], [(4, [], 32704)], [], [], []⟩
theorem E_bevyref08_Place (x0 x1 : Value) (w : World) (R : Ending → World → Prop) : cwp Tryz.prog A_bevyref08_Place (Tryz.f16.body.getD .skip) (retPost Tryz.prog Tryz.f16.results.toList R) (argE [x0, x1]) w = F_bevyref08_Place x0 x1 w R := by kernel_rfl
theorem C_bevyref08_Place {x0 x1 : Value} {w : World} {R : Ending → World → Prop} (h : F_bevyref08_Place x0 x1 w R) : Calls Tryz.prog 16 #[x0, x1] w R :=
 calls_cwp (A := A_bevyref08_Place) (args := [x0, x1]) mixed Tryz.func16 (c := Tryz.f16.body.getD .skip) (by kernel_rfl) (by kernel_rfl) (by kernel_rfl) ((E_bevyref08_Place x0 x1 w R).mpr h)
def F_bevyref07_Same (x0 x1 : Value) (w : World) (R : Ending → World → Prop) : Prop :=
 m R (o_builtin .len #[29] 3 [false] [x0]) w fun x7 w1 =>
 m R (o_builtin .len #[29] 3 [false] [x1]) w1 fun x9 w2 =>
 m R (o_bin .neq 3 false x7 x9) w2 fun x10 w3 =>
 mif x10 (
 R (.returned (.bool false)) w3) (
 ml1 (.int .i64 0) w3 fun x5 u4 w4 next4 =>
 m R (o_builtin .len #[29] 3 [false] [x0]) w4 fun x13 w5 =>
 m R (o_bin .lss 3 false x5 x13) w5 fun x14 w6 =>
 mif x14 (
 dp Tryz.prog (o_indexAddr 29 x0 x5) fun x19 =>
 dq Tryz.prog w6 (o_load 3 x19) fun x20 =>
 dp Tryz.prog (o_indexAddr 29 x1 x5) fun x23 =>
 dq Tryz.prog w6 (o_load 3 x23) fun x24 =>
 dp Tryz.prog (o_bin .neq 3 false x20 x24) fun x25 =>
 dend w6 fun w7 =>
 mif x25 (
 R (.returned (.bool false)) w7) (
 m R (o_bin .add 3 true x5 (.int .i64 1)) w7 fun x16 w8 =>
 next4 x16 w8)) (
 R (.returned (.bool true)) w6))
def A_bevyref07_Same : Ann := ⟨[(4, [5], 67106864)], [], [(6, [⟨0, .q none, 1, 0, 131072⟩, ⟨1, .q none, 32, 0, 262144⟩, ⟨2, .q none, 393216, 3, 524288⟩, ⟨3, .q (some 0), 524288, 7, 1048576⟩, ⟨4, .q none, 2, 0, 2097152⟩, ⟨5, .q none, 32, 0, 4194304⟩, ⟨6, .q none, 6291456, 48, 8388608⟩, ⟨7, .q (some 0), 8388608, 112, 16777216⟩, ⟨8, .q none, 17825792, 255, 33554432⟩])], [], []⟩
theorem E_bevyref07_Same (x0 x1 : Value) (w : World) (R : Ending → World → Prop) : cwp Tryz.prog A_bevyref07_Same (Tryz.f17.body.getD .skip) (retPost Tryz.prog Tryz.f17.results.toList R) (argE [x0, x1]) w = F_bevyref07_Same x0 x1 w R := by kernel_rfl
theorem C_bevyref07_Same {x0 x1 : Value} {w : World} {R : Ending → World → Prop} (h : F_bevyref07_Same x0 x1 w R) : Calls Tryz.prog 17 #[x0, x1] w R :=
 calls_cwp (A := A_bevyref07_Same) (args := [x0, x1]) mixed Tryz.func17 (c := Tryz.f17.body.getD .skip) (by kernel_rfl) (by kernel_rfl) (by kernel_rfl) ((E_bevyref07_Same x0 x1 w R).mpr h)
def F_bevyref08_Names (x0 : Value) (w : World) (R : Ending → World → Prop) : Prop :=
 m R (o_box 25 x0) w fun x1 w1 =>
 ml2 (.slice none 0 0) (.int .i64 1) w1 fun x3 x4 u3 w2 next3 =>
 m R (o_bin .leq 3 true x4 (.int .i64 64)) w2 fun x6 w3 =>
 mif x6 (
 mj1 (fun j4 =>
 m R (o_load 25 x1) w3 fun x9 w4 =>
 m R (o_call (fv 16) [x9, x4]) w4 fun x11 w5 =>
 m R (o_bin .geq 3 true x11 (.int .i64 0)) w5 fun x12 w6 =>
 mif x12 (
 m R (o_buildSlice 29 1 [(0, x4)]) w6 fun x15 w7 =>
 m R (o_builtin .append #[29, 29] 29 [false, false] [x3, x15]) w7 fun x16 w8 =>
 j4 x16 w8) (
 j4 x3 w6)) fun x3 u4 w9 =>
 m R (o_bin .add 3 true x4 (.int .i64 1)) w9 fun x8 w10 =>
 next3 x3 x8 w10) (
 R (.returned x3) w3)
def A_bevyref08_Names : Ann := ⟨[(3, [3, 4], 131064)], [(4, [3], 130568)], [], [], []⟩
theorem E_bevyref08_Names (x0 : Value) (w : World) (R : Ending → World → Prop) : cwp Tryz.prog A_bevyref08_Names (Tryz.f18.body.getD .skip) (retPost Tryz.prog Tryz.f18.results.toList R) (argE [x0]) w = F_bevyref08_Names x0 w R := by kernel_rfl
theorem C_bevyref08_Names {x0 : Value} {w : World} {R : Ending → World → Prop} (h : F_bevyref08_Names x0 w R) : Calls Tryz.prog 18 #[x0] w R :=
 calls_cwp (A := A_bevyref08_Names) (args := [x0]) mixed Tryz.func18 (c := Tryz.f18.body.getD .skip) (by kernel_rfl) (by kernel_rfl) (by kernel_rfl) ((E_bevyref08_Names x0 w R).mpr h)
def F_bevyref08_Pack (x0 : Value) (w : World) (R : Ending → World → Prop) : Prop :=
 m R (o_box 25 x0) w fun x1 w1 =>
 m R (o_fieldAddr 25 x1 0) w1 fun x6 w2 =>
 m R (o_load 22 x6) w2 fun x7 w3 =>
 m R (o_builtin .len #[22] 3 [false] [x7]) w3 fun x8 w4 =>
 m R (o_call (fv 50) [x8]) w4 fun x9 w5 =>
 ml2 x9 (.int .i64 0) w5 fun x3 x4 u3 w6 next3 =>
 m R (o_fieldAddr 25 x1 0) w6 fun x11 w7 =>
 m R (o_load 22 x11) w7 fun x12 w8 =>
 m R (o_builtin .len #[22] 3 [false] [x12]) w8 fun x13 w9 =>
 m R (o_bin .lss 3 false x4 x13) w9 fun x14 w10 =>
 mif x14 (
 m R (o_fieldAddr 25 x1 0) w10 fun x18 w11 =>
 m R (o_load 22 x18) w11 fun x19 w12 =>
 m R (o_indexAddr 22 x19 x4) w12 fun x21 w13 =>
 m R (o_load 57 x21) w13 fun x22 w14 =>
 m R (o_call (fv 51) [x22]) w14 fun x23 w15 =>
 m R (o_bin .add 9 false x3 x23) w15 fun x24 w16 =>
 m R (o_bin .add 3 true x4 (.int .i64 1)) w16 fun x16 w17 =>
 next3 x24 x16 w17) (
 ml2 x3 (.int .i64 0) w10 fun x3 x5 u7 w18 next7 =>
 m R (o_fieldAddr 25 x1 1) w18 fun x26 w19 =>
 m R (o_load 23 x26) w19 fun x27 w20 =>
 m R (o_builtin .len #[23] 3 [false] [x27]) w20 fun x28 w21 =>
 m R (o_bin .lss 3 false x5 x28) w21 fun x29 w22 =>
 mif x29 (
 m R (o_fieldAddr 25 x1 1) w22 fun x33 w23 =>
 m R (o_load 23 x33) w23 fun x34 w24 =>
 m R (o_indexAddr 23 x34 x5) w24 fun x36 w25 =>
 m R (o_load 61 x36) w25 fun x37 w26 =>
 m R (o_call (fv 52) [x37]) w26 fun x38 w27 =>
 m R (o_bin .add 9 false x3 x38) w27 fun x39 w28 =>
 m R (o_bin .add 3 true x5 (.int .i64 1)) w28 fun x31 w29 =>
 next7 x39 x31 w29) (
 R (.returned x3) w22))
def A_bevyref08_Pack : Ann := ⟨[(3, [3, 4], 33553432), (7, [3, 5], 1099478073384)], [], [], [], []⟩
theorem E_bevyref08_Pack (x0 : Value) (w : World) (R : Ending → World → Prop) : cwp Tryz.prog A_bevyref08_Pack (Tryz.f19.body.getD .skip) (retPost Tryz.prog Tryz.f19.results.toList R) (argE [x0]) w = F_bevyref08_Pack x0 w R := by kernel_rfl
theorem C_bevyref08_Pack {x0 : Value} {w : World} {R : Ending → World → Prop} (h : F_bevyref08_Pack x0 w R) : Calls Tryz.prog 19 #[x0] w R :=
 calls_cwp (A := A_bevyref08_Pack) (args := [x0]) mixed Tryz.func19 (c := Tryz.f19.body.getD .skip) (by kernel_rfl) (by kernel_rfl) (by kernel_rfl) ((E_bevyref08_Pack x0 w R).mpr h)
def F_bevyref08_Resolve (x0 x1 : Value) (w : World) (R : Ending → World → Prop) : Prop :=
 m R (o_box 25 x0) w fun x2 w1 =>
 m R (o_fieldAddr 25 x2 0) w1 fun x9 w2 =>
 m R (o_load 22 x9) w2 fun x10 w3 =>
 m R (o_builtin .len #[22] 3 [false] [x10]) w3 fun x11 w4 =>
 m R (o_bin .rem 3 true x1 (.int .i64 2)) w4 fun x13 w5 =>
 m R (o_bin .eql 3 true x13 (.int .i64 0)) w5 fun x14 w6 =>
 mif x14 (
 mj1 (fun j6 =>
 m R (o_fieldAddr 25 x2 0) w6 fun x15 w7 =>
 m R (o_load 22 x15) w7 fun x16 w8 =>
 m R (o_bin .quo 3 true x1 (.int .i64 2)) w8 fun x18 w9 =>
 m R (o_indexAddr 22 x16 x18) w9 fun x19 w10 =>
 m R (o_fieldAddr 57 x19 0) w10 fun x20 w11 =>
 m R (o_load 3 x20) w11 fun x21 w12 =>
 m R (o_bin .neq 3 true x21 (.int .i64 0)) w12 fun x22 w13 =>
 mif x22 (
 m R (o_buildSlice 29 1 [(0, x1)]) w13 fun x25 w14 =>
 m R (o_builtin .append #[29, 29] 29 [false, false] [(.slice none 0 0), x25]) w14 fun x26 w15 =>
 j6 x26 w15) (
 j6 (.slice none 0 0) w13)) fun x5 u6 w16 =>
 R (.returned x5) w16) (
 m R (o_fieldAddr 25 x2 1) w6 fun x28 w17 =>
 m R (o_load 23 x28) w17 fun x29 w18 =>
 m R (o_bin .quo 3 true x1 (.int .i64 2)) w18 fun x31 w19 =>
 m R (o_indexAddr 23 x29 x31) w19 fun x32 w20 =>
 m R (o_load 61 x32) w20 fun x33 w21 =>
 m R (o_alloc 61) w21 fun x7 w22 =>
 m R (o_store 61 x7 x33) w22 fun _ w23 =>
 m R (o_fieldAddr 61 x7 0) w23 fun x34 w24 =>
 m R (o_load 4 x34) w24 fun x35 w25 =>
 mif x35 (
 m R (o_buildSlice 29 1 [(0, x1)]) w25 fun x38 w26 =>
 m R (o_builtin .append #[29, 29] 29 [false, false] [(.slice none 0 0), x38]) w26 fun x39 w27 =>
 ml2 x39 (.int .i64 0) w27 fun x5 x8 u11 w28 next11 =>
 m R (o_fieldAddr 61 x7 3) w28 fun x41 w29 =>
 m R (o_load 29 x41) w29 fun x42 w30 =>
 m R (o_builtin .len #[29] 3 [false] [x42]) w30 fun x43 w31 =>
 m R (o_bin .lss 3 false x8 x43) w31 fun x44 w32 =>
 mif x44 (
 m R (o_fieldAddr 61 x7 3) w32 fun x48 w33 =>
 m R (o_load 29 x48) w33 fun x49 w34 =>
 m R (o_indexAddr 29 x49 x8) w34 fun x51 w35 =>
 m R (o_load 3 x51) w35 fun x52 w36 =>
 m R (o_bin .mul 3 true (.int .i64 2) x52) w36 fun x53 w37 =>
 m R (o_buildSlice 29 1 [(0, x53)]) w37 fun x54 w38 =>
 m R (o_builtin .append #[29, 29] 29 [false, false] [x5, x54]) w38 fun x55 w39 =>
 m R (o_bin .add 3 true x8 (.int .i64 1)) w39 fun x46 w40 =>
 next11 x55 x46 w40) (
 R (.returned x5) w32)) (
 dq Tryz.prog w25 (o_load 25 x2) fun x58 =>
 df Tryz.prog w25 (o_call (fv 53) [x11, x1]) true fun x61 w41 =>
 df Tryz.prog w41 (o_call (fv 20) [x58, x61]) false fun x62 w42 =>
 df Tryz.prog w42 (o_builtin .append #[29, 29] 29 [false, false] [(.slice none 0 0), x62]) false fun x63 w43 =>
 dend w43 fun w44 =>
 dq Tryz.prog w44 (o_load 25 x2) fun x65 =>
 df Tryz.prog w44 (o_call (fv 54) [x11, x1]) true fun x68 w45 =>
 df Tryz.prog w45 (o_call (fv 20) [x65, x68]) false fun x69 w46 =>
 df Tryz.prog w46 (o_builtin .append #[29, 29] 29 [false, false] [x63, x69]) false fun x70 w47 =>
 dend w47 fun w48 =>
 R (.returned x70) w48))
def A_bevyref08_Resolve : Ann := ⟨[(11, [5, 8], 72056494526300448)], [(6, [5], 134184992)], [(15, [⟨0, .q none, 32, 0, 144115188075855872⟩, ⟨1, .q (some 0), 4, 0, 288230376151711744⟩, ⟨2, .q none, 64, 0, 576460752303423488⟩, ⟨3, .q none, 2, 0, 1152921504606846976⟩, ⟨4, .f 0 true, 1729382256910270464, 12, 2305843009213693952⟩, ⟨5, .f 1 false, 2594073385365405696, 30, 4611686018427387904⟩, ⟨6, .f 2 false, 4755801206503243776, 63, 9223372036854775808⟩, ⟨7, .q none, 9223372036854775808, 127, 32⟩]), (16, [⟨0, .q none, 32, 0, 18446744073709551616⟩, ⟨1, .q (some 0), 4, 0, 36893488147419103232⟩, ⟨2, .q none, 64, 0, 73786976294838206464⟩, ⟨3, .q none, 2, 0, 147573952589676412928⟩, ⟨4, .f 0 true, 221360928884514619392, 12, 295147905179352825856⟩, ⟨5, .f 1 false, 332041393326771929088, 30, 590295810358705651712⟩, ⟨6, .f 2 false, 608742554432415203328, 63, 1180591620717411303424⟩, ⟨7, .q none, 1180591620717411303424, 127, 16⟩])], [], []⟩
theorem E_bevyref08_Resolve (x0 x1 : Value) (w : World) (R : Ending → World → Prop) : cwp Tryz.prog A_bevyref08_Resolve (Tryz.f20.body.getD .skip) (retPost Tryz.prog Tryz.f20.results.toList R) (argE [x0, x1]) w = F_bevyref08_Resolve x0 x1 w R := by kernel_rfl
theorem C_bevyref08_Resolve {x0 x1 : Value} {w : World} {R : Ending → World → Prop} (h : F_bevyref08_Resolve x0 x1 w R) : Calls Tryz.prog 20 #[x0, x1] w R :=
 calls_cwp (A := A_bevyref08_Resolve) (args := [x0, x1]) mixed Tryz.func20 (c := Tryz.f20.body.getD .skip) (by kernel_rfl) (by kernel_rfl) (by kernel_rfl) ((E_bevyref08_Resolve x0 x1 w R).mpr h)
def F_bevyref08_HashAt (x0 x1 : Value) (w : World) (R : Ending → World → Prop) : Prop :=
 m R (o_box 25 x0) w fun x2 w1 =>
 m R (o_alloc 32) w1 fun x4 w2 =>
 m R (o_bin .rem 3 true x1 (.int .i64 2)) w2 fun x7 w3 =>
 m R (o_bin .eql 3 true x7 (.int .i64 0)) w3 fun x8 w4 =>
 mif x8 (
 m R (o_fieldAddr 25 x2 0) w4 fun x9 w5 =>
 m R (o_load 22 x9) w5 fun x10 w6 =>
 m R (o_bin .quo 3 true x1 (.int .i64 2)) w6 fun x12 w7 =>
 m R (o_indexAddr 22 x10 x12) w7 fun x13 w8 =>
 m R (o_load 57 x13) w8 fun x14 w9 =>
 m R (o_call (fv 51) [x14]) w9 fun x15 w10 =>
 m R (o_bin .add 9 true (.string (ByteArray.mk #[108, 101, 97, 102])) x15) w10 fun x16 w11 =>
 m R (o_call (fv 43) [x16]) w11 fun x17 w12 =>
 m R (o_store 32 x4 x17) w12 fun _ w13 =>
 rcell Tryz.prog 32 x4 w13 fun r4 =>
 R (.returned r4) w13) (
 m R (o_fieldAddr 25 x2 0) w4 fun x18 w14 =>
 m R (o_load 22 x18) w14 fun x19 w15 =>
 m R (o_builtin .len #[22] 3 [false] [x19]) w15 fun x20 w16 =>
 dp Tryz.prog (o_fieldAddr 25 x2 1) fun x21 =>
 dq Tryz.prog w16 (o_load 23 x21) fun x22 =>
 dp Tryz.prog (o_bin .quo 3 true x1 (.int .i64 2)) fun x24 =>
 dp Tryz.prog (o_indexAddr 23 x22 x24) fun x25 =>
 dq Tryz.prog w16 (o_load 61 x25) fun x26 =>
 df Tryz.prog w16 (o_call (fv 52) [x26]) true fun x27 w17 =>
 dp Tryz.prog (o_bin .add 9 true (.string (ByteArray.mk #[110, 111, 100, 101])) x27) fun x28 =>
 dq Tryz.prog w16 (o_load 25 x2) fun x29 =>
 df Tryz.prog w17 (o_call (fv 53) [x20, x1]) true fun x32 w18 =>
 df Tryz.prog w18 (o_call (fv 21) [x29, x32]) true fun x33 w19 =>
 df Tryz.prog w19 (o_call (fv 55) [x33]) true fun x34 w20 =>
 dp Tryz.prog (o_bin .add 9 false x28 x34) fun x35 =>
 dq Tryz.prog w16 (o_load 25 x2) fun x36 =>
 df Tryz.prog w20 (o_call (fv 54) [x20, x1]) true fun x39 w21 =>
 df Tryz.prog w21 (o_call (fv 21) [x36, x39]) false fun x40 w22 =>
 df Tryz.prog w22 (o_call (fv 55) [x40]) false fun x41 w23 =>
 dp Tryz.prog (o_bin .add 9 false x35 x41) fun x42 =>
 df Tryz.prog w23 (o_call (fv 43) [x42]) false fun x43 w24 =>
 df Tryz.prog w24 (o_store 32 x4 x43) false fun _ w25 =>
 dend w25 fun w26 =>
 rcell Tryz.prog 32 x4 w26 fun r4 =>
 R (.returned r4) w26)
def A_bevyref08_HashAt : Ann := ⟨[], [], [(4, [⟨0, .q none, 4, 0, 2097152⟩, ⟨1, .q (some 0), 2097152, 1, 4194304⟩, ⟨2, .q none, 2, 0, 8388608⟩, ⟨3, .q none, 8388608, 4, 16777216⟩, ⟨4, .q none, 20971520, 15, 33554432⟩, ⟨5, .q (some 0), 33554432, 31, 67108864⟩, ⟨6, .f 0 true, 67108864, 63, 134217728⟩, ⟨7, .q none, 134217728, 127, 268435456⟩, ⟨8, .q (some 0), 4, 0, 536870912⟩, ⟨9, .q none, 32, 0, 1073741824⟩, ⟨10, .q none, 2, 0, 2147483648⟩, ⟨11, .f 1 true, 3221225472, 1663, 4294967296⟩, ⟨12, .f 2 true, 4831838208, 3967, 8589934592⟩, ⟨13, .f 3 true, 8589934592, 8063, 17179869184⟩, ⟨14, .q none, 17448304640, 16383, 34359738368⟩, ⟨15, .q (some 0), 4, 0, 68719476736⟩, ⟨16, .q none, 32, 0, 137438953472⟩, ⟨17, .q none, 2, 0, 274877906944⟩, ⟨18, .f 4 true, 412316860416, 212863, 549755813888⟩, ⟨19, .f 5 false, 618475290624, 507775, 1099511627776⟩, ⟨20, .f 6 false, 1099511627776, 1032063, 2199023255552⟩, ⟨21, .q none, 2233382993920, 2097151, 4398046511104⟩, ⟨22, .f 7 false, 4398046511104, 4194303, 8796093022208⟩, ⟨23, .f 8 false, 8796093022224, 8388607, 0⟩])], [], []⟩
theorem E_bevyref08_HashAt (x0 x1 : Value) (w : World) (R : Ending → World → Prop) : cwp Tryz.prog A_bevyref08_HashAt (Tryz.f21.body.getD .skip) (retPost Tryz.prog Tryz.f21.results.toList R) (argE [x0, x1]) w = F_bevyref08_HashAt x0 x1 w R := by kernel_rfl
theorem C_bevyref08_HashAt {x0 x1 : Value} {w : World} {R : Ending → World → Prop} (h : F_bevyref08_HashAt x0 x1 w R) : Calls Tryz.prog 21 #[x0, x1] w R :=
 calls_cwp (A := A_bevyref08_HashAt) (args := [x0, x1]) mixed Tryz.func21 (c := Tryz.f21.body.getD .skip) (by kernel_rfl) (by kernel_rfl) (by kernel_rfl) ((E_bevyref08_HashAt x0 x1 w R).mpr h)
def F_tree_Add (x0 x1 : Value) (w : World) (R : Ending → World → Prop) : Prop :=
 m R (o_box 25 x0) w fun x2 w1 =>
 m R (o_box 57 x1) w1 fun x3 w2 =>
 m R (o_alloc 25) w2 fun x4 w3 =>
 mj1 (fun j2 =>
 m R (o_load 25 x2) w3 fun x14 w4 =>
 m R (o_call (fv 8) [x14]) w4 fun x15 w5 =>
 m R (o_un .not x15) w5 fun x16 w6 =>
 mguard x16 false (fun k => m R (o_fieldAddr 57 x3 0) w6 k) w6 fun x18 w7 =>
 mguard x16 false (fun k => m R (o_load 3 x18) w7 k) w7 fun x19 w8 =>
 mguard x16 false (fun k => m R (o_bin .lss 3 true x19 (.int .i64 1)) w8 k) w8 fun x20 w9 =>
 m R (o_pick x16 (.bool true) x20) w9 fun x21 w10 =>
 mguard x21 false (fun k => m R (o_fieldAddr 57 x3 0) w10 k) w10 fun x23 w11 =>
 mguard x21 false (fun k => m R (o_load 3 x23) w11 k) w11 fun x24 w12 =>
 mguard x21 false (fun k => m R (o_bin .gtr 3 true x24 (.int .i64 64)) w12 k) w12 fun x25 w13 =>
 m R (o_pick x21 (.bool true) x25) w13 fun x26 w14 =>
 j2 x26 w14) fun x13 u2 w15 =>
 mif x13 (
 m R (o_build 25 []) w15 fun x27 w16 =>
 m R (o_store 25 x4 x27) w16 fun _ w17 =>
 rcell Tryz.prog 25 x4 w17 fun r4 =>
 R (.returned (.tuple #[r4, (.int .i64 0), (.int .i64 1)])) w17) (
 m R (o_load 25 x2) w15 fun x29 w18 =>
 m R (o_fieldAddr 57 x3 0) w18 fun x30 w19 =>
 m R (o_load 3 x30) w19 fun x31 w20 =>
 m R (o_call (fv 9) [x29, x31]) w20 fun x32 w21 =>
 m R (o_bin .geq 3 true x32 (.int .i64 0)) w21 fun x33 w22 =>
 mif x33 (
 m R (o_build 25 []) w22 fun x34 w23 =>
 m R (o_store 25 x4 x34) w23 fun _ w24 =>
 rcell Tryz.prog 25 x4 w24 fun r4 =>
 R (.returned (.tuple #[r4, (.int .i64 0), (.int .i64 8)])) w24) (
 m R (o_load 25 x2) w22 fun x35 w25 =>
 m R (o_call (fv 72) [x35]) w25 fun x36 w26 =>
 m R (o_store 25 x2 x36) w26 fun _ w27 =>
 m R (o_fieldAddr 25 x2 0) w27 fun x37 w28 =>
 m R (o_load 22 x37) w28 fun x38 w29 =>
 m R (o_build 57 []) w29 fun x39 w30 =>
 m R (o_call (fv 73) [x38, x39]) w30 fun x40 w31 =>
 mj1 (fun j14 =>
 m R (o_bin .lss 3 true x40 (.int .i64 0)) w31 fun x42 w32 =>
 mif x42 (
 m R (o_fieldAddr 25 x2 0) w32 fun x43 w33 =>
 m R (o_load 22 x43) w33 fun x44 w34 =>
 m R (o_builtin .len #[22] 3 [false] [x44]) w34 fun x45 w35 =>
 m R (o_bin .eql 3 true x45 (.int .i64 64)) w35 fun x47 w36 =>
 mif x47 (
 m R (o_build 25 []) w36 fun x48 w37 =>
 m R (o_store 25 x4 x48) w37 fun _ w38 =>
 rcell Tryz.prog 25 x4 w38 fun r4 =>
 R (.returned (.tuple #[r4, (.int .i64 0), (.int .i64 9)])) w38) (
 mj0 (fun j13 =>
 m R (o_bin .gtr 3 true x45 (.int .i64 0)) w36 fun x50 w39 =>
 mif x50 (
 m R (o_fieldAddr 25 x2 1) w39 fun x51 w40 =>
 m R (o_load 23 x51) w40 fun x52 w41 =>
 m R (o_build 61 []) w41 fun x53 w42 =>
 m R (o_buildSlice 23 1 [(0, x53)]) w42 fun x54 w43 =>
 m R (o_builtin .append #[23, 23] 23 [false, false] [x52, x54]) w43 fun x55 w44 =>
 m R (o_fieldAddr 25 x2 1) w44 fun x56 w45 =>
 m R (o_store 23 x56 x55) w45 fun _ w46 =>
 j13 w46) (
 j13 w39)) fun u13 w47 =>
 m R (o_fieldAddr 25 x2 0) w47 fun x57 w48 =>
 m R (o_load 22 x57) w48 fun x58 w49 =>
 m R (o_build 57 []) w49 fun x59 w50 =>
 m R (o_buildSlice 22 1 [(0, x59)]) w50 fun x60 w51 =>
 m R (o_builtin .append #[22, 22] 22 [false, false] [x58, x60]) w51 fun x61 w52 =>
 m R (o_fieldAddr 25 x2 0) w52 fun x62 w53 =>
 m R (o_store 22 x62 x61) w53 fun _ w54 =>
 j14 x45 w54)) (
 j14 x40 w32)) fun x7 u14 w55 =>
 m R (o_fieldAddr 25 x2 0) w55 fun x63 w56 =>
 m R (o_load 22 x63) w56 fun x64 w57 =>
 m R (o_load 57 x3) w57 fun x66 w58 =>
 m R (o_indexAddr 22 x64 x7) w58 fun x67 w59 =>
 m R (o_store 57 x67 x66) w59 fun _ w60 =>
 m R (o_fieldAddr 25 x2 0) w60 fun x68 w61 =>
 m R (o_load 22 x68) w61 fun x69 w62 =>
 m R (o_builtin .len #[22] 3 [false] [x69]) w62 fun x70 w63 =>
 m R (o_call (fv 74) [x70, x7]) w63 fun x72 w64 =>
 m R (o_builtin .len #[29] 3 [false] [x72]) w64 fun x73 w65 =>
 ml1 (.int .i64 0) w65 fun x74 u16 w66 next16 =>
 m R (o_bin .lss 3 false x74 x73) w66 fun x75 w67 =>
 mif x75 (
 mj0 (fun j22 =>
 m R (o_indexAddr 29 x72 x74) w67 fun x76 w68 =>
 m R (o_load 3 x76) w68 fun x77 w69 =>
 m R (o_fieldAddr 25 x2 1) w69 fun x78 w70 =>
 m R (o_load 23 x78) w70 fun x79 w71 =>
 m R (o_bin .quo 3 true x77 (.int .i64 2)) w71 fun x81 w72 =>
 m R (o_indexAddr 23 x79 x81) w72 fun x82 w73 =>
 m R (o_nilCheck x82) w73 fun x84 w74 =>
 m R (o_fieldAddr 61 x84 0) w74 fun x85 w75 =>
 m R (o_load 4 x85) w75 fun x86 w76 =>
 mif x86 (
 m R (o_nilCheck x82) w76 fun x89 w77 =>
 m R (o_fieldAddr 61 x89 3) w77 fun x90 w78 =>
 m R (o_load 29 x90) w78 fun x91 w79 =>
 m R (o_call (fv 75) [x91, x7]) w79 fun x93 w80 =>
 m R (o_extract x93 0) w80 fun x94 w81 =>
 m R (o_extract x93 1) w81 fun x95 w82 =>
 m R (o_nilCheck x82) w82 fun x98 w83 =>
 m R (o_fieldAddr 61 x98 3) w83 fun x99 w84 =>
 m R (o_load 29 x99) w84 fun x100 w85 =>
 m R (o_buildSlice 29 1 [(0, x7)]) w85 fun x103 w86 =>
 m R (o_call (fv 76) [x100, x94, x103]) w86 fun x104 w87 =>
 m R (o_nilCheck x82) w87 fun x105 w88 =>
 m R (o_fieldAddr 61 x105 3) w88 fun x106 w89 =>
 m R (o_store 29 x106 x104) w89 fun _ w90 =>
 j22 w90) (
 j22 w76)) fun u22 w91 =>
 m R (o_bin .add 3 true x74 (.int .i64 1)) w91 fun x107 w92 =>
 next16 x107 w92) (
 m R (o_load 25 x2) w67 fun x108 w93 =>
 m R (o_store 25 x4 x108) w93 fun _ w94 =>
 rcell Tryz.prog 25 x4 w94 fun r4 =>
 R (.returned (.tuple #[r4, x7, (.int .i64 0)])) w94)))
def A_tree_Add : Ann := ⟨[(16, [74], 324518553639537260851677439729152)], [(2, [13], 134209536), (14, [7], 9223369837831520480), (13, [], 143552238122434560), (22, [], 162259276753655499665663686876672)], [], [], []⟩
theorem E_tree_Add (x0 x1 : Value) (w : World) (R : Ending → World → Prop) : cwp Tryz.prog A_tree_Add (Tryz.f28.body.getD .skip) (retPost Tryz.prog Tryz.f28.results.toList R) (argE [x0, x1]) w = F_tree_Add x0 x1 w R := by kernel_rfl
theorem C_tree_Add {x0 x1 : Value} {w : World} {R : Ending → World → Prop} (h : F_tree_Add x0 x1 w R) : Calls Tryz.prog 28 #[x0, x1] w R :=
 calls_cwp (A := A_tree_Add) (args := [x0, x1]) mixed Tryz.func28 (c := Tryz.f28.body.getD .skip) (by kernel_rfl) (by kernel_rfl) (by kernel_rfl) ((E_tree_Add x0 x1 w R).mpr h)
def F_tree_Remove (x0 x1 : Value) (w : World) (R : Ending → World → Prop) : Prop :=
 m R (o_box 25 x0) w fun x2 w1 =>
 m R (o_alloc 25) w1 fun x4 w2 =>
 m R (o_load 25 x2) w2 fun x8 w3 =>
 m R (o_call (fv 8) [x8]) w3 fun x9 w4 =>
 m R (o_un .not x9) w4 fun x10 w5 =>
 mif x10 (
 m R (o_build 25 []) w5 fun x11 w6 =>
 m R (o_store 25 x4 x11) w6 fun _ w7 =>
 rcell Tryz.prog 25 x4 w7 fun r4 =>
 R (.returned (.tuple #[r4, (.int .i64 1)])) w7) (
 m R (o_load 25 x2) w5 fun x13 w8 =>
 m R (o_call (fv 77) [x13, x1]) w8 fun x15 w9 =>
 mif x15 (
 m R (o_build 25 []) w9 fun x16 w10 =>
 m R (o_store 25 x4 x16) w10 fun _ w11 =>
 rcell Tryz.prog 25 x4 w11 fun r4 =>
 R (.returned (.tuple #[r4, (.int .i64 7)])) w11) (
 m R (o_load 25 x2) w9 fun x17 w12 =>
 m R (o_call (fv 72) [x17]) w12 fun x18 w13 =>
 m R (o_store 25 x2 x18) w13 fun _ w14 =>
 m R (o_fieldAddr 25 x2 0) w14 fun x19 w15 =>
 m R (o_load 22 x19) w15 fun x20 w16 =>
 m R (o_build 57 []) w16 fun x22 w17 =>
 m R (o_indexAddr 22 x20 x1) w17 fun x23 w18 =>
 m R (o_store 57 x23 x22) w18 fun _ w19 =>
 m R (o_load 25 x2) w19 fun x24 w20 =>
 m R (o_call (fv 78) [x24, x1]) w20 fun x26 w21 =>
 m R (o_fieldAddr 25 x2 0) w21 fun x27 w22 =>
 m R (o_load 22 x27) w22 fun x28 w23 =>
 m R (o_builtin .len #[22] 3 [false] [x28]) w23 fun x29 w24 =>
 ml1 x29 w24 fun x6 u9 w25 next9 =>
 mj0 (fun j10 =>
 m R (o_bin .gtr 3 true x6 (.int .i64 0)) w25 fun x31 w26 =>
 mguard x31 true (fun k => m R (o_fieldAddr 25 x2 0) w26 k) w26 fun x33 w27 =>
 mguard x31 true (fun k => m R (o_load 22 x33) w27 k) w27 fun x34 w28 =>
 mguard x31 true (fun k => m R (o_move x6) w28 k) w28 fun x35 w29 =>
 mguard x31 true (fun k => m R (o_bin .sub 3 true x35 (.int .i64 1)) w29 k) w29 fun x36 w30 =>
 mguard x31 true (fun k => m R (o_indexAddr 22 x34 x36) w30 k) w30 fun x37 w31 =>
 mguard x31 true (fun k => m R (o_fieldAddr 57 x37 0) w31 k) w31 fun x38 w32 =>
 mguard x31 true (fun k => m R (o_load 3 x38) w32 k) w32 fun x39 w33 =>
 mguard x31 true (fun k => m R (o_bin .eql 3 true x39 (.int .i64 0)) w33 k) w33 fun x40 w34 =>
 m R (o_pick x31 x40 (.bool false)) w34 fun x41 w35 =>
 mif x41 (
 j10 w35) (
 dp Tryz.prog (o_fieldAddr 25 x2 0) fun x44 =>
 dq Tryz.prog w35 (o_load 22 x44) fun x45 =>
 dp Tryz.prog (o_slice 22 x45 none (some x6) none) fun x47 =>
 dp Tryz.prog (o_fieldAddr 25 x2 1) fun x48 =>
 dq Tryz.prog w35 (o_load 23 x48) fun x49 =>
 dp Tryz.prog (o_bin .sub 3 true x6 (.int .i64 1)) fun x51 =>
 dp Tryz.prog (o_builtin .max #[3, 3] 3 [false, true] [x51, (.int .i64 0)]) fun x52 =>
 dp Tryz.prog (o_slice 23 x49 none (some x52) none) fun x53 =>
 dp Tryz.prog (o_fieldAddr 25 x2 0) fun x54 =>
 df Tryz.prog w35 (o_store 22 x54 x47) false fun _ w36 =>
 dp Tryz.prog (o_fieldAddr 25 x2 1) fun x55 =>
 df Tryz.prog w36 (o_store 23 x55 x53) false fun _ w37 =>
 dend w37 fun w38 =>
 m R (o_load 25 x2) w38 fun x56 w39 =>
 m R (o_store 25 x4 x56) w39 fun _ w40 =>
 rcell Tryz.prog 25 x4 w40 fun r4 =>
 R (.returned (.tuple #[r4, (.int .i64 0)])) w40)) fun u10 w41 =>
 m R (o_bin .sub 3 true x6 (.int .i64 1)) w41 fun x43 w42 =>
 next9 x43 w42))
def A_tree_Remove : Ann := ⟨[(9, [6], 17591112302656)], [(10, [], 4396972769280)], [(11, [⟨0, .q none, 4, 0, 17592186044416⟩, ⟨1, .q (some 0), 17592186044416, 1, 35184372088832⟩, ⟨2, .q none, 64, 0, 70368744177664⟩, ⟨3, .q none, 105553116266496, 7, 140737488355328⟩, ⟨4, .q none, 4, 0, 281474976710656⟩, ⟨5, .q (some 0), 281474976710656, 16, 562949953421312⟩, ⟨6, .q none, 64, 0, 1125899906842624⟩, ⟨7, .q none, 1125899906842624, 64, 2251799813685248⟩, ⟨8, .q none, 2251799813685248, 192, 4503599627370496⟩, ⟨9, .q none, 5066549580791808, 496, 9007199254740992⟩, ⟨10, .q none, 4, 63, 18014398509481984⟩, ⟨11, .f 0 false, 18155135997837312, 1087, 0⟩, ⟨12, .q none, 4, 4095, 36028797018963968⟩, ⟨13, .f 1 false, 45035996273704960, 8191, 0⟩])], [], []⟩
theorem E_tree_Remove (x0 x1 : Value) (w : World) (R : Ending → World → Prop) : cwp Tryz.prog A_tree_Remove (Tryz.f29.body.getD .skip) (retPost Tryz.prog Tryz.f29.results.toList R) (argE [x0, x1]) w = F_tree_Remove x0 x1 w R := by kernel_rfl
theorem C_tree_Remove {x0 x1 : Value} {w : World} {R : Ending → World → Prop} (h : F_tree_Remove x0 x1 w R) : Calls Tryz.prog 29 #[x0, x1] w R :=
 calls_cwp (A := A_tree_Remove) (args := [x0, x1]) mixed Tryz.func29 (c := Tryz.f29.body.getD .skip) (by kernel_rfl) (by kernel_rfl) (by kernel_rfl) ((E_tree_Remove x0 x1 w R).mpr h)
def F_bevyref07_Holds (x0 x1 x2 : Value) (w : World) (R : Ending → World → Prop) : Prop :=
 m R (o_call (fv 79) [x0, x1]) w fun x12 w1 =>
 m R (o_extract x12 0) w1 fun x13 w2 =>
 m R (o_extract x12 1) w2 fun x14 w3 =>
 m R (o_bin .geq 3 false x2 x13) w3 fun x17 w4 =>
 mguard x17 true (fun k => m R (o_move x2) w4 k) w4 fun x19 w5 =>
 mguard x17 true (fun k => m R (o_move x14) w5 k) w5 fun x20 w6 =>
 mguard x17 true (fun k => m R (o_bin .lss 3 false x19 x20) w6 k) w6 fun x21 w7 =>
 m R (o_pick x17 x21 (.bool false)) w7 fun x22 w8 =>
 R (.returned x22) w8
def A_bevyref07_Holds : Ann := ⟨[], [], [], [], []⟩
theorem E_bevyref07_Holds (x0 x1 x2 : Value) (w : World) (R : Ending → World → Prop) : cwp Tryz.prog A_bevyref07_Holds (Tryz.f30.body.getD .skip) (retPost Tryz.prog Tryz.f30.results.toList R) (argE [x0, x1, x2]) w = F_bevyref07_Holds x0 x1 x2 w R := by kernel_rfl
theorem C_bevyref07_Holds {x0 x1 x2 : Value} {w : World} {R : Ending → World → Prop} (h : F_bevyref07_Holds x0 x1 x2 w R) : Calls Tryz.prog 30 #[x0, x1, x2] w R :=
 calls_cwp (A := A_bevyref07_Holds) (args := [x0, x1, x2]) mixed Tryz.func30 (c := Tryz.f30.body.getD .skip) (by kernel_rfl) (by kernel_rfl) (by kernel_rfl) ((E_bevyref07_Holds x0 x1 x2 w R).mpr h)
def F_tree_zero (x0 : Value) (w : World) (R : Ending → World → Prop) : Prop :=
 m R (o_box 61 x0) w fun x1 w1 =>
 m R (o_fieldAddr 61 x1 0) w1 fun x3 w2 =>
 m R (o_load 4 x3) w2 fun x4 w3 =>
 m R (o_un .not x4) w3 fun x5 w4 =>
 mguard x5 true (fun k => m R (o_fieldAddr 61 x1 1) w4 k) w4 fun x7 w5 =>
 mguard x5 true (fun k => m R (o_load 33 x7) w5 k) w5 fun x8 w6 =>
 mguard x5 true (fun k => m R (o_build 33 []) w6 k) w6 fun x9 w7 =>
 mguard x5 true (fun k => m R (o_bin .eql 33 false x8 x9) w7 k) w7 fun x10 w8 =>
 m R (o_pick x5 x10 (.bool false)) w8 fun x11 w9 =>
 mguard x11 true (fun k => m R (o_fieldAddr 61 x1 2) w9 k) w9 fun x13 w10 =>
 mguard x11 true (fun k => m R (o_load 33 x13) w10 k) w10 fun x14 w11 =>
 mguard x11 true (fun k => m R (o_build 33 []) w11 k) w11 fun x15 w12 =>
 mguard x11 true (fun k => m R (o_bin .eql 33 false x14 x15) w12 k) w12 fun x16 w13 =>
 m R (o_pick x11 x16 (.bool false)) w13 fun x17 w14 =>
 mguard x17 true (fun k => m R (o_fieldAddr 61 x1 3) w14 k) w14 fun x19 w15 =>
 mguard x17 true (fun k => m R (o_load 29 x19) w15 k) w15 fun x20 w16 =>
 mguard x17 true (fun k => m R (o_builtin .len #[29] 3 [false] [x20]) w16 k) w16 fun x21 w17 =>
 mguard x17 true (fun k => m R (o_bin .eql 3 true x21 (.int .i64 0)) w17 k) w17 fun x22 w18 =>
 m R (o_pick x17 x22 (.bool false)) w18 fun x23 w19 =>
 R (.returned x23) w19
def A_tree_zero : Ann := ⟨[], [], [], [], []⟩
theorem E_tree_zero (x0 : Value) (w : World) (R : Ending → World → Prop) : cwp Tryz.prog A_tree_zero (Tryz.f31.body.getD .skip) (retPost Tryz.prog Tryz.f31.results.toList R) (argE [x0]) w = F_tree_zero x0 w R := by kernel_rfl
theorem C_tree_zero {x0 : Value} {w : World} {R : Ending → World → Prop} (h : F_tree_zero x0 w R) : Calls Tryz.prog 31 #[x0] w R :=
 calls_cwp (A := A_tree_zero) (args := [x0]) mixed Tryz.func31 (c := Tryz.f31.body.getD .skip) (by kernel_rfl) (by kernel_rfl) (by kernel_rfl) ((E_tree_zero x0 w R).mpr h)
def F_bough_Holds (x0 x1 x2 : Value) (w : World) (R : Ending → World → Prop) : Prop :=
 m R (o_call (fv 80) [x0, x1]) w fun x12 w1 =>
 m R (o_extract x12 0) w1 fun x13 w2 =>
 m R (o_extract x12 1) w2 fun x14 w3 =>
 m R (o_bin .geq 3 false x2 x13) w3 fun x17 w4 =>
 mguard x17 true (fun k => m R (o_move x2) w4 k) w4 fun x19 w5 =>
 mguard x17 true (fun k => m R (o_move x14) w5 k) w5 fun x20 w6 =>
 mguard x17 true (fun k => m R (o_bin .lss 3 false x19 x20) w6 k) w6 fun x21 w7 =>
 m R (o_pick x17 x21 (.bool false)) w7 fun x22 w8 =>
 R (.returned x22) w8
def A_bough_Holds : Ann := ⟨[], [], [], [], []⟩
theorem E_bough_Holds (x0 x1 x2 : Value) (w : World) (R : Ending → World → Prop) : cwp Tryz.prog A_bough_Holds (Tryz.f32.body.getD .skip) (retPost Tryz.prog Tryz.f32.results.toList R) (argE [x0, x1, x2]) w = F_bough_Holds x0 x1 x2 w R := by kernel_rfl
theorem C_bough_Holds {x0 x1 x2 : Value} {w : World} {R : Ending → World → Prop} (h : F_bough_Holds x0 x1 x2 w R) : Calls Tryz.prog 32 #[x0, x1, x2] w R :=
 calls_cwp (A := A_bough_Holds) (args := [x0, x1, x2]) mixed Tryz.func32 (c := Tryz.f32.body.getD .skip) (by kernel_rfl) (by kernel_rfl) (by kernel_rfl) ((E_bough_Holds x0 x1 x2 w R).mpr h)
def F_slices_IndexFunc_api_Leaf_api_Leaf (x0 x1 : Value) (w : World) (R : Ending → World → Prop) : Prop :=
 m R (o_builtin .len #[22] 3 [false] [x0]) w fun x7 w1 =>
 ml1 (.int .i64 0) w1 fun x8 u2 w2 next2 =>
 m R (o_bin .lss 3 false x8 x7) w2 fun x9 w3 =>
 mif x9 (
 m R (o_indexAddr 22 x0 x8) w3 fun x14 w4 =>
 m R (o_load 57 x14) w4 fun x15 w5 =>
 m R (o_call x1 [x15]) w5 fun x16 w6 =>
 mif x16 (
 R (.returned x8) w6) (
 m R (o_bin .add 3 true x8 (.int .i64 1)) w6 fun x18 w7 =>
 next2 x18 w7)) (
 R (.returned (.int .i64 (-1))) w3)
def A_slices_IndexFunc_api_Leaf_api_Leaf : Ann := ⟨[(2, [8], 524080)], [], [], [], []⟩
theorem E_slices_IndexFunc_api_Leaf_api_Leaf (x0 x1 : Value) (w : World) (R : Ending → World → Prop) : cwp Tryz.prog A_slices_IndexFunc_api_Leaf_api_Leaf (Tryz.f33.body.getD .skip) (retPost Tryz.prog Tryz.f33.results.toList R) (argE [x0, x1]) w = F_slices_IndexFunc_api_Leaf_api_Leaf x0 x1 w R := by kernel_rfl
theorem C_slices_IndexFunc_api_Leaf_api_Leaf {x0 x1 : Value} {w : World} {R : Ending → World → Prop} (h : F_slices_IndexFunc_api_Leaf_api_Leaf x0 x1 w R) : Calls Tryz.prog 33 #[x0, x1] w R :=
 calls_cwp (A := A_slices_IndexFunc_api_Leaf_api_Leaf) (args := [x0, x1]) mixed Tryz.func33 (c := Tryz.f33.body.getD .skip) (by kernel_rfl) (by kernel_rfl) (by kernel_rfl) ((E_slices_IndexFunc_api_Leaf_api_Leaf x0 x1 w R).mpr h)
def F_tree_sound (x0 : Value) (w : World) (R : Ending → World → Prop) : Prop :=
 m R (o_box 25 x0) w fun x1 w1 =>
 m R (o_alloc 25) w1 fun x2 w2 =>
 m R (o_load 25 x1) w2 fun x3 w3 =>
 m R (o_call (fv 8) [x3]) w3 fun x4 w4 =>
 mif x4 (
 m R (o_load 25 x1) w4 fun x5 w5 =>
 m R (o_store 25 x2 x5) w5 fun _ w6 =>
 rcell Tryz.prog 25 x2 w6 fun r2 =>
 R (.returned r2) w6) (
 m R (o_build 25 []) w4 fun x6 w7 =>
 m R (o_store 25 x2 x6) w7 fun _ w8 =>
 rcell Tryz.prog 25 x2 w8 fun r2 =>
 R (.returned r2) w8)
def A_tree_sound : Ann := ⟨[], [], [], [], []⟩
theorem E_tree_sound (x0 : Value) (w : World) (R : Ending → World → Prop) : cwp Tryz.prog A_tree_sound (Tryz.f34.body.getD .skip) (retPost Tryz.prog Tryz.f34.results.toList R) (argE [x0]) w = F_tree_sound x0 w R := by kernel_rfl
theorem C_tree_sound {x0 : Value} {w : World} {R : Ending → World → Prop} (h : F_tree_sound x0 w R) : Calls Tryz.prog 34 #[x0] w R :=
 calls_cwp (A := A_tree_sound) (args := [x0]) mixed Tryz.func34 (c := Tryz.f34.body.getD .skip) (by kernel_rfl) (by kernel_rfl) (by kernel_rfl) ((E_tree_sound x0 w R).mpr h)
def F_tree_Place_1 (x0 x1 : Value) (w : World) (R : Ending → World → Prop) : Prop :=
 m R (o_box 57 x0) w fun x2 w1 =>
 m R (o_fieldAddr 57 x2 0) w1 fun x4 w2 =>
 m R (o_load 3 x4) w2 fun x5 w3 =>
 m R (o_load 3 x1) w3 fun x6 w4 =>
 m R (o_bin .eql 3 false x5 x6) w4 fun x7 w5 =>
 R (.returned x7) w5
def A_tree_Place_1 : Ann := ⟨[], [], [], [], []⟩
theorem E_tree_Place_1 (x0 x1 : Value) (w : World) (R : Ending → World → Prop) : cwp Tryz.prog A_tree_Place_1 (Tryz.f35.body.getD .skip) (retPost Tryz.prog Tryz.f35.results.toList R) (argE [x0, x1]) w = F_tree_Place_1 x0 x1 w R := by kernel_rfl
theorem C_tree_Place_1 {x0 x1 : Value} {w : World} {R : Ending → World → Prop} (h : F_tree_Place_1 x0 x1 w R) : Calls Tryz.prog 35 #[x0, x1] w R :=
 calls_cwp (A := A_tree_Place_1) (args := [x0, x1]) mixed Tryz.func35 (c := Tryz.f35.body.getD .skip) (by kernel_rfl) (by kernel_rfl) (by kernel_rfl) ((E_tree_Place_1 x0 x1 w R).mpr h)
def F_tree_Resolve_1 (x0 x1 x2 x3 x4 : Value) (w : World) (R : Ending → World → Prop) : Prop :=
 m R (o_bin .rem 3 true x0 (.int .i64 2)) w fun x20 w1 =>
 m R (o_bin .eql 3 true x20 (.int .i64 0)) w1 fun x21 w2 =>
 mif x21 (
 m R (o_fieldAddr 25 x1 0) w2 fun x22 w3 =>
 m R (o_load 22 x22) w3 fun x23 w4 =>
 m R (o_bin .quo 3 true x0 (.int .i64 2)) w4 fun x25 w5 =>
 m R (o_indexAddr 22 x23 x25) w5 fun x26 w6 =>
 m R (o_fieldAddr 57 x26 0) w6 fun x27 w7 =>
 m R (o_load 3 x27) w7 fun x28 w8 =>
 m R (o_bin .gtr 3 true x28 (.int .i64 0)) w8 fun x29 w9 =>
 mif x29 (
 m R (o_load 29 x2) w9 fun x30 w10 =>
 m R (o_buildSlice 29 1 [(0, x0)]) w10 fun x32 w11 =>
 m R (o_builtin .append #[29, 29] 29 [false, false] [x30, x32]) w11 fun x33 w12 =>
 m R (o_store 29 x2 x33) w12 fun _ w13 =>
 R (.returned (.tuple #[])) w13) (
 R (.returned (.tuple #[])) w9)) (
 m R (o_fieldAddr 25 x1 1) w2 fun x35 w14 =>
 m R (o_load 23 x35) w14 fun x36 w15 =>
 m R (o_bin .quo 3 true x0 (.int .i64 2)) w15 fun x38 w16 =>
 m R (o_indexAddr 23 x36 x38) w16 fun x39 w17 =>
 m R (o_fieldAddr 61 x39 0) w17 fun x40 w18 =>
 m R (o_load 4 x40) w18 fun x41 w19 =>
 mif x41 (
 m R (o_load 29 x2) w19 fun x42 w20 =>
 m R (o_buildSlice 29 1 [(0, x0)]) w20 fun x44 w21 =>
 m R (o_builtin .append #[29, 29] 29 [false, false] [x42, x44]) w21 fun x45 w22 =>
 m R (o_store 29 x2 x45) w22 fun _ w23 =>
 m R (o_fieldAddr 25 x1 1) w23 fun x46 w24 =>
 m R (o_load 23 x46) w24 fun x47 w25 =>
 m R (o_bin .quo 3 true x0 (.int .i64 2)) w25 fun x49 w26 =>
 m R (o_indexAddr 23 x47 x49) w26 fun x50 w27 =>
 m R (o_fieldAddr 61 x50 3) w27 fun x51 w28 =>
 m R (o_load 29 x51) w28 fun x52 w29 =>
 m R (o_builtin .len #[29] 3 [false] [x52]) w29 fun x53 w30 =>
 ml1 (.int .i64 0) w30 fun x54 u8 w31 next8 =>
 m R (o_bin .lss 3 false x54 x53) w31 fun x55 w32 =>
 mif x55 (
 m R (o_indexAddr 29 x52 x54) w32 fun x56 w33 =>
 m R (o_load 3 x56) w33 fun x57 w34 =>
 m R (o_load 29 x2) w34 fun x58 w35 =>
 m R (o_bin .mul 3 true (.int .i64 2) x57) w35 fun x60 w36 =>
 m R (o_buildSlice 29 1 [(0, x60)]) w36 fun x61 w37 =>
 m R (o_builtin .append #[29, 29] 29 [false, false] [x58, x61]) w37 fun x62 w38 =>
 m R (o_store 29 x2 x62) w38 fun _ w39 =>
 m R (o_bin .add 3 true x54 (.int .i64 1)) w39 fun x63 w40 =>
 next8 x63 w40) (
 R (.returned (.tuple #[])) w32)) (
 dq Tryz.prog w19 (o_load 69 x3) fun x8 =>
 dq Tryz.prog w19 (o_load 3 x4) fun x9 =>
 df Tryz.prog w19 (o_call (fv 38) [x9, x0]) true fun x11 w41 =>
 df Tryz.prog w41 (o_call x8 [x11]) false fun x12 w42 =>
 dend w42 fun w43 =>
 dq Tryz.prog w43 (o_load 69 x3) fun x13 =>
 dq Tryz.prog w43 (o_load 3 x4) fun x14 =>
 df Tryz.prog w43 (o_call (fv 39) [x14, x0]) true fun x16 w44 =>
 df Tryz.prog w44 (o_call x13 [x16]) false fun x17 w45 =>
 dend w45 fun w46 =>
 R (.returned (.tuple #[])) w46))
def A_tree_Resolve_1 : Ann := ⟨[(8, [54], 18428729675200069760)], [], [(0, [⟨0, .q (some 0), 8, 0, 256⟩, ⟨1, .q (some 0), 16, 0, 512⟩, ⟨2, .q none, 1, 0, 1024⟩, ⟨3, .f 0 true, 1536, 6, 2048⟩, ⟨4, .f 1 false, 2304, 15, 4096⟩]), (1, [⟨0, .q (some 0), 8, 0, 8192⟩, ⟨1, .q (some 0), 16, 0, 16384⟩, ⟨2, .q none, 1, 0, 32768⟩, ⟨3, .f 0 true, 49152, 6, 65536⟩, ⟨4, .f 1 false, 73728, 15, 131072⟩])], [], []⟩
theorem E_tree_Resolve_1 (x0 x1 x2 x3 x4 : Value) (w : World) (R : Ending → World → Prop) : cwp Tryz.prog A_tree_Resolve_1 (Tryz.f37.body.getD .skip) (retPost Tryz.prog Tryz.f37.results.toList R) (argE [x0, x1, x2, x3, x4]) w = F_tree_Resolve_1 x0 x1 x2 x3 x4 w R := by kernel_rfl
theorem C_tree_Resolve_1 {x0 x1 x2 x3 x4 : Value} {w : World} {R : Ending → World → Prop} (h : F_tree_Resolve_1 x0 x1 x2 x3 x4 w R) : Calls Tryz.prog 37 #[x0, x1, x2, x3, x4] w R :=
 calls_cwp (A := A_tree_Resolve_1) (args := [x0, x1, x2, x3, x4]) mixed Tryz.func37 (c := Tryz.f37.body.getD .skip) (by kernel_rfl) (by kernel_rfl) (by kernel_rfl) ((E_tree_Resolve_1 x0 x1 x2 x3 x4 w R).mpr h)
def F_bough_Left (x0 x1 : Value) (w : World) (R : Ending → World → Prop) : Prop :=
 mj1 (fun j4 =>
 m R (o_call (fv 83) [x0, x1]) w fun x8 w1 =>
 mif x8 (
 m R (o_call (fv 84) [x1]) w1 fun x10 w2 =>
 j4 x10 w2) (
 j4 (.int .i64 0) w1)) fun x5 u4 w3 =>
 m R (o_bin .eql 3 true x5 (.int .i64 0)) w3 fun x12 w4 =>
 mif x12 (
 R (.returned (.int .i64 (-1))) w4) (
 m R (o_bin .sub 3 true x5 (.int .i64 1)) w4 fun x15 w5 =>
 m R (o_bin .shl 3 true (.int .i64 1) x15) w5 fun x16 w6 =>
 m R (o_bin .sub 3 false x1 x16) w6 fun x17 w7 =>
 R (.returned x17) w7)
def A_bough_Left : Ann := ⟨[], [(4, [5], 2016)], [], [], []⟩
theorem E_bough_Left (x0 x1 : Value) (w : World) (R : Ending → World → Prop) : cwp Tryz.prog A_bough_Left (Tryz.f38.body.getD .skip) (retPost Tryz.prog Tryz.f38.results.toList R) (argE [x0, x1]) w = F_bough_Left x0 x1 w R := by kernel_rfl
theorem C_bough_Left {x0 x1 : Value} {w : World} {R : Ending → World → Prop} (h : F_bough_Left x0 x1 w R) : Calls Tryz.prog 38 #[x0, x1] w R :=
 calls_cwp (A := A_bough_Left) (args := [x0, x1]) mixed Tryz.func38 (c := Tryz.f38.body.getD .skip) (by kernel_rfl) (by kernel_rfl) (by kernel_rfl) ((E_bough_Left x0 x1 w R).mpr h)
def F_bough_Right (x0 x1 : Value) (w : World) (R : Ending → World → Prop) : Prop :=
 mj1 (fun j4 =>
 m R (o_call (fv 83) [x0, x1]) w fun x8 w1 =>
 mif x8 (
 m R (o_call (fv 84) [x1]) w1 fun x10 w2 =>
 j4 x10 w2) (
 j4 (.int .i64 0) w1)) fun x5 u4 w3 =>
 m R (o_bin .eql 3 true x5 (.int .i64 0)) w3 fun x12 w4 =>
 mif x12 (
 R (.returned (.int .i64 (-1))) w4) (
 m R (o_bin .sub 3 true x5 (.int .i64 1)) w4 fun x15 w5 =>
 m R (o_bin .shl 3 true (.int .i64 1) x15) w5 fun x16 w6 =>
 m R (o_bin .add 3 false x1 x16) w6 fun x17 w7 =>
 ml1 x17 w7 fun x1 u7 w8 next7 =>
 m R (o_call (fv 83) [x0, x1]) w8 fun x20 w9 =>
 m R (o_un .not x20) w9 fun x21 w10 =>
 mif x21 (
 m R (o_call (fv 84) [x1]) w10 fun x24 w11 =>
 m R (o_bin .sub 3 true x24 (.int .i64 1)) w11 fun x25 w12 =>
 m R (o_bin .shl 3 true (.int .i64 1) x25) w12 fun x26 w13 =>
 m R (o_bin .sub 3 false x1 x26) w13 fun x27 w14 =>
 next7 x27 w14) (
 R (.returned x1) w10))
def A_bough_Right : Ann := ⟨[(7, [1], 268173314)], [(4, [5], 2016)], [], [], []⟩
theorem E_bough_Right (x0 x1 : Value) (w : World) (R : Ending → World → Prop) : cwp Tryz.prog A_bough_Right (Tryz.f39.body.getD .skip) (retPost Tryz.prog Tryz.f39.results.toList R) (argE [x0, x1]) w = F_bough_Right x0 x1 w R := by kernel_rfl
theorem C_bough_Right {x0 x1 : Value} {w : World} {R : Ending → World → Prop} (h : F_bough_Right x0 x1 w R) : Calls Tryz.prog 39 #[x0, x1] w R :=
 calls_cwp (A := A_bough_Right) (args := [x0, x1]) mixed Tryz.func39 (c := Tryz.f39.body.getD .skip) (by kernel_rfl) (by kernel_rfl) (by kernel_rfl) ((E_bough_Right x0 x1 w R).mpr h)
def F_sha_Sum (x0 : Value) (w : World) (R : Ending → World → Prop) : Prop :=
 m R (o_alloc 33) w fun x2 w1 =>
 m R (o_build 126 [(0, (.int .u32 1779033703)), (1, (.int .u32 3144134277)), (2, (.int .u32 1013904242)), (3, (.int .u32 2773480762)), (4, (.int .u32 1359893119)), (5, (.int .u32 2600822924)), (6, (.int .u32 528734635)), (7, (.int .u32 1541459225))]) w1 fun x11 w2 =>
 m R (o_call (fv 85) []) w2 fun x12 w3 =>
 m R (o_build 131 [(0, x11), (3, x12)]) w3 fun x13 w4 =>
 m R (o_box 131 x13) w4 fun x14 w5 =>
 m R (o_builtin .len #[123] 3 [false] [x0]) w5 fun x16 w6 =>
 ml1 (.int .i64 0) w6 fun x17 u3 w7 next3 =>
 m R (o_bin .lss 3 false x17 x16) w7 fun x18 w8 =>
 mif x18 (
 m R (o_indexAddr 123 x0 x17) w8 fun x19 w9 =>
 m R (o_load 9 x19) w9 fun x20 w10 =>
 m R (o_call (fv 86) [x14, x20]) w10 fun x23 w11 =>
 m R (o_bin .add 3 true x17 (.int .i64 1)) w11 fun x24 w12 =>
 next3 x24 w12) (
 m R (o_alloc 133) w8 fun x6 w13 =>
 m R (o_indexAddr 133 x6 (.int .i64 0)) w13 fun x25 w14 =>
 m R (o_store 5 x25 (.int .u8 128)) w14 fun _ w15 =>
 m R (o_nilCheck x14) w15 fun x27 w16 =>
 m R (o_fieldAddr 131 x27 2) w16 fun x28 w17 =>
 m R (o_load 3 x28) w17 fun x29 w18 =>
 m R (o_bin .add 3 true x29 (.int .i64 8)) w18 fun x30 w19 =>
 m R (o_bin .rem 3 true x30 (.int .i64 64)) w19 fun x31 w20 =>
 m R (o_bin .sub 3 true (.int .i64 64) x31) w20 fun x32 w21 =>
 ml1 (.int .i64 0) w21 fun x33 u11 w22 next11 =>
 m R (o_bin .lss 3 true x33 (.int .i64 8)) w22 fun x34 w23 =>
 mif x34 (
 m R (o_bin .add 3 false x32 x33) w23 fun x38 w24 =>
 m R (o_nilCheck x14) w24 fun x40 w25 =>
 m R (o_fieldAddr 131 x40 2) w25 fun x41 w26 =>
 m R (o_load 3 x41) w26 fun x42 w27 =>
 m R (o_conv 3 134 x42) w27 fun x43 w28 =>
 m R (o_bin .mul 134 true x43 (.int .u64 8)) w28 fun x44 w29 =>
 m R (o_bin .mul 3 true (.int .i64 8) x33) w29 fun x46 w30 =>
 m R (o_bin .sub 3 true (.int .i64 56) x46) w30 fun x47 w31 =>
 m R (o_bin .shr 134 false x44 x47) w31 fun x48 w32 =>
 m R (o_conv 134 5 x48) w32 fun x49 w33 =>
 m R (o_indexAddr 133 x6 x38) w33 fun x50 w34 =>
 m R (o_store 5 x50 x49) w34 fun _ w35 =>
 m R (o_bin .add 3 true x33 (.int .i64 1)) w35 fun x51 w36 =>
 next11 x51 w36) (
 m R (o_bin .add 3 true x32 (.int .i64 8)) w23 fun x54 w37 =>
 m R (o_slice 133 x6 none (some x54) none) w37 fun x55 w38 =>
 m R (o_conv 135 9 x55) w38 fun x56 w39 =>
 m R (o_call (fv 86) [x14, x56]) w39 fun x57 w40 =>
 m R (o_alloc 33) w40 fun x9 w41 =>
 ml1 (.int .i64 0) w41 fun x58 u18 w42 next18 =>
 m R (o_bin .lss 3 true x58 (.int .i64 32)) w42 fun x59 w43 =>
 mif x59 (
 m R (o_bin .quo 3 true x58 (.int .i64 4)) w43 fun x64 w44 =>
 m R (o_nilCheck x14) w44 fun x65 w45 =>
 m R (o_fieldAddr 131 x65 0) w45 fun x66 w46 =>
 m R (o_indexAddr 126 x66 x64) w46 fun x67 w47 =>
 m R (o_load 125 x67) w47 fun x68 w48 =>
 m R (o_bin .rem 3 true x58 (.int .i64 4)) w48 fun x70 w49 =>
 m R (o_bin .mul 3 true (.int .i64 8) x70) w49 fun x71 w50 =>
 m R (o_bin .sub 3 true (.int .i64 24) x71) w50 fun x72 w51 =>
 m R (o_bin .shr 125 false x68 x72) w51 fun x73 w52 =>
 m R (o_conv 125 5 x73) w52 fun x74 w53 =>
 m R (o_indexAddr 33 x9 x58) w53 fun x75 w54 =>
 m R (o_store 5 x75 x74) w54 fun _ w55 =>
 m R (o_bin .add 3 true x58 (.int .i64 1)) w55 fun x76 w56 =>
 next18 x76 w56) (
 m R (o_load 33 x9) w43 fun x77 w57 =>
 m R (o_store 33 x2 x77) w57 fun _ w58 =>
 rcell Tryz.prog 33 x2 w58 fun r2 =>
 R (.returned r2) w58)))
def A_sha_Sum : Ann := ⟨[(3, [17], 33423392), (11, [33], 4503591037436160), (18, [58], 151115439221452495127552)], [], [], [], []⟩
theorem E_sha_Sum (x0 : Value) (w : World) (R : Ending → World → Prop) : cwp Tryz.prog A_sha_Sum (Tryz.f40.body.getD .skip) (retPost Tryz.prog Tryz.f40.results.toList R) (argE [x0]) w = F_sha_Sum x0 w R := by kernel_rfl
theorem C_sha_Sum {x0 : Value} {w : World} {R : Ending → World → Prop} (h : F_sha_Sum x0 w R) : Calls Tryz.prog 40 #[x0] w R :=
 calls_cwp (A := A_sha_Sum) (args := [x0]) mixed Tryz.func40 (c := Tryz.f40.body.getD .skip) (by kernel_rfl) (by kernel_rfl) (by kernel_rfl) ((E_sha_Sum x0 w R).mpr h)
def F_tree_hashAt (x0 x1 : Value) (w : World) (R : Ending → World → Prop) : Prop :=
 m R (o_box 25 x0) w fun x2 w1 =>
 m R (o_alloc 33) w1 fun x4 w2 =>
 m R (o_call (fv 45) []) w2 fun x11 w3 =>
 m R (o_bin .rem 3 true x1 (.int .i64 2)) w3 fun x13 w4 =>
 m R (o_bin .eql 3 true x13 (.int .i64 0)) w4 fun x14 w5 =>
 mif x14 (
 m R (o_fieldAddr 25 x2 0) w5 fun x16 w6 =>
 m R (o_load 22 x16) w6 fun x17 w7 =>
 m R (o_bin .quo 3 true x1 (.int .i64 2)) w7 fun x19 w8 =>
 m R (o_indexAddr 22 x17 x19) w8 fun x20 w9 =>
 m R (o_load 57 x20) w9 fun x21 w10 =>
 m R (o_call (fv 47) [x11, x21]) w10 fun x22 w11 =>
 m R (o_call (fv 49) [x11]) w11 fun x25 w12 =>
 m R (o_extract x25 0) w12 fun x26 w13 =>
 m R (o_extract x25 1) w13 fun x27 w14 =>
 m R (o_buildSlice 123 2 [(0, (.string (ByteArray.mk #[108, 101, 97, 102]))), (1, x26)]) w14 fun x29 w15 =>
 m R (o_call (fv 40) [x29]) w15 fun x30 w16 =>
 m R (o_store 33 x4 x30) w16 fun _ w17 =>
 rcell Tryz.prog 33 x4 w17 fun r4 =>
 R (.returned r4) w17) (
 m R (o_fieldAddr 25 x2 0) w5 fun x31 w18 =>
 m R (o_load 22 x31) w18 fun x32 w19 =>
 m R (o_builtin .len #[22] 3 [false] [x32]) w19 fun x33 w20 =>
 m R (o_fieldAddr 25 x2 1) w20 fun x35 w21 =>
 m R (o_load 23 x35) w21 fun x36 w22 =>
 m R (o_bin .quo 3 true x1 (.int .i64 2)) w22 fun x38 w23 =>
 m R (o_indexAddr 23 x36 x38) w23 fun x39 w24 =>
 m R (o_load 61 x39) w24 fun x40 w25 =>
 m R (o_call (fv 48) [x11, x40]) w25 fun x41 w26 =>
 dq Tryz.prog w26 (o_load 25 x2) fun x43 =>
 df Tryz.prog w26 (o_call (fv 38) [x33, x1]) true fun x46 w27 =>
 df Tryz.prog w27 (o_call (fv 41) [x43, x46]) false fun x47 w28 =>
 df Tryz.prog w28 (o_call (fv 87) [x11, x47]) false fun x48 w29 =>
 dend w29 fun w30 =>
 dq Tryz.prog w30 (o_load 25 x2) fun x50 =>
 df Tryz.prog w30 (o_call (fv 39) [x33, x1]) true fun x53 w31 =>
 df Tryz.prog w31 (o_call (fv 41) [x50, x53]) false fun x54 w32 =>
 df Tryz.prog w32 (o_call (fv 87) [x11, x54]) false fun x55 w33 =>
 dend w33 fun w34 =>
 m R (o_call (fv 49) [x11]) w34 fun x58 w35 =>
 m R (o_extract x58 0) w35 fun x59 w36 =>
 m R (o_extract x58 1) w36 fun x60 w37 =>
 m R (o_buildSlice 123 2 [(0, (.string (ByteArray.mk #[110, 111, 100, 101]))), (1, x59)]) w37 fun x62 w38 =>
 m R (o_call (fv 40) [x62]) w38 fun x63 w39 =>
 m R (o_store 33 x4 x63) w39 fun _ w40 =>
 rcell Tryz.prog 33 x4 w40 fun r4 =>
 R (.returned r4) w40)
def A_tree_hashAt : Ann := ⟨[], [], [(8, [⟨0, .q none, 32, 0, 4398046511104⟩, ⟨1, .q (some 0), 4, 0, 8796093022208⟩, ⟨2, .q none, 256, 0, 17592186044416⟩, ⟨3, .q none, 2, 0, 35184372088832⟩, ⟨4, .f 0 true, 52776558133248, 12, 70368744177664⟩, ⟨5, .f 1 false, 79164837199872, 30, 140737488355328⟩, ⟨6, .f 2 false, 145135534866432, 63, 281474976710656⟩]), (9, [⟨0, .q none, 32, 0, 562949953421312⟩, ⟨1, .q (some 0), 4, 0, 1125899906842624⟩, ⟨2, .q none, 256, 0, 2251799813685248⟩, ⟨3, .q none, 2, 0, 4503599627370496⟩, ⟨4, .f 0 true, 6755399441055744, 12, 9007199254740992⟩, ⟨5, .f 1 false, 10133099161583616, 30, 18014398509481984⟩, ⟨6, .f 2 false, 18577348462903296, 63, 36028797018963968⟩])], [], []⟩
theorem E_tree_hashAt (x0 x1 : Value) (w : World) (R : Ending → World → Prop) : cwp Tryz.prog A_tree_hashAt (Tryz.f41.body.getD .skip) (retPost Tryz.prog Tryz.f41.results.toList R) (argE [x0, x1]) w = F_tree_hashAt x0 x1 w R := by kernel_rfl
theorem C_tree_hashAt {x0 x1 : Value} {w : World} {R : Ending → World → Prop} (h : F_tree_hashAt x0 x1 w R) : Calls Tryz.prog 41 #[x0, x1] w R :=
 calls_cwp (A := A_tree_hashAt) (args := [x0, x1]) mixed Tryz.func41 (c := Tryz.f41.body.getD .skip) (by kernel_rfl) (by kernel_rfl) (by kernel_rfl) ((E_tree_hashAt x0 x1 w R).mpr h)
def F_bough_Root (x0 : Value) (w : World) (R : Ending → World → Prop) : Prop :=
 m R (o_call (fv 83) [x0, (.int .i64 0)]) w fun x5 w1 =>
 m R (o_un .not x5) w1 fun x6 w2 =>
 mif x6 (
 R (.returned (.int .i64 (-1))) w2) (
 ml1 (.int .i64 1) w2 fun x3 u4 w3 next4 =>
 m R (o_bin .lss 3 false x3 x0) w3 fun x9 w4 =>
 mif x9 (
 m R (o_bin .mul 3 true x3 (.int .i64 2)) w4 fun x11 w5 =>
 next4 x11 w5) (
 m R (o_bin .sub 3 true x3 (.int .i64 1)) w4 fun x13 w6 =>
 R (.returned x13) w6))
def A_bough_Root : Ann := ⟨[(4, [3], 3976)], [], [], [], []⟩
theorem E_bough_Root (x0 : Value) (w : World) (R : Ending → World → Prop) : cwp Tryz.prog A_bough_Root (Tryz.f42.body.getD .skip) (retPost Tryz.prog Tryz.f42.results.toList R) (argE [x0]) w = F_bough_Root x0 w R := by kernel_rfl
theorem C_bough_Root {x0 : Value} {w : World} {R : Ending → World → Prop} (h : F_bough_Root x0 w R) : Calls Tryz.prog 42 #[x0] w R :=
 calls_cwp (A := A_bough_Root) (args := [x0]) mixed Tryz.func42 (c := Tryz.f42.body.getD .skip) (by kernel_rfl) (by kernel_rfl) (by kernel_rfl) ((E_bough_Root x0 w R).mpr h)
def F_bevyref02_Sum (x0 : Value) (w : World) (R : Ending → World → Prop) : Prop :=
 m R (o_alloc 32) w fun x2 w1 =>
 m R (o_build 127 [(0, (.int .u32 1116352408)), (1, (.int .u32 1899447441)), (2, (.int .u32 3049323471)), (3, (.int .u32 3921009573)), (4, (.int .u32 961987163)), (5, (.int .u32 1508970993)), (6, (.int .u32 2453635748)), (7, (.int .u32 2870763221)), (8, (.int .u32 3624381080)), (9, (.int .u32 310598401)), (10, (.int .u32 607225278)), (11, (.int .u32 1426881987)), (12, (.int .u32 1925078388)), (13, (.int .u32 2162078206)), (14, (.int .u32 2614888103)), (15, (.int .u32 3248222580)), (16, (.int .u32 3835390401)), (17, (.int .u32 4022224774)), (18, (.int .u32 264347078)), (19, (.int .u32 604807628)), (20, (.int .u32 770255983)), (21, (.int .u32 1249150122)), (22, (.int .u32 1555081692)), (23, (.int .u32 1996064986)), (24, (.int .u32 2554220882)), (25, (.int .u32 2821834349)), (26, (.int .u32 2952996808)), (27, (.int .u32 3210313671)), (28, (.int .u32 3336571891)), (29, (.int .u32 3584528711)), (30, (.int .u32 113926993)), (31, (.int .u32 338241895)), (32, (.int .u32 666307205)), (33, (.int .u32 773529912)), (34, (.int .u32 1294757372)), (35, (.int .u32 1396182291)), (36, (.int .u32 1695183700)), (37, (.int .u32 1986661051)), (38, (.int .u32 2177026350)), (39, (.int .u32 2456956037)), (40, (.int .u32 2730485921)), (41, (.int .u32 2820302411)), (42, (.int .u32 3259730800)), (43, (.int .u32 3345764771)), (44, (.int .u32 3516065817)), (45, (.int .u32 3600352804)), (46, (.int .u32 4094571909)), (47, (.int .u32 275423344)), (48, (.int .u32 430227734)), (49, (.int .u32 506948616)), (50, (.int .u32 659060556)), (51, (.int .u32 883997877)), (52, (.int .u32 958139571)), (53, (.int .u32 1322822218)), (54, (.int .u32 1537002063)), (55, (.int .u32 1747873779)), (56, (.int .u32 1955562222)), (57, (.int .u32 2024104815)), (58, (.int .u32 2227730452)), (59, (.int .u32 2361852424)), (60, (.int .u32 2428436474)), (61, (.int .u32 2756734187)), (62, (.int .u32 3204031479)), (63, (.int .u32 3329325298))]) w1 fun x23 w2 =>
 m R (o_alloc 127) w2 fun x3 w3 =>
 m R (o_store 127 x3 x23) w3 fun _ w4 =>
 m R (o_conv 9 135 x0) w4 fun x25 w5 =>
 m R (o_buildSlice 135 1 [(0, (.int .u8 128))]) w5 fun x27 w6 =>
 m R (o_builtin .append #[135, 135] 135 [false, false] [x25, x27]) w6 fun x28 w7 =>
 ml1 x28 w7 fun x4 u4 w8 next4 =>
 m R (o_builtin .len #[135] 3 [false] [x4]) w8 fun x30 w9 =>
 m R (o_bin .rem 3 true x30 (.int .i64 64)) w9 fun x31 w10 =>
 m R (o_bin .neq 3 true x31 (.int .i64 56)) w10 fun x32 w11 =>
 mif x32 (
 m R (o_buildSlice 135 1 [(0, (.int .u8 0))]) w11 fun x34 w12 =>
 m R (o_builtin .append #[135, 135] 135 [false, false] [x4, x34]) w12 fun x35 w13 =>
 next4 x35 w13) (
 m R (o_builtin .len #[9] 3 [false] [x0]) w11 fun x37 w14 =>
 m R (o_conv 3 134 x37) w14 fun x38 w15 =>
 m R (o_bin .mul 134 true x38 (.int .u64 8)) w15 fun x39 w16 =>
 ml2 x4 (.int .i64 0) w16 fun x4 x6 u8 w17 next8 =>
 m R (o_bin .lss 3 true x6 (.int .i64 8)) w17 fun x41 w18 =>
 mif x41 (
 m R (o_bin .mul 3 true (.int .i64 8) x6) w18 fun x47 w19 =>
 m R (o_bin .sub 3 true (.int .i64 56) x47) w19 fun x48 w20 =>
 m R (o_conv 3 121 x48) w20 fun x49 w21 =>
 m R (o_bin .shr 134 false x39 x49) w21 fun x50 w22 =>
 m R (o_conv 134 5 x50) w22 fun x51 w23 =>
 m R (o_buildSlice 135 1 [(0, x51)]) w23 fun x52 w24 =>
 m R (o_builtin .append #[135, 135] 135 [false, false] [x4, x52]) w24 fun x53 w25 =>
 m R (o_bin .add 3 true x6 (.int .i64 1)) w25 fun x43 w26 =>
 next8 x53 x43 w26) (
 m R (o_build 126 [(0, (.int .u32 1779033703)), (1, (.int .u32 3144134277)), (2, (.int .u32 1013904242)), (3, (.int .u32 2773480762)), (4, (.int .u32 1359893119)), (5, (.int .u32 2600822924)), (6, (.int .u32 528734635)), (7, (.int .u32 1541459225))]) w18 fun x54 w27 =>
 m R (o_alloc 126) w27 fun x7 w28 =>
 m R (o_store 126 x7 x54) w28 fun _ w29 =>
 ml1 (.int .i64 0) w29 fun x8 u13 w30 next13 =>
 m R (o_builtin .len #[135] 3 [false] [x4]) w30 fun x57 w31 =>
 m R (o_bin .lss 3 false x8 x57) w31 fun x58 w32 =>
 mif x58 (
 m R (o_alloc 127) w32 fun x9 w33 =>
 ml1 (.int .i64 0) w33 fun x10 u17 w34 next17 =>
 m R (o_bin .lss 3 true x10 (.int .i64 16)) w34 fun x62 w35 =>
 mif x62 (
 m R (o_bin .mul 3 true (.int .i64 4) x10) w35 fun x69 w36 =>
 m R (o_bin .add 3 false x8 x69) w36 fun x70 w37 =>
 m R (o_call (fv 88) [x4, x70]) w37 fun x71 w38 =>
 m R (o_indexAddr 127 x9 x10) w38 fun x72 w39 =>
 m R (o_store 125 x72 x71) w39 fun _ w40 =>
 m R (o_bin .add 3 true x10 (.int .i64 1)) w40 fun x64 w41 =>
 next17 x64 w41) (
 ml1 (.int .i64 16) w35 fun x11 u21 w42 next21 =>
 m R (o_bin .lss 3 true x11 (.int .i64 64)) w42 fun x74 w43 =>
 mif x74 (
 m R (o_bin .sub 3 true x11 (.int .i64 15)) w43 fun x78 w44 =>
 m R (o_indexAddr 127 x9 x78) w44 fun x79 w45 =>
 m R (o_load 125 x79) w45 fun x80 w46 =>
 m R (o_bin .sub 3 true x11 (.int .i64 2)) w46 fun x82 w47 =>
 m R (o_indexAddr 127 x9 x82) w47 fun x83 w48 =>
 m R (o_load 125 x83) w48 fun x84 w49 =>
 dp Tryz.prog (o_bin .sub 3 true x11 (.int .i64 16)) fun x87 =>
 dp Tryz.prog (o_indexAddr 127 x9 x87) fun x88 =>
 dq Tryz.prog w49 (o_load 125 x88) fun x89 =>
 dp Tryz.prog (o_bin .sub 3 true x11 (.int .i64 7)) fun x91 =>
 dp Tryz.prog (o_indexAddr 127 x9 x91) fun x92 =>
 dq Tryz.prog w49 (o_load 125 x92) fun x93 =>
 dp Tryz.prog (o_bin .add 125 false x89 x93) fun x94 =>
 df Tryz.prog w49 (o_call (fv 89) [x80, (.int .u64 7)]) true fun x96 w50 =>
 df Tryz.prog w50 (o_call (fv 89) [x80, (.int .u64 18)]) true fun x98 w51 =>
 dp Tryz.prog (o_bin .xor 125 false x96 x98) fun x99 =>
 dp Tryz.prog (o_bin .shr 125 true x80 (.int .u64 3)) fun x101 =>
 dp Tryz.prog (o_bin .xor 125 false x99 x101) fun x102 =>
 dp Tryz.prog (o_bin .add 125 false x94 x102) fun x103 =>
 df Tryz.prog w51 (o_call (fv 89) [x84, (.int .u64 17)]) true fun x105 w52 =>
 df Tryz.prog w52 (o_call (fv 89) [x84, (.int .u64 19)]) true fun x107 w53 =>
 dp Tryz.prog (o_bin .xor 125 false x105 x107) fun x108 =>
 dp Tryz.prog (o_bin .shr 125 true x84 (.int .u64 10)) fun x110 =>
 dp Tryz.prog (o_bin .xor 125 false x108 x110) fun x111 =>
 dp Tryz.prog (o_bin .add 125 false x103 x111) fun x112 =>
 dp Tryz.prog (o_indexAddr 127 x9 x11) fun x113 =>
 df Tryz.prog w53 (o_store 125 x113 x112) false fun _ w54 =>
 dend w54 fun w55 =>
 m R (o_bin .add 3 true x11 (.int .i64 1)) w55 fun x76 w56 =>
 next21 x76 w56) (
 m R (o_load 126 x7) w43 fun x114 w57 =>
 m R (o_alloc 126) w57 fun x14 w58 =>
 m R (o_store 126 x14 x114) w58 fun _ w59 =>
 ml1 (.int .i64 0) w59 fun x15 u28 w60 next28 =>
 m R (o_bin .lss 3 true x15 (.int .i64 64)) w60 fun x116 w61 =>
 mif x116 (
 m R (o_indexAddr 126 x14 (.int .i64 4)) w61 fun x119 w62 =>
 m R (o_load 125 x119) w62 fun x120 w63 =>
 m R (o_indexAddr 126 x14 (.int .i64 0)) w63 fun x121 w64 =>
 m R (o_load 125 x121) w64 fun x122 w65 =>
 dp Tryz.prog (o_indexAddr 126 x14 (.int .i64 7)) fun x123 =>
 dq Tryz.prog w65 (o_load 125 x123) fun x124 =>
 df Tryz.prog w65 (o_call (fv 89) [x120, (.int .u64 6)]) true fun x126 w66 =>
 df Tryz.prog w66 (o_call (fv 89) [x120, (.int .u64 11)]) true fun x128 w67 =>
 dp Tryz.prog (o_bin .xor 125 false x126 x128) fun x129 =>
 df Tryz.prog w67 (o_call (fv 89) [x120, (.int .u64 25)]) true fun x131 w68 =>
 dp Tryz.prog (o_bin .xor 125 false x129 x131) fun x132 =>
 dp Tryz.prog (o_bin .add 125 false x124 x132) fun x133 =>
 dp Tryz.prog (o_indexAddr 126 x14 (.int .i64 5)) fun x135 =>
 dq Tryz.prog w65 (o_load 125 x135) fun x136 =>
 dp Tryz.prog (o_bin .and 125 false x120 x136) fun x137 =>
 dp Tryz.prog (o_un .xor x120) fun x139 =>
 dp Tryz.prog (o_indexAddr 126 x14 (.int .i64 6)) fun x140 =>
 dq Tryz.prog w65 (o_load 125 x140) fun x141 =>
 dp Tryz.prog (o_bin .and 125 false x139 x141) fun x142 =>
 dp Tryz.prog (o_bin .xor 125 false x137 x142) fun x143 =>
 dp Tryz.prog (o_bin .add 125 false x133 x143) fun x144 =>
 dp Tryz.prog (o_indexAddr 127 x3 x15) fun x146 =>
 dq Tryz.prog w65 (o_load 125 x146) fun x147 =>
 dp Tryz.prog (o_bin .add 125 false x144 x147) fun x148 =>
 dp Tryz.prog (o_indexAddr 127 x9 x15) fun x150 =>
 dq Tryz.prog w65 (o_load 125 x150) fun x151 =>
 dp Tryz.prog (o_bin .add 125 false x148 x151) fun x152 =>
 dend w68 fun w69 =>
 df Tryz.prog w69 (o_call (fv 89) [x122, (.int .u64 2)]) true fun x154 w70 =>
 df Tryz.prog w70 (o_call (fv 89) [x122, (.int .u64 13)]) true fun x156 w71 =>
 dp Tryz.prog (o_bin .xor 125 false x154 x156) fun x157 =>
 df Tryz.prog w71 (o_call (fv 89) [x122, (.int .u64 22)]) true fun x159 w72 =>
 dp Tryz.prog (o_bin .xor 125 false x157 x159) fun x160 =>
 dp Tryz.prog (o_indexAddr 126 x14 (.int .i64 1)) fun x162 =>
 dq Tryz.prog w69 (o_load 125 x162) fun x163 =>
 dp Tryz.prog (o_bin .and 125 false x122 x163) fun x164 =>
 dp Tryz.prog (o_indexAddr 126 x14 (.int .i64 2)) fun x166 =>
 dq Tryz.prog w69 (o_load 125 x166) fun x167 =>
 dp Tryz.prog (o_bin .and 125 false x122 x167) fun x168 =>
 dp Tryz.prog (o_bin .xor 125 false x164 x168) fun x169 =>
 dp Tryz.prog (o_indexAddr 126 x14 (.int .i64 1)) fun x170 =>
 dq Tryz.prog w69 (o_load 125 x170) fun x171 =>
 dp Tryz.prog (o_indexAddr 126 x14 (.int .i64 2)) fun x172 =>
 dq Tryz.prog w69 (o_load 125 x172) fun x173 =>
 dp Tryz.prog (o_bin .and 125 false x171 x173) fun x174 =>
 dp Tryz.prog (o_bin .xor 125 false x169 x174) fun x175 =>
 dp Tryz.prog (o_bin .add 125 false x160 x175) fun x176 =>
 dend w72 fun w73 =>
 m R (o_bin .add 125 false x152 x176) w73 fun x179 w74 =>
 m R (o_indexAddr 126 x14 (.int .i64 0)) w74 fun x180 w75 =>
 m R (o_load 125 x180) w75 fun x181 w76 =>
 m R (o_indexAddr 126 x14 (.int .i64 1)) w76 fun x182 w77 =>
 m R (o_load 125 x182) w77 fun x183 w78 =>
 m R (o_indexAddr 126 x14 (.int .i64 2)) w78 fun x184 w79 =>
 m R (o_load 125 x184) w79 fun x185 w80 =>
 m R (o_indexAddr 126 x14 (.int .i64 3)) w80 fun x186 w81 =>
 m R (o_load 125 x186) w81 fun x187 w82 =>
 m R (o_bin .add 125 false x187 x152) w82 fun x189 w83 =>
 m R (o_indexAddr 126 x14 (.int .i64 4)) w83 fun x190 w84 =>
 m R (o_load 125 x190) w84 fun x191 w85 =>
 m R (o_indexAddr 126 x14 (.int .i64 5)) w85 fun x192 w86 =>
 m R (o_load 125 x192) w86 fun x193 w87 =>
 m R (o_indexAddr 126 x14 (.int .i64 6)) w87 fun x194 w88 =>
 m R (o_load 125 x194) w88 fun x195 w89 =>
 m R (o_build 126 [(0, x179), (1, x181), (2, x183), (3, x185), (4, x189), (5, x191), (6, x193), (7, x195)]) w89 fun x196 w90 =>
 m R (o_store 126 x14 x196) w90 fun _ w91 =>
 m R (o_bin .add 3 true x15 (.int .i64 1)) w91 fun x118 w92 =>
 next28 x118 w92) (
 ml1 (.int .i64 0) w61 fun x20 u36 w93 next36 =>
 m R (o_bin .lss 3 true x20 (.int .i64 8)) w93 fun x198 w94 =>
 mif x198 (
 dp Tryz.prog (o_indexAddr 126 x7 x20) fun x203 =>
 dq Tryz.prog w94 (o_load 125 x203) fun x204 =>
 dp Tryz.prog (o_indexAddr 126 x14 x20) fun x206 =>
 dq Tryz.prog w94 (o_load 125 x206) fun x207 =>
 dp Tryz.prog (o_bin .add 125 false x204 x207) fun x208 =>
 dp Tryz.prog (o_indexAddr 126 x7 x20) fun x209 =>
 df Tryz.prog w94 (o_store 125 x209 x208) false fun _ w95 =>
 dend w95 fun w96 =>
 m R (o_bin .add 3 true x20 (.int .i64 1)) w96 fun x200 w97 =>
 next36 x200 w97) (
 m R (o_bin .add 3 true x8 (.int .i64 64)) w94 fun x60 w98 =>
 next13 x60 w98))))) (
 m R (o_alloc 32) w32 fun x21 w99 =>
 ml1 (.int .i64 0) w99 fun x22 u41 w100 next41 =>
 m R (o_bin .lss 3 true x22 (.int .i64 32)) w100 fun x211 w101 =>
 mif x211 (
 m R (o_bin .quo 3 true x22 (.int .i64 4)) w101 fun x216 w102 =>
 m R (o_indexAddr 126 x7 x216) w102 fun x217 w103 =>
 m R (o_load 125 x217) w103 fun x218 w104 =>
 m R (o_bin .rem 3 true x22 (.int .i64 4)) w104 fun x220 w105 =>
 m R (o_bin .mul 3 true (.int .i64 8) x220) w105 fun x221 w106 =>
 m R (o_bin .sub 3 true (.int .i64 24) x221) w106 fun x222 w107 =>
 m R (o_conv 3 121 x222) w107 fun x223 w108 =>
 m R (o_bin .shr 125 false x218 x223) w108 fun x224 w109 =>
 m R (o_conv 125 5 x224) w109 fun x225 w110 =>
 m R (o_indexAddr 32 x21 x22) w110 fun x226 w111 =>
 m R (o_store 5 x226 x225) w111 fun _ w112 =>
 m R (o_bin .add 3 true x22 (.int .i64 1)) w112 fun x213 w113 =>
 next41 x213 w113) (
 m R (o_load 32 x21) w101 fun x227 w114 =>
 m R (o_store 32 x2 x227) w114 fun _ w115 =>
 rcell Tryz.prog 32 x2 w115 fun r2 =>
 R (.returned r2) w115))))
def A_bevyref02_Sum : Ann := ⟨[(4, [4], 68182605840), (8, [4, 6], 18013298997854288), (13, [8], 1645504557321206042154969182557350504982735865597551066331741952), (17, [10], 9442427122730076734464), (21, [11], 20769187434129865781156246026467328), (28, [15], 200867255532373784442745220004270457036654345978878471667712), (36, [20], 1645303690065673668370526437295807859657420590259357014245244928), (41, [22], 215677927832647797151293965726974488038592172644458946268965537579008)], [], [(25, [⟨0, .q none, 2048, 0, 38685626227668133590597632⟩, ⟨1, .q none, 2048, 0, 77371252455336267181195264⟩, ⟨2, .q none, 77371252455336267181195264, 2, 154742504910672534362390528⟩, ⟨3, .q none, 154742504910672534362391040, 6, 309485009821345068724781056⟩, ⟨4, .q (some 0), 309485009821345068724781056, 14, 618970019642690137449562112⟩, ⟨5, .q none, 2048, 0, 1237940039285380274899124224⟩, ⟨6, .q none, 1237940039285380274899124224, 32, 2475880078570760549798248448⟩, ⟨7, .q none, 2475880078570760549798248960, 96, 4951760157141521099596496896⟩, ⟨8, .q (some 0), 4951760157141521099596496896, 224, 9903520314283042199192993792⟩, ⟨9, .q none, 10522490333925732336642555904, 510, 19807040628566084398385987584⟩, ⟨10, .q none, 4096, 0, 39614081257132168796771975168⟩, ⟨11, .f 0 true, 39614081257132168796771975168, 1024, 79228162514264337593543950336⟩, ⟨12, .q none, 4096, 0, 158456325028528675187087900672⟩, ⟨13, .f 1 true, 158456325028528675187087900672, 7168, 316912650057057350374175801344⟩, ⟨14, .q none, 396140812571321687967719751680, 15360, 633825300114114700748351602688⟩, ⟨15, .q none, 4096, 0, 1267650600228229401496703205376⟩, ⟨16, .q none, 1267650600228229401496703205376, 32768, 2535301200456458802993406410752⟩, ⟨17, .q none, 3169126500570573503741758013440, 130048, 5070602400912917605986812821504⟩, ⟨18, .q none, 5090409441541483690385198809088, 262142, 10141204801825835211973625643008⟩, ⟨19, .q none, 8192, 0, 20282409603651670423947251286016⟩, ⟨20, .f 2 true, 20282409603651670423947251286016, 539648, 40564819207303340847894502572032⟩, ⟨21, .q none, 8192, 0, 81129638414606681695789005144064⟩, ⟨22, .f 3 true, 81129638414606681695789005144064, 3685376, 162259276829213363391578010288128⟩, ⟨23, .q none, 202824096036516704239472512860160, 7879680, 324518553658426726783156020576256⟩, ⟨24, .q none, 8192, 0, 649037107316853453566312041152512⟩, ⟨25, .q none, 649037107316853453566312041152512, 16777216, 1298074214633706907132624082305024⟩, ⟨26, .q none, 1622592768292133633915780102881280, 66599936, 2596148429267413814265248164610048⟩, ⟨27, .q none, 2606289634069239649477221790253056, 134217726, 5192296858534827628530496329220096⟩, ⟨28, .q none, 38685626227668133590598144, 268435455, 10384593717069655257060992658440192⟩, ⟨29, .f 4 false, 15576890575604482885591488987660288, 536870911, 0⟩]), (32, [⟨0, .q none, 16384, 0, 10633823966279326983230456482242756608⟩, ⟨1, .q (some 0), 10633823966279326983230456482242756608, 1, 21267647932558653966460912964485513216⟩, ⟨2, .q none, 65536, 0, 42535295865117307932921825928971026432⟩, ⟨3, .f 0 true, 42535295865117307932921825928971026432, 4, 85070591730234615865843651857942052864⟩, ⟨4, .q none, 65536, 0, 170141183460469231731687303715884105728⟩, ⟨5, .f 1 true, 170141183460469231731687303715884105728, 28, 340282366920938463463374607431768211456⟩, ⟨6, .q none, 425352958651173079329218259289710264320, 60, 680564733841876926926749214863536422912⟩, ⟨7, .q none, 65536, 0, 1361129467683753853853498429727072845824⟩, ⟨8, .f 2 true, 1361129467683753853853498429727072845824, 188, 2722258935367507707706996859454145691648⟩, ⟨9, .q none, 3402823669209384634633746074317682114560, 508, 5444517870735015415413993718908291383296⟩, ⟨10, .q none, 5465785518667574069380454631872776896512, 1023, 10889035741470030830827987437816582766592⟩, ⟨11, .q none, 65536, 0, 21778071482940061661655974875633165533184⟩, ⟨12, .q none, 16384, 0, 43556142965880123323311949751266331066368⟩, ⟨13, .q (some 0), 43556142965880123323311949751266331066368, 4096, 87112285931760246646623899502532662132736⟩, ⟨14, .q none, 108890357414700308308279874378165827665920, 14336, 174224571863520493293247799005065324265472⟩, ⟨15, .q none, 65536, 0, 348449143727040986586495598010130648530944⟩, ⟨16, .q none, 348449143727040986586495598010130648530944, 32768, 696898287454081973172991196020261297061888⟩, ⟨17, .q none, 16384, 0, 1393796574908163946345982392040522594123776⟩, ⟨18, .q (some 0), 1393796574908163946345982392040522594123776, 131072, 2787593149816327892691964784081045188247552⟩, ⟨19, .q none, 3484491437270409865864955980101306485309440, 491520, 5575186299632655785383929568162090376495104⟩, ⟨20, .q none, 5749410871496176278677177367167155700760576, 1046528, 11150372599265311570767859136324180752990208⟩, ⟨21, .q none, 11161261635006781601598687123761997335756800, 2097151, 22300745198530623141535718272648361505980416⟩, ⟨22, .q none, 32768, 0, 44601490397061246283071436545296723011960832⟩, ⟨23, .q none, 44601490397061246283071436545296723011960840, 4194304, 89202980794122492566142873090593446023921664⟩, ⟨24, .q (some 0), 89202980794122492566142873090593446023921664, 12582912, 178405961588244985132285746181186892047843328⟩, ⟨25, .q none, 200706706786775608273821464453835253553823744, 33554431, 356811923176489970264571492362373784095686656⟩, ⟨26, .q none, 32768, 0, 713623846352979940529142984724747568191373312⟩, ⟨27, .q none, 713623846352979940529142984724747568191373824, 67108864, 1427247692705959881058285969449495136382746624⟩, ⟨28, .q (some 0), 1427247692705959881058285969449495136382746624, 201326592, 2854495385411919762116571938898990272765493248⟩, ⟨29, .q none, 3211307308588409732381143431261364056861179904, 536870911, 5708990770823839524233143877797980545530986496⟩, ⟨30, .q none, 5708990770823839524233143877797980545530986496, 1073741823, 262144⟩]), (33, [⟨0, .q none, 131072, 0, 11417981541647679048466287755595961091061972992⟩, ⟨1, .f 0 true, 11417981541647679048466287755595961091061972992, 1, 22835963083295358096932575511191922182123945984⟩, ⟨2, .q none, 131072, 0, 45671926166590716193865151022383844364247891968⟩, ⟨3, .f 1 true, 45671926166590716193865151022383844364247891968, 7, 91343852333181432387730302044767688728495783936⟩, ⟨4, .q none, 114179815416476790484662877555959610910619729920, 15, 182687704666362864775460604089535377456991567872⟩, ⟨5, .q none, 131072, 0, 365375409332725729550921208179070754913983135744⟩, ⟨6, .f 2 true, 365375409332725729550921208179070754913983135744, 47, 730750818665451459101842416358141509827966271488⟩, ⟨7, .q none, 913438523331814323877303020447676887284957839360, 127, 1461501637330902918203684832716283019655932542976⟩, ⟨8, .q none, 131072, 0, 2923003274661805836407369665432566039311865085952⟩, ⟨9, .q none, 16384, 0, 5846006549323611672814739330865132078623730171904⟩, ⟨10, .q (some 0), 5846006549323611672814739330865132078623730171904, 512, 11692013098647223345629478661730264157247460343808⟩, ⟨11, .q none, 14615016373309029182036848327162830196559325429760, 1792, 23384026197294446691258957323460528314494920687616⟩, ⟨12, .q none, 131072, 0, 46768052394588893382517914646921056628989841375232⟩, ⟨13, .q none, 16384, 0, 93536104789177786765035829293842113257979682750464⟩, ⟨14, .q (some 0), 93536104789177786765035829293842113257979682750464, 8192, 187072209578355573530071658587684226515959365500928⟩, ⟨15, .q none, 233840261972944466912589573234605283144949206876160, 28672, 374144419156711147060143317175368453031918731001856⟩, ⟨16, .q none, 397528445354005593751402274498828981346413651689472, 65280, 748288838313422294120286634350736906063837462003712⟩, ⟨17, .q none, 16384, 0, 1496577676626844588240573268701473812127674924007424⟩, ⟨18, .q (some 0), 1496577676626844588240573268701473812127674924007424, 131072, 2993155353253689176481146537402947624255349848014848⟩, ⟨19, .q none, 16384, 0, 5986310706507378352962293074805895248510699696029696⟩, ⟨20, .q (some 0), 5986310706507378352962293074805895248510699696029696, 524288, 11972621413014756705924586149611790497021399392059392⟩, ⟨21, .q none, 14965776766268445882405732687014738121276749240074240, 1966080, 23945242826029513411849172299223580994042798784118784⟩, ⟨22, .q none, 24693531664342935705969458933574317900106636246122496, 4194048, 47890485652059026823698344598447161988085597568237568⟩, ⟨23, .q none, 47891947153696357726616548283279878271105253500780544, 8388607, 95780971304118053647396689196894323976171195136475136⟩, ⟨24, .q none, 95780971304118053647396689196894323976171195136475136, 16777215, 524288⟩]), (38, [⟨0, .q none, 1048576, 0, 3213876088517980551083924184682325205044405987565585670602752⟩, ⟨1, .q none, 1048576, 0, 6427752177035961102167848369364650410088811975131171341205504⟩, ⟨2, .q none, 6427752177035961102167848369364650410088811975131171341205632, 2, 12855504354071922204335696738729300820177623950262342682411008⟩, ⟨3, .q (some 0), 12855504354071922204335696738729300820177623950262342682411008, 6, 25711008708143844408671393477458601640355247900524685364822016⟩, ⟨4, .q none, 1048576, 0, 51422017416287688817342786954917203280710495801049370729644032⟩, ⟨5, .q none, 51422017416287688817342786954917203280710495801049370729660416, 16, 102844034832575377634685573909834406561420991602098741459288064⟩, ⟨6, .q (some 0), 102844034832575377634685573909834406561420991602098741459288064, 48, 205688069665150755269371147819668813122841983204197482918576128⟩, ⟨7, .q none, 231399078373294599678042541297127414763197231104722168283398144, 126, 411376139330301510538742295639337626245683966408394965837152256⟩, ⟨8, .q none, 3213876088517980551083924184682325205044405987565585670602880, 255, 822752278660603021077484591278675252491367932816789931674304512⟩, ⟨9, .f 0 false, 1234128417990904531616226886918012878737051899225184897511456768, 511, 0⟩])], [], []⟩
theorem E_bevyref02_Sum (x0 : Value) (w : World) (R : Ending → World → Prop) : cwp Tryz.prog A_bevyref02_Sum (Tryz.f43.body.getD .skip) (retPost Tryz.prog Tryz.f43.results.toList R) (argE [x0]) w = F_bevyref02_Sum x0 w R := by kernel_rfl
theorem C_bevyref02_Sum {x0 : Value} {w : World} {R : Ending → World → Prop} (h : F_bevyref02_Sum x0 w R) : Calls Tryz.prog 43 #[x0] w R :=
 calls_cwp (A := A_bevyref02_Sum) (args := [x0]) mixed Tryz.func43 (c := Tryz.f43.body.getD .skip) (by kernel_rfl) (by kernel_rfl) (by kernel_rfl) ((E_bevyref02_Sum x0 w R).mpr h)
def F_bevyref07_Root (x0 : Value) (w : World) (R : Ending → World → Prop) : Prop :=
 m R (o_call (fv 90) [x0, (.int .i64 0)]) w fun x4 w1 =>
 m R (o_un .not x4) w1 fun x5 w2 =>
 mif x5 (
 R (.returned (.int .i64 (-1))) w2) (
 m R (o_call (fv 91) [(.int .i64 0), x0]) w2 fun x7 w3 =>
 R (.returned x7) w3)
def A_bevyref07_Root : Ann := ⟨[], [], [], [], []⟩
theorem E_bevyref07_Root (x0 : Value) (w : World) (R : Ending → World → Prop) : cwp Tryz.prog A_bevyref07_Root (Tryz.f44.body.getD .skip) (retPost Tryz.prog Tryz.f44.results.toList R) (argE [x0]) w = F_bevyref07_Root x0 w R := by kernel_rfl
theorem C_bevyref07_Root {x0 : Value} {w : World} {R : Ending → World → Prop} (h : F_bevyref07_Root x0 w R) : Calls Tryz.prog 44 #[x0] w R :=
 calls_cwp (A := A_bevyref07_Root) (args := [x0]) mixed Tryz.func44 (c := Tryz.f44.body.getD .skip) (by kernel_rfl) (by kernel_rfl) (by kernel_rfl) ((E_bevyref07_Root x0 w R).mpr h)
def F_wire_New (w : World) (R : Ending → World → Prop) : Prop :=
 m R (o_build 140 []) w fun x1 w1 =>
 m R (o_box 140 x1) w1 fun x2 w2 =>
 R (.returned x2) w2
def A_wire_New : Ann := ⟨[], [], [], [], []⟩
theorem E_wire_New (w : World) (R : Ending → World → Prop) : cwp Tryz.prog A_wire_New (Tryz.f45.body.getD .skip) (retPost Tryz.prog Tryz.f45.results.toList R) (argE []) w = F_wire_New w R := by kernel_rfl
theorem C_wire_New {w : World} {R : Ending → World → Prop} (h : F_wire_New w R) : Calls Tryz.prog 45 #[] w R :=
 calls_cwp (A := A_wire_New) (args := []) mixed Tryz.func45 (c := Tryz.f45.body.getD .skip) (by kernel_rfl) (by kernel_rfl) (by kernel_rfl) ((E_wire_New w R).mpr h)
def F_wire_Writer_Num (x0 x1 : Value) (w : World) (R : Ending → World → Prop) : Prop :=
 m R (o_bin .eql 74 true x0 (.pointer none)) w fun x9 w1 =>
 mif x9 (
 R (.returned (.tuple #[])) w1) (
 mj1 (fun j2 =>
 m R (o_bin .lss 3 true x1 (.int .i64 0)) w1 fun x11 w2 =>
 mguard x11 false (fun k => m R (o_move x1) w2 k) w2 fun x13 w3 =>
 mguard x11 false (fun k => m R (o_bin .gtr 3 true x13 (.int .i64 4611686018427387903)) w3 k) w3 fun x14 w4 =>
 m R (o_pick x11 (.bool true) x14) w4 fun x15 w5 =>
 j2 x15 w5) fun x15 u2 w6 =>
 mif x15 (
 m R (o_nilCheck x0) w6 fun x17 w7 =>
 m R (o_fieldAddr 140 x17 1) w7 fun x18 w8 =>
 m R (o_store 4 x18 (.bool true)) w8 fun _ w9 =>
 R (.returned (.tuple #[])) w9) (
 ml1 (.int .i64 0) w6 fun x4 u4 w10 next4 =>
 mj0 (fun j5 =>
 m R (o_bin .lss 3 true x4 (.int .i64 3)) w10 fun x20 w11 =>
 mguard x20 true (fun k => m R (o_move x1) w11 k) w11 fun x22 w12 =>
 mguard x20 true (fun k => m R (o_call (fv 92) []) w12 k) w12 fun x23 w13 =>
 mguard x20 true (fun k => m R (o_move x4) w13 k) w13 fun x24 w14 =>
 mguard x20 true (fun k => m R (o_index 141 x23 x24) w14 k) w14 fun x25 w15 =>
 mguard x20 true (fun k => m R (o_bin .geq 3 false x22 x25) w15 k) w15 fun x26 w16 =>
 m R (o_pick x20 x26 (.bool false)) w16 fun x27 w17 =>
 mif x27 (
 j5 w17) (
 m R (o_bin .shl 3 true (.int .i64 1) x4) w17 fun x31 w18 =>
 ml1 (.int .i64 0) w18 fun x33 u8 w19 next8 =>
 m R (o_bin .lss 3 false x33 x31) w19 fun x34 w20 =>
 mif x34 (
 m R (o_bin .sub 3 true x31 (.int .i64 1)) w20 fun x38 w21 =>
 m R (o_bin .sub 3 false x38 x33) w21 fun x40 w22 =>
 m R (o_bin .mul 3 true (.int .i64 8) x40) w22 fun x41 w23 =>
 m R (o_bin .shr 3 false x1 x41) w23 fun x42 w24 =>
 m R (o_conv 3 5 x42) w24 fun x43 w25 =>
 mj1 (fun j13 =>
 m R (o_bin .eql 3 true x33 (.int .i64 0)) w25 fun x45 w26 =>
 mif x45 (
 m R (o_bin .shl 3 true x4 (.int .u64 6)) w26 fun x48 w27 =>
 m R (o_conv 3 5 x48) w27 fun x49 w28 =>
 m R (o_bin .or 5 false x43 x49) w28 fun x50 w29 =>
 j13 x50 w29) (
 j13 x43 w26)) fun x7 u13 w30 =>
 m R (o_nilCheck x0) w30 fun x53 w31 =>
 m R (o_fieldAddr 140 x53 0) w31 fun x54 w32 =>
 m R (o_load 135 x54) w32 fun x55 w33 =>
 m R (o_buildSlice 135 1 [(0, x7)]) w33 fun x57 w34 =>
 m R (o_builtin .append #[135, 135] 135 [false, false] [x55, x57]) w34 fun x58 w35 =>
 m R (o_nilCheck x0) w35 fun x59 w36 =>
 m R (o_fieldAddr 140 x59 0) w36 fun x60 w37 =>
 m R (o_store 135 x60 x58) w37 fun _ w38 =>
 m R (o_bin .add 3 true x33 (.int .i64 1)) w38 fun x61 w39 =>
 next8 x61 w39) (
 R (.returned (.tuple #[])) w20))) fun u5 w40 =>
 m R (o_bin .add 3 true x4 (.int .i64 1)) w40 fun x29 w41 =>
 next4 x29 w41))
def A_wire_Writer_Num : Ann := ⟨[(4, [4], 1073217552), (8, [33], 4611686009837453504)], [(2, [15], 64512), (5, [], 267911168), (13, [7], 2234207627640960)], [], [], []⟩
theorem E_wire_Writer_Num (x0 x1 : Value) (w : World) (R : Ending → World → Prop) : cwp Tryz.prog A_wire_Writer_Num (Tryz.f46.body.getD .skip) (retPost Tryz.prog Tryz.f46.results.toList R) (argE [x0, x1]) w = F_wire_Writer_Num x0 x1 w R := by kernel_rfl
theorem C_wire_Writer_Num {x0 x1 : Value} {w : World} {R : Ending → World → Prop} (h : F_wire_Writer_Num x0 x1 w R) : Calls Tryz.prog 46 #[x0, x1] w R :=
 calls_cwp (A := A_wire_Writer_Num) (args := [x0, x1]) mixed Tryz.func46 (c := Tryz.f46.body.getD .skip) (by kernel_rfl) (by kernel_rfl) (by kernel_rfl) ((E_wire_Writer_Num x0 x1 w R).mpr h)
def F_tree_leafBytes (x0 x1 : Value) (w : World) (R : Ending → World → Prop) : Prop :=
 m R (o_box 57 x1) w fun x3 w1 =>
 m R (o_fieldAddr 57 x3 0) w1 fun x5 w2 =>
 m R (o_load 3 x5) w2 fun x6 w3 =>
 m R (o_bin .gtr 3 true x6 (.int .i64 0)) w3 fun x7 w4 =>
 m R (o_call (fv 93) [x0, x7]) w4 fun x8 w5 =>
 m R (o_fieldAddr 57 x3 0) w5 fun x9 w6 =>
 m R (o_load 3 x9) w6 fun x10 w7 =>
 m R (o_bin .gtr 3 true x10 (.int .i64 0)) w7 fun x11 w8 =>
 mif x11 (
 m R (o_fieldAddr 57 x3 0) w8 fun x13 w9 =>
 m R (o_load 3 x13) w9 fun x14 w10 =>
 m R (o_call (fv 46) [x0, x14]) w10 fun x15 w11 =>
 m R (o_fieldAddr 57 x3 1) w11 fun x17 w12 =>
 m R (o_load 33 x17) w12 fun x18 w13 =>
 m R (o_call (fv 87) [x0, x18]) w13 fun x19 w14 =>
 m R (o_fieldAddr 57 x3 2) w14 fun x21 w15 =>
 m R (o_load 33 x21) w15 fun x22 w16 =>
 m R (o_call (fv 87) [x0, x22]) w16 fun x23 w17 =>
 m R (o_fieldAddr 57 x3 3) w17 fun x25 w18 =>
 m R (o_load 33 x25) w18 fun x26 w19 =>
 m R (o_call (fv 87) [x0, x26]) w19 fun x27 w20 =>
 R (.returned (.tuple #[])) w20) (
 R (.returned (.tuple #[])) w8)
def A_tree_leafBytes : Ann := ⟨[], [], [], [], []⟩
theorem E_tree_leafBytes (x0 x1 : Value) (w : World) (R : Ending → World → Prop) : cwp Tryz.prog A_tree_leafBytes (Tryz.f47.body.getD .skip) (retPost Tryz.prog Tryz.f47.results.toList R) (argE [x0, x1]) w = F_tree_leafBytes x0 x1 w R := by kernel_rfl
theorem C_tree_leafBytes {x0 x1 : Value} {w : World} {R : Ending → World → Prop} (h : F_tree_leafBytes x0 x1 w R) : Calls Tryz.prog 47 #[x0, x1] w R :=
 calls_cwp (A := A_tree_leafBytes) (args := [x0, x1]) mixed Tryz.func47 (c := Tryz.f47.body.getD .skip) (by kernel_rfl) (by kernel_rfl) (by kernel_rfl) ((E_tree_leafBytes x0 x1 w R).mpr h)
def F_tree_parentBytes (x0 x1 : Value) (w : World) (R : Ending → World → Prop) : Prop :=
 m R (o_box 61 x1) w fun x3 w1 =>
 m R (o_fieldAddr 61 x3 0) w1 fun x7 w2 =>
 m R (o_load 4 x7) w2 fun x8 w3 =>
 m R (o_call (fv 93) [x0, x8]) w3 fun x9 w4 =>
 m R (o_fieldAddr 61 x3 0) w4 fun x10 w5 =>
 m R (o_load 4 x10) w5 fun x11 w6 =>
 mif x11 (
 m R (o_fieldAddr 61 x3 1) w6 fun x13 w7 =>
 m R (o_load 33 x13) w7 fun x14 w8 =>
 m R (o_call (fv 87) [x0, x14]) w8 fun x15 w9 =>
 m R (o_fieldAddr 61 x3 2) w9 fun x17 w10 =>
 m R (o_load 33 x17) w10 fun x18 w11 =>
 m R (o_call (fv 87) [x0, x18]) w11 fun x19 w12 =>
 m R (o_fieldAddr 61 x3 3) w12 fun x21 w13 =>
 m R (o_load 29 x21) w13 fun x22 w14 =>
 m R (o_builtin .len #[29] 3 [false] [x22]) w14 fun x23 w15 =>
 m R (o_call (fv 46) [x0, x23]) w15 fun x24 w16 =>
 m R (o_fieldAddr 61 x3 3) w16 fun x25 w17 =>
 m R (o_load 29 x25) w17 fun x26 w18 =>
 m R (o_builtin .len #[29] 3 [false] [x26]) w18 fun x27 w19 =>
 ml1 (.int .i64 0) w19 fun x28 u7 w20 next7 =>
 m R (o_bin .lss 3 false x28 x27) w20 fun x29 w21 =>
 mif x29 (
 m R (o_indexAddr 29 x26 x28) w21 fun x30 w22 =>
 m R (o_load 3 x30) w22 fun x31 w23 =>
 m R (o_call (fv 46) [x0, x31]) w23 fun x34 w24 =>
 m R (o_bin .add 3 true x28 (.int .i64 1)) w24 fun x35 w25 =>
 next7 x35 w25) (
 R (.returned (.tuple #[])) w21)) (
 R (.returned (.tuple #[])) w6)
def A_tree_parentBytes : Ann := ⟨[(7, [28], 68451041312)], [], [], [], []⟩
theorem E_tree_parentBytes (x0 x1 : Value) (w : World) (R : Ending → World → Prop) : cwp Tryz.prog A_tree_parentBytes (Tryz.f48.body.getD .skip) (retPost Tryz.prog Tryz.f48.results.toList R) (argE [x0, x1]) w = F_tree_parentBytes x0 x1 w R := by kernel_rfl
theorem C_tree_parentBytes {x0 x1 : Value} {w : World} {R : Ending → World → Prop} (h : F_tree_parentBytes x0 x1 w R) : Calls Tryz.prog 48 #[x0, x1] w R :=
 calls_cwp (A := A_tree_parentBytes) (args := [x0, x1]) mixed Tryz.func48 (c := Tryz.f48.body.getD .skip) (by kernel_rfl) (by kernel_rfl) (by kernel_rfl) ((E_tree_parentBytes x0 x1 w R).mpr h)
def F_wire_Writer_End (x0 : Value) (w : World) (R : Ending → World → Prop) : Prop :=
 mj1 (fun j2 =>
 m R (o_bin .eql 74 true x0 (.pointer none)) w fun x5 w1 =>
 mguard x5 false (fun k => m R (o_move x0) w1 k) w1 fun x7 w2 =>
 mguard x5 false (fun k => m R (o_nilCheck x7) w2 k) w2 fun x8 w3 =>
 mguard x5 false (fun k => m R (o_fieldAddr 140 x8 1) w3 k) w3 fun x9 w4 =>
 mguard x5 false (fun k => m R (o_load 4 x9) w4 k) w4 fun x10 w5 =>
 m R (o_pick x5 (.bool true) x10) w5 fun x11 w6 =>
 j2 x11 w6) fun x11 u2 w7 =>
 mif x11 (
 R (.returned (.tuple #[(.string (ByteArray.mk #[])), (.int .i64 1)])) w7) (
 m R (o_nilCheck x0) w7 fun x13 w8 =>
 m R (o_fieldAddr 140 x13 0) w8 fun x14 w9 =>
 m R (o_load 135 x14) w9 fun x15 w10 =>
 m R (o_conv 135 9 x15) w10 fun x16 w11 =>
 R (.returned (.tuple #[x16, (.int .i64 0)])) w11)
def A_wire_Writer_End : Ann := ⟨[], [(2, [11], 4080)], [], [], []⟩
theorem E_wire_Writer_End (x0 : Value) (w : World) (R : Ending → World → Prop) : cwp Tryz.prog A_wire_Writer_End (Tryz.f49.body.getD .skip) (retPost Tryz.prog Tryz.f49.results.toList R) (argE [x0]) w = F_wire_Writer_End x0 w R := by kernel_rfl
theorem C_wire_Writer_End {x0 : Value} {w : World} {R : Ending → World → Prop} (h : F_wire_Writer_End x0 w R) : Calls Tryz.prog 49 #[x0] w R :=
 calls_cwp (A := A_wire_Writer_End) (args := [x0]) mixed Tryz.func49 (c := Tryz.f49.body.getD .skip) (by kernel_rfl) (by kernel_rfl) (by kernel_rfl) ((E_wire_Writer_End x0 w R).mpr h)
def F_bevyref01_Num (x0 : Value) (w : World) (R : Ending → World → Prop) : Prop :=
 m R (o_bin .lss 3 true x0 (.int .i64 64)) w fun x6 w1 =>
 mif x6 (
 m R (o_conv 3 5 x0) w1 fun x8 w2 =>
 m R (o_buildSlice 135 1 [(0, x8)]) w2 fun x9 w3 =>
 m R (o_conv 135 9 x9) w3 fun x10 w4 =>
 R (.returned x10) w4) (
 m R (o_bin .lss 3 true x0 (.int .i64 16384)) w1 fun x12 w5 =>
 mif x12 (
 m R (o_bin .quo 3 true x0 (.int .i64 256)) w5 fun x14 w6 =>
 m R (o_bin .add 3 true (.int .i64 64) x14) w6 fun x15 w7 =>
 m R (o_conv 3 5 x15) w7 fun x16 w8 =>
 m R (o_bin .rem 3 true x0 (.int .i64 256)) w8 fun x18 w9 =>
 m R (o_conv 3 5 x18) w9 fun x19 w10 =>
 m R (o_buildSlice 135 2 [(0, x16), (1, x19)]) w10 fun x20 w11 =>
 m R (o_conv 135 9 x20) w11 fun x21 w12 =>
 R (.returned x21) w12) (
 m R (o_bin .lss 3 true x0 (.int .i64 1073741824)) w5 fun x23 w13 =>
 mif x23 (
 m R (o_bin .quo 3 true x0 (.int .i64 16777216)) w13 fun x25 w14 =>
 m R (o_bin .add 3 true (.int .i64 128) x25) w14 fun x26 w15 =>
 m R (o_conv 3 5 x26) w15 fun x27 w16 =>
 m R (o_bin .quo 3 true x0 (.int .i64 65536)) w16 fun x29 w17 =>
 m R (o_bin .rem 3 true x29 (.int .i64 256)) w17 fun x30 w18 =>
 m R (o_conv 3 5 x30) w18 fun x31 w19 =>
 m R (o_bin .quo 3 true x0 (.int .i64 256)) w19 fun x33 w20 =>
 m R (o_bin .rem 3 true x33 (.int .i64 256)) w20 fun x34 w21 =>
 m R (o_conv 3 5 x34) w21 fun x35 w22 =>
 m R (o_bin .rem 3 true x0 (.int .i64 256)) w22 fun x37 w23 =>
 m R (o_conv 3 5 x37) w23 fun x38 w24 =>
 m R (o_buildSlice 135 4 [(0, x27), (1, x31), (2, x35), (3, x38)]) w24 fun x39 w25 =>
 m R (o_conv 135 9 x39) w25 fun x40 w26 =>
 R (.returned x40) w26) (
 m R (o_alloc 144) w13 fun x3 w27 =>
 ml2 x0 (.int .i64 7) w27 fun x0 x4 u9 w28 next9 =>
 m R (o_bin .geq 3 true x4 (.int .i64 0)) w28 fun x42 w29 =>
 mif x42 (
 m R (o_bin .rem 3 true x0 (.int .i64 256)) w29 fun x47 w30 =>
 m R (o_conv 3 5 x47) w30 fun x48 w31 =>
 m R (o_indexAddr 144 x3 x4) w31 fun x49 w32 =>
 m R (o_store 5 x49 x48) w32 fun _ w33 =>
 m R (o_bin .quo 3 true x0 (.int .i64 256)) w33 fun x51 w34 =>
 m R (o_bin .sub 3 true x4 (.int .i64 1)) w34 fun x44 w35 =>
 next9 x51 x44 w35) (
 m R (o_indexAddr 144 x3 (.int .i64 0)) w29 fun x52 w36 =>
 m R (o_load 5 x52) w36 fun x53 w37 =>
 m R (o_bin .add 5 true x53 (.int .u8 192)) w37 fun x54 w38 =>
 m R (o_indexAddr 144 x3 (.int .i64 0)) w38 fun x55 w39 =>
 m R (o_store 5 x55 x54) w39 fun _ w40 =>
 m R (o_slice 144 x3 none none none) w40 fun x56 w41 =>
 m R (o_conv 135 9 x56) w41 fun x57 w42 =>
 R (.returned x57) w42))))
def A_bevyref01_Num : Ann := ⟨[(9, [0, 4], 4501400604114961)], [], [], [], []⟩
theorem E_bevyref01_Num (x0 : Value) (w : World) (R : Ending → World → Prop) : cwp Tryz.prog A_bevyref01_Num (Tryz.f50.body.getD .skip) (retPost Tryz.prog Tryz.f50.results.toList R) (argE [x0]) w = F_bevyref01_Num x0 w R := by kernel_rfl
theorem C_bevyref01_Num {x0 : Value} {w : World} {R : Ending → World → Prop} (h : F_bevyref01_Num x0 w R) : Calls Tryz.prog 50 #[x0] w R :=
 calls_cwp (A := A_bevyref01_Num) (args := [x0]) mixed Tryz.func50 (c := Tryz.f50.body.getD .skip) (by kernel_rfl) (by kernel_rfl) (by kernel_rfl) ((E_bevyref01_Num x0 w R).mpr h)
def F_bevyref08_leaf (x0 : Value) (w : World) (R : Ending → World → Prop) : Prop :=
 m R (o_box 57 x0) w fun x1 w1 =>
 m R (o_fieldAddr 57 x1 0) w1 fun x4 w2 =>
 m R (o_load 3 x4) w2 fun x5 w3 =>
 m R (o_bin .gtr 3 true x5 (.int .i64 0)) w3 fun x6 w4 =>
 m R (o_call (fv 94) [x6]) w4 fun x7 w5 =>
 mj1 (fun j4 =>
 m R (o_fieldAddr 57 x1 0) w5 fun x8 w6 =>
 m R (o_load 3 x8) w6 fun x9 w7 =>
 m R (o_bin .gtr 3 true x9 (.int .i64 0)) w7 fun x10 w8 =>
 mif x10 (
 dp Tryz.prog (o_fieldAddr 57 x1 0) fun x12 =>
 dq Tryz.prog w8 (o_load 3 x12) fun x13 =>
 df Tryz.prog w8 (o_call (fv 50) [x13]) true fun x14 w9 =>
 dp Tryz.prog (o_bin .add 9 false x7 x14) fun x15 =>
 dp Tryz.prog (o_fieldAddr 57 x1 1) fun x16 =>
 dq Tryz.prog w8 (o_load 33 x16) fun x17 =>
 df Tryz.prog w9 (o_call (fv 55) [x17]) true fun x18 w10 =>
 dp Tryz.prog (o_bin .add 9 false x15 x18) fun x19 =>
 dp Tryz.prog (o_fieldAddr 57 x1 2) fun x20 =>
 dq Tryz.prog w8 (o_load 33 x20) fun x21 =>
 df Tryz.prog w10 (o_call (fv 55) [x21]) true fun x22 w11 =>
 dp Tryz.prog (o_bin .add 9 false x19 x22) fun x23 =>
 dp Tryz.prog (o_fieldAddr 57 x1 3) fun x24 =>
 dq Tryz.prog w8 (o_load 33 x24) fun x25 =>
 df Tryz.prog w11 (o_call (fv 55) [x25]) false fun x26 w12 =>
 dp Tryz.prog (o_bin .add 9 false x23 x26) fun x27 =>
 dend w12 fun w13 =>
 j4 x27 w13) (
 j4 x7 w8)) fun x3 u4 w14 =>
 R (.returned x3) w14
def A_bevyref08_leaf : Ann := ⟨[], [(4, [3], 268435208)], [(3, [⟨0, .q none, 8, 0, 2048⟩, ⟨1, .q none, 2, 0, 4096⟩, ⟨2, .q (some 0), 4096, 2, 8192⟩, ⟨3, .f 0 true, 8192, 6, 16384⟩, ⟨4, .q none, 18432, 15, 32768⟩, ⟨5, .q none, 2, 0, 65536⟩, ⟨6, .q (some 0), 65536, 32, 131072⟩, ⟨7, .f 1 true, 131072, 110, 262144⟩, ⟨8, .q none, 294912, 255, 524288⟩, ⟨9, .q none, 2, 0, 1048576⟩, ⟨10, .q (some 0), 1048576, 512, 2097152⟩, ⟨11, .f 2 true, 2097152, 1774, 4194304⟩, ⟨12, .q none, 4718592, 4095, 8388608⟩, ⟨13, .q none, 2, 0, 16777216⟩, ⟨14, .q (some 0), 16777216, 8192, 33554432⟩, ⟨15, .f 3 false, 33554432, 28398, 67108864⟩, ⟨16, .q none, 75497472, 65535, 134217728⟩, ⟨17, .q none, 134217728, 131071, 8⟩])], [], []⟩
theorem E_bevyref08_leaf (x0 : Value) (w : World) (R : Ending → World → Prop) : cwp Tryz.prog A_bevyref08_leaf (Tryz.f51.body.getD .skip) (retPost Tryz.prog Tryz.f51.results.toList R) (argE [x0]) w = F_bevyref08_leaf x0 w R := by kernel_rfl
theorem C_bevyref08_leaf {x0 : Value} {w : World} {R : Ending → World → Prop} (h : F_bevyref08_leaf x0 w R) : Calls Tryz.prog 51 #[x0] w R :=
 calls_cwp (A := A_bevyref08_leaf) (args := [x0]) mixed Tryz.func51 (c := Tryz.f51.body.getD .skip) (by kernel_rfl) (by kernel_rfl) (by kernel_rfl) ((E_bevyref08_leaf x0 w R).mpr h)
def F_bevyref08_parent (x0 : Value) (w : World) (R : Ending → World → Prop) : Prop :=
 m R (o_box 61 x0) w fun x1 w1 =>
 m R (o_fieldAddr 61 x1 0) w1 fun x5 w2 =>
 m R (o_load 4 x5) w2 fun x6 w3 =>
 m R (o_call (fv 94) [x6]) w3 fun x7 w4 =>
 mj1 (fun j8 =>
 m R (o_fieldAddr 61 x1 0) w4 fun x8 w5 =>
 m R (o_load 4 x8) w5 fun x9 w6 =>
 mif x9 (
 dp Tryz.prog (o_fieldAddr 61 x1 1) fun x11 =>
 dq Tryz.prog w6 (o_load 33 x11) fun x12 =>
 df Tryz.prog w6 (o_call (fv 55) [x12]) true fun x13 w7 =>
 dp Tryz.prog (o_bin .add 9 false x7 x13) fun x14 =>
 dp Tryz.prog (o_fieldAddr 61 x1 2) fun x15 =>
 dq Tryz.prog w6 (o_load 33 x15) fun x16 =>
 df Tryz.prog w7 (o_call (fv 55) [x16]) true fun x17 w8 =>
 dp Tryz.prog (o_bin .add 9 false x14 x17) fun x18 =>
 dp Tryz.prog (o_fieldAddr 61 x1 3) fun x19 =>
 dq Tryz.prog w6 (o_load 29 x19) fun x20 =>
 dp Tryz.prog (o_builtin .len #[29] 3 [false] [x20]) fun x21 =>
 df Tryz.prog w8 (o_call (fv 50) [x21]) false fun x22 w9 =>
 dp Tryz.prog (o_bin .add 9 false x18 x22) fun x23 =>
 dend w9 fun w10 =>
 ml2 x23 (.int .i64 0) w10 fun x3 x4 u5 w11 next5 =>
 m R (o_fieldAddr 61 x1 3) w11 fun x25 w12 =>
 m R (o_load 29 x25) w12 fun x26 w13 =>
 m R (o_builtin .len #[29] 3 [false] [x26]) w13 fun x27 w14 =>
 m R (o_bin .lss 3 false x4 x27) w14 fun x28 w15 =>
 mif x28 (
 m R (o_fieldAddr 61 x1 3) w15 fun x32 w16 =>
 m R (o_load 29 x32) w16 fun x33 w17 =>
 m R (o_indexAddr 29 x33 x4) w17 fun x35 w18 =>
 m R (o_load 3 x35) w18 fun x36 w19 =>
 m R (o_call (fv 50) [x36]) w19 fun x37 w20 =>
 m R (o_bin .add 9 false x3 x37) w20 fun x38 w21 =>
 m R (o_bin .add 3 true x4 (.int .i64 1)) w21 fun x30 w22 =>
 next5 x38 x30 w22) (
 j8 x3 w15)) (
 j8 x7 w6)) fun x3 u8 w23 =>
 R (.returned x3) w23
def A_bevyref08_parent : Ann := ⟨[(5, [3, 4], 549739036696)], [(8, [3], 549755813656)], [(3, [⟨0, .q none, 8, 0, 1024⟩, ⟨1, .q none, 2, 0, 2048⟩, ⟨2, .q (some 0), 2048, 2, 4096⟩, ⟨3, .f 0 true, 4096, 6, 8192⟩, ⟨4, .q none, 9216, 15, 16384⟩, ⟨5, .q none, 2, 0, 32768⟩, ⟨6, .q (some 0), 32768, 32, 65536⟩, ⟨7, .f 1 true, 65536, 110, 131072⟩, ⟨8, .q none, 147456, 255, 262144⟩, ⟨9, .q none, 2, 0, 524288⟩, ⟨10, .q (some 0), 524288, 512, 1048576⟩, ⟨11, .q none, 1048576, 1536, 2097152⟩, ⟨12, .f 2 false, 2097152, 3822, 4194304⟩, ⟨13, .q none, 4456448, 8191, 8388608⟩, ⟨14, .q none, 8388608, 16383, 8⟩])], [], []⟩
theorem E_bevyref08_parent (x0 : Value) (w : World) (R : Ending → World → Prop) : cwp Tryz.prog A_bevyref08_parent (Tryz.f52.body.getD .skip) (retPost Tryz.prog Tryz.f52.results.toList R) (argE [x0]) w = F_bevyref08_parent x0 w R := by kernel_rfl
theorem C_bevyref08_parent {x0 : Value} {w : World} {R : Ending → World → Prop} (h : F_bevyref08_parent x0 w R) : Calls Tryz.prog 52 #[x0] w R :=
 calls_cwp (A := A_bevyref08_parent) (args := [x0]) mixed Tryz.func52 (c := Tryz.f52.body.getD .skip) (by kernel_rfl) (by kernel_rfl) (by kernel_rfl) ((E_bevyref08_parent x0 w R).mpr h)
def F_bevyref07_Left (x0 x1 : Value) (w : World) (R : Ending → World → Prop) : Prop :=
 m R (o_call (fv 90) [x0, x1]) w fun x11 w1 =>
 m R (o_un .not x11) w1 fun x12 w2 =>
 mif x12 (
 R (.returned (.int .i64 (-1))) w2) (
 m R (o_call (fv 95) [(.int .i64 0), x0, x1, (.int .i64 (-1)), (.int .i64 (-1))]) w2 fun x16 w3 =>
 m R (o_extract x16 0) w3 fun x17 w4 =>
 m R (o_extract x16 1) w4 fun x18 w5 =>
 m R (o_extract x16 2) w5 fun x19 w6 =>
 m R (o_extract x16 3) w6 fun x20 w7 =>
 m R (o_bin .eql 3 true x18 (.int .i64 1)) w7 fun x22 w8 =>
 mif x22 (
 R (.returned (.int .i64 (-1))) w8) (
 m R (o_call (fv 96) [x18]) w8 fun x25 w9 =>
 m R (o_call (fv 91) [x17, x25]) w9 fun x26 w10 =>
 R (.returned x26) w10))
def A_bevyref07_Left : Ann := ⟨[], [], [], [], []⟩
theorem E_bevyref07_Left (x0 x1 : Value) (w : World) (R : Ending → World → Prop) : cwp Tryz.prog A_bevyref07_Left (Tryz.f53.body.getD .skip) (retPost Tryz.prog Tryz.f53.results.toList R) (argE [x0, x1]) w = F_bevyref07_Left x0 x1 w R := by kernel_rfl
theorem C_bevyref07_Left {x0 x1 : Value} {w : World} {R : Ending → World → Prop} (h : F_bevyref07_Left x0 x1 w R) : Calls Tryz.prog 53 #[x0, x1] w R :=
 calls_cwp (A := A_bevyref07_Left) (args := [x0, x1]) mixed Tryz.func53 (c := Tryz.f53.body.getD .skip) (by kernel_rfl) (by kernel_rfl) (by kernel_rfl) ((E_bevyref07_Left x0 x1 w R).mpr h)
def F_bevyref07_Right (x0 x1 : Value) (w : World) (R : Ending → World → Prop) : Prop :=
 m R (o_call (fv 90) [x0, x1]) w fun x11 w1 =>
 m R (o_un .not x11) w1 fun x12 w2 =>
 mif x12 (
 R (.returned (.int .i64 (-1))) w2) (
 m R (o_call (fv 95) [(.int .i64 0), x0, x1, (.int .i64 (-1)), (.int .i64 (-1))]) w2 fun x16 w3 =>
 m R (o_extract x16 0) w3 fun x17 w4 =>
 m R (o_extract x16 1) w4 fun x18 w5 =>
 m R (o_extract x16 2) w5 fun x19 w6 =>
 m R (o_extract x16 3) w6 fun x20 w7 =>
 m R (o_bin .eql 3 true x18 (.int .i64 1)) w7 fun x22 w8 =>
 mif x22 (
 R (.returned (.int .i64 (-1))) w8) (
 m R (o_call (fv 96) [x18]) w8 fun x25 w9 =>
 m R (o_bin .add 3 false x17 x25) w9 fun x26 w10 =>
 m R (o_call (fv 96) [x18]) w10 fun x29 w11 =>
 m R (o_bin .sub 3 false x18 x29) w11 fun x30 w12 =>
 m R (o_call (fv 91) [x26, x30]) w12 fun x31 w13 =>
 R (.returned x31) w13))
def A_bevyref07_Right : Ann := ⟨[], [], [], [], []⟩
theorem E_bevyref07_Right (x0 x1 : Value) (w : World) (R : Ending → World → Prop) : cwp Tryz.prog A_bevyref07_Right (Tryz.f54.body.getD .skip) (retPost Tryz.prog Tryz.f54.results.toList R) (argE [x0, x1]) w = F_bevyref07_Right x0 x1 w R := by kernel_rfl
theorem C_bevyref07_Right {x0 x1 : Value} {w : World} {R : Ending → World → Prop} (h : F_bevyref07_Right x0 x1 w R) : Calls Tryz.prog 54 #[x0, x1] w R :=
 calls_cwp (A := A_bevyref07_Right) (args := [x0, x1]) mixed Tryz.func54 (c := Tryz.f54.body.getD .skip) (by kernel_rfl) (by kernel_rfl) (by kernel_rfl) ((E_bevyref07_Right x0 x1 w R).mpr h)
def F_bevyref08_text (x0 : Value) (w : World) (R : Ending → World → Prop) : Prop :=
 m R (o_box 32 x0) w fun x1 w1 =>
 m R (o_slice 32 x1 none none none) w1 fun x3 w2 =>
 m R (o_conv 135 9 x3) w2 fun x4 w3 =>
 R (.returned x4) w3
def A_bevyref08_text : Ann := ⟨[], [], [], [], []⟩
theorem E_bevyref08_text (x0 : Value) (w : World) (R : Ending → World → Prop) : cwp Tryz.prog A_bevyref08_text (Tryz.f55.body.getD .skip) (retPost Tryz.prog Tryz.f55.results.toList R) (argE [x0]) w = F_bevyref08_text x0 w R := by kernel_rfl
theorem C_bevyref08_text {x0 : Value} {w : World} {R : Ending → World → Prop} (h : F_bevyref08_text x0 w R) : Calls Tryz.prog 55 #[x0] w R :=
 calls_cwp (A := A_bevyref08_text) (args := [x0]) mixed Tryz.func55 (c := Tryz.f55.body.getD .skip) (by kernel_rfl) (by kernel_rfl) (by kernel_rfl) ((E_bevyref08_text x0 w R).mpr h)
def F_tree_clone (x0 : Value) (w : World) (R : Ending → World → Prop) : Prop :=
 m R (o_box 25 x0) w fun x1 w1 =>
 m R (o_alloc 25) w1 fun x2 w2 =>
 mj1 (fun j2 =>
 ((
 dp Tryz.prog (o_fieldAddr 25 x1 0) fun x5 =>
 dq Tryz.prog w2 (o_load 22 x5) fun x6 =>
 dp Tryz.prog (o_fieldAddr 25 x1 1) fun x8 =>
 dq Tryz.prog w2 (o_load 23 x8) fun x9 =>
 df Tryz.prog w2 (o_call (fv 110) [x6]) true fun x7 w3 =>
 df Tryz.prog w3 (o_call (fv 111) [x9]) false fun x10 w4 =>
 dp Tryz.prog (o_build 25 [(0, x7), (1, x10)]) fun x11 =>
 df Tryz.prog w4 (o_alloc 25) true fun x3 w5 =>
 df Tryz.prog w5 (o_store 25 x3 x11) false fun _ w6 =>
 dend w6 fun w7 =>
 j2 x3 w7) ∧ (
 dp Tryz.prog (o_fieldAddr 25 x1 0) fun x5 =>
 dq Tryz.prog w2 (o_load 22 x5) fun x6 =>
 dp Tryz.prog (o_fieldAddr 25 x1 1) fun x8 =>
 dq Tryz.prog w2 (o_load 23 x8) fun x9 =>
 df Tryz.prog w2 (o_call (fv 110) [x6]) true fun x7 w8 =>
 df Tryz.prog w8 (o_alloc 25) true fun x3 w9 =>
 df Tryz.prog w9 (o_call (fv 111) [x9]) false fun x10 w10 =>
 dp Tryz.prog (o_build 25 [(0, x7), (1, x10)]) fun x11 =>
 df Tryz.prog w10 (o_store 25 x3 x11) false fun _ w11 =>
 dend w11 fun w12 =>
 j2 x3 w12) ∧ (
 dp Tryz.prog (o_fieldAddr 25 x1 0) fun x5 =>
 dq Tryz.prog w2 (o_load 22 x5) fun x6 =>
 dp Tryz.prog (o_fieldAddr 25 x1 1) fun x8 =>
 dq Tryz.prog w2 (o_load 23 x8) fun x9 =>
 df Tryz.prog w2 (o_alloc 25) true fun x3 w13 =>
 df Tryz.prog w13 (o_call (fv 110) [x6]) true fun x7 w14 =>
 df Tryz.prog w14 (o_call (fv 111) [x9]) false fun x10 w15 =>
 dp Tryz.prog (o_build 25 [(0, x7), (1, x10)]) fun x11 =>
 df Tryz.prog w15 (o_store 25 x3 x11) false fun _ w16 =>
 dend w16 fun w17 =>
 j2 x3 w17))) fun x3 u2 w18 =>
 m R (o_fieldAddr 25 x3 1) w18 fun x12 w19 =>
 m R (o_load 23 x12) w19 fun x13 w20 =>
 m R (o_builtin .len #[23] 3 [false] [x13]) w20 fun x14 w21 =>
 ml1 (.int .i64 0) w21 fun x15 u3 w22 next3 =>
 m R (o_bin .lss 3 false x15 x14) w22 fun x16 w23 =>
 mif x16 (
 dp Tryz.prog (o_fieldAddr 25 x3 1) fun x18 =>
 dq Tryz.prog w23 (o_load 23 x18) fun x19 =>
 dp Tryz.prog (o_fieldAddr 25 x3 1) fun x21 =>
 dq Tryz.prog w23 (o_load 23 x21) fun x22 =>
 dp Tryz.prog (o_indexAddr 23 x22 x15) fun x24 =>
 dp Tryz.prog (o_fieldAddr 61 x24 3) fun x25 =>
 dq Tryz.prog w23 (o_load 29 x25) fun x26 =>
 df Tryz.prog w23 (o_call (fv 112) [x26]) true fun x27 w24 =>
 dp Tryz.prog (o_indexAddr 23 x19 x15) fun x28 =>
 dp Tryz.prog (o_fieldAddr 61 x28 3) fun x29 =>
 df Tryz.prog w24 (o_store 29 x29 x27) false fun _ w25 =>
 dend w25 fun w26 =>
 m R (o_bin .add 3 true x15 (.int .i64 1)) w26 fun x30 w27 =>
 next3 x30 w27) (
 m R (o_load 25 x3) w23 fun x31 w28 =>
 m R (o_store 25 x2 x31) w28 fun _ w29 =>
 rcell Tryz.prog 25 x2 w29 fun r2 =>
 R (.returned r2) w29)
def A_tree_clone : Ann := ⟨[(3, [15], 2147450896)], [(2, [3], 4072)], [(5, [⟨0, .q none, 8, 0, 262144⟩, ⟨1, .q (some 0), 262144, 1, 524288⟩, ⟨2, .q none, 16, 0, 1048576⟩, ⟨3, .q none, 8, 0, 2097152⟩, ⟨4, .q (some 0), 2097152, 8, 4194304⟩, ⟨5, .q none, 16, 0, 8388608⟩, ⟨6, .q none, 12582912, 56, 16777216⟩, ⟨7, .q none, 16777216, 120, 33554432⟩, ⟨8, .q (some 0), 33554432, 248, 67108864⟩, ⟨9, .f 0 true, 67108864, 504, 134217728⟩, ⟨10, .q none, 1572864, 1023, 268435456⟩, ⟨11, .q none, 268435456, 2047, 536870912⟩, ⟨12, .f 1 false, 671088640, 4095, 0⟩])], [(1, [⟨[0, 1, 3, 4, 2, 5, 6, 7, 8], [⟨0, .q none, 2, 0, 32⟩, ⟨1, .q (some 0), 32, 1, 64⟩, ⟨2, .f 0 true, 64, 3, 128⟩, ⟨3, .q none, 2, 0, 256⟩, ⟨4, .q (some 0), 256, 8, 512⟩, ⟨5, .f 1 false, 512, 31, 1024⟩, ⟨6, .q none, 1152, 63, 2048⟩, ⟨7, .f 2 true, 0, 0, 8⟩, ⟨8, .f 3 false, 2056, 255, 0⟩]⟩, ⟨[0, 1, 3, 4, 2, 7, 5, 6, 8], [⟨0, .q none, 2, 0, 32⟩, ⟨1, .q (some 0), 32, 1, 64⟩, ⟨2, .f 0 true, 64, 3, 128⟩, ⟨3, .q none, 2, 0, 256⟩, ⟨4, .q (some 0), 256, 8, 512⟩, ⟨5, .f 2 false, 512, 31, 1024⟩, ⟨6, .q none, 1152, 63, 2048⟩, ⟨7, .f 1 true, 0, 0, 8⟩, ⟨8, .f 3 false, 2056, 255, 0⟩]⟩, ⟨[0, 1, 3, 4, 7, 2, 5, 6, 8], [⟨0, .q none, 2, 0, 32⟩, ⟨1, .q (some 0), 32, 1, 64⟩, ⟨2, .f 1 true, 64, 3, 128⟩, ⟨3, .q none, 2, 0, 256⟩, ⟨4, .q (some 0), 256, 8, 512⟩, ⟨5, .f 2 false, 512, 31, 1024⟩, ⟨6, .q none, 1152, 63, 2048⟩, ⟨7, .f 0 true, 0, 0, 8⟩, ⟨8, .f 3 false, 2056, 255, 0⟩]⟩])], []⟩
theorem E_tree_clone (x0 : Value) (w : World) (R : Ending → World → Prop) : cwp Tryz.prog A_tree_clone (Tryz.f72.body.getD .skip) (retPost Tryz.prog Tryz.f72.results.toList R) (argE [x0]) w = F_tree_clone x0 w R := by kernel_rfl
theorem C_tree_clone {x0 : Value} {w : World} {R : Ending → World → Prop} (h : F_tree_clone x0 w R) : Calls Tryz.prog 72 #[x0] w R :=
 calls_cwp (A := A_tree_clone) (args := [x0]) mixed Tryz.func72 (c := Tryz.f72.body.getD .skip) (by kernel_rfl) (by kernel_rfl) (by kernel_rfl) ((E_tree_clone x0 w R).mpr h)
def F_slices_Index_api_Leaf_api_Leaf (x0 x1 : Value) (w : World) (R : Ending → World → Prop) : Prop :=
 m R (o_box 57 x1) w fun x3 w1 =>
 m R (o_builtin .len #[22] 3 [false] [x0]) w1 fun x7 w2 =>
 ml1 (.int .i64 0) w2 fun x8 u2 w3 next2 =>
 m R (o_bin .lss 3 false x8 x7) w3 fun x9 w4 =>
 mif x9 (
 dq Tryz.prog w4 (o_load 57 x3) fun x11 =>
 dp Tryz.prog (o_indexAddr 22 x0 x8) fun x14 =>
 dq Tryz.prog w4 (o_load 57 x14) fun x15 =>
 dp Tryz.prog (o_bin .eql 57 false x11 x15) fun x16 =>
 dend w4 fun w5 =>
 mif x16 (
 R (.returned x8) w5) (
 m R (o_bin .add 3 true x8 (.int .i64 1)) w5 fun x18 w6 =>
 next2 x18 w6)) (
 R (.returned (.int .i64 (-1))) w4)
def A_slices_Index_api_Leaf_api_Leaf : Ann := ⟨[(2, [8], 524080)], [], [(4, [⟨0, .q (some 0), 8, 0, 2048⟩, ⟨1, .q none, 1, 0, 4096⟩, ⟨2, .q none, 32, 0, 8192⟩, ⟨3, .q none, 12288, 6, 16384⟩, ⟨4, .q (some 0), 16384, 14, 32768⟩, ⟨5, .q none, 34816, 31, 65536⟩])], [], []⟩
theorem E_slices_Index_api_Leaf_api_Leaf (x0 x1 : Value) (w : World) (R : Ending → World → Prop) : cwp Tryz.prog A_slices_Index_api_Leaf_api_Leaf (Tryz.f73.body.getD .skip) (retPost Tryz.prog Tryz.f73.results.toList R) (argE [x0, x1]) w = F_slices_Index_api_Leaf_api_Leaf x0 x1 w R := by kernel_rfl
theorem C_slices_Index_api_Leaf_api_Leaf {x0 x1 : Value} {w : World} {R : Ending → World → Prop} (h : F_slices_Index_api_Leaf_api_Leaf x0 x1 w R) : Calls Tryz.prog 73 #[x0, x1] w R :=
 calls_cwp (A := A_slices_Index_api_Leaf_api_Leaf) (args := [x0, x1]) mixed Tryz.func73 (c := Tryz.f73.body.getD .skip) (by kernel_rfl) (by kernel_rfl) (by kernel_rfl) ((E_slices_Index_api_Leaf_api_Leaf x0 x1 w R).mpr h)
def F_slices_BinarySearch_int_int (x0 x1 : Value) (w : World) (R : Ending → World → Prop) : Prop :=
 m R (o_builtin .len #[29] 3 [false] [x0]) w fun x11 w1 =>
 ml2 (.int .i64 0) x11 w1 fun x7 x8 u3 w2 next3 =>
 m R (o_bin .lss 3 false x7 x8) w2 fun x15 w3 =>
 mif x15 (
 m R (o_bin .add 3 false x7 x8) w3 fun x18 w4 =>
 m R (o_conv 3 121 x18) w4 fun x19 w5 =>
 m R (o_bin .shr 121 true x19 (.int .u64 1)) w5 fun x20 w6 =>
 m R (o_conv 121 3 x20) w6 fun x21 w7 =>
 m R (o_indexAddr 29 x0 x21) w7 fun x24 w8 =>
 m R (o_load 3 x24) w8 fun x25 w9 =>
 m R (o_call (fv 115) [x25, x1]) w9 fun x27 w10 =>
 mif x27 (
 m R (o_bin .add 3 true x21 (.int .i64 1)) w10 fun x29 w11 =>
 next3 x29 x8 w11) (
 next3 x7 x21 w10)) (
 m R (o_bin .lss 3 false x7 x11) w3 fun x34 w12 =>
 mguard x34 true (fun k => m R (o_move x0) w12 k) w12 fun x36 w13 =>
 mguard x34 true (fun k => m R (o_move x7) w13 k) w13 fun x37 w14 =>
 mguard x34 true (fun k => m R (o_indexAddr 29 x36 x37) w14 k) w14 fun x38 w15 =>
 mguard x34 true (fun k => m R (o_load 3 x38) w15 k) w15 fun x39 w16 =>
 mguard x34 true (fun k => m R (o_move x1) w16 k) w16 fun x40 w17 =>
 mguard x34 true (fun k => m R (o_bin .eql 3 false x39 x40) w17 k) w17 fun x41 w18 =>
 mguard x34 true (fun k => m R (o_move x41) w18 k) w18 fun x42 w19 =>
 mguard x42 false (fun k => m R (o_move x0) w19 k) w19 fun x43 w20 =>
 mguard x42 false (fun k => m R (o_move x7) w20 k) w20 fun x44 w21 =>
 mguard x42 false (fun k => m R (o_indexAddr 29 x43 x44) w21 k) w21 fun x45 w22 =>
 mguard x42 false (fun k => m R (o_load 3 x45) w22 k) w22 fun x46 w23 =>
 mguard x42 false (fun k => m R (o_call (fv 116) [x46]) w23 k) w23 fun x47 w24 =>
 mguard x42 false (fun k => m R (o_move x47) w24 k) w24 fun x48 w25 =>
 mguard x48 true (fun k => m R (o_move x1) w25 k) w25 fun x49 w26 =>
 mguard x48 true (fun k => m R (o_call (fv 116) [x49]) w26 k) w26 fun x50 w27 =>
 mguard x42 false (fun k => m R (o_pick x48 x50 (.bool false)) w27 k) w27 fun x51 w28 =>
 mguard x34 true (fun k => m R (o_pick x42 (.bool true) x51) w28 k) w28 fun x52 w29 =>
 m R (o_pick x34 x52 (.bool false)) w29 fun x53 w30 =>
 R (.returned (.tuple #[x7, x53])) w30)
def A_slices_BinarySearch_int_int : Ann := ⟨[(3, [7, 8], 2147476352)], [], [], [], []⟩
theorem E_slices_BinarySearch_int_int (x0 x1 : Value) (w : World) (R : Ending → World → Prop) : cwp Tryz.prog A_slices_BinarySearch_int_int (Tryz.f75.body.getD .skip) (retPost Tryz.prog Tryz.f75.results.toList R) (argE [x0, x1]) w = F_slices_BinarySearch_int_int x0 x1 w R := by kernel_rfl
theorem C_slices_BinarySearch_int_int {x0 x1 : Value} {w : World} {R : Ending → World → Prop} (h : F_slices_BinarySearch_int_int x0 x1 w R) : Calls Tryz.prog 75 #[x0, x1] w R :=
 calls_cwp (A := A_slices_BinarySearch_int_int) (args := [x0, x1]) mixed Tryz.func75 (c := Tryz.f75.body.getD .skip) (by kernel_rfl) (by kernel_rfl) (by kernel_rfl) ((E_slices_BinarySearch_int_int x0 x1 w R).mpr h)
def F_slices_Insert_int_int (x0 x1 x2 : Value) (w : World) (R : Ending → World → Prop) : Prop :=
 m R (o_slice 29 x0 (some x1) none none) w fun x12 w1 =>
 m R (o_builtin .len #[29] 3 [false] [x2]) w1 fun x14 w2 =>
 m R (o_bin .eql 3 true x14 (.int .i64 0)) w2 fun x16 w3 =>
 mif x16 (
 R (.returned x0) w3) (
 m R (o_builtin .len #[29] 3 [false] [x0]) w3 fun x19 w4 =>
 m R (o_bin .eql 3 false x1 x19) w4 fun x22 w5 =>
 mif x22 (
 m R (o_builtin .append #[29, 29] 29 [false, false] [x0, x2]) w5 fun x25 w6 =>
 R (.returned x25) w6) (
 m R (o_bin .add 3 false x19 x14) w5 fun x28 w7 =>
 m R (o_builtin .cap #[29] 3 [false] [x0]) w7 fun x30 w8 =>
 m R (o_bin .gtr 3 false x28 x30) w8 fun x31 w9 =>
 mif x31 (
 m R (o_slice 29 x0 none (some x1) none) w9 fun x34 w10 =>
 m R (o_bin .add 3 false x19 x14) w10 fun x37 w11 =>
 m R (o_bin .sub 3 false x37 x1) w11 fun x39 w12 =>
 m R (o_builtin .append #[29, 3] 29 [false, false] [x34, x39]) w12 fun x40 w13 =>
 m R (o_slice 29 x40 (some x1) none none) w13 fun x43 w14 =>
 m R (o_builtin .copy #[29, 29] 3 [false, false] [x43, x2]) w14 fun x45 w15 =>
 dp Tryz.prog (o_bin .add 3 false x1 x14) fun x49 =>
 dp Tryz.prog (o_slice 29 x40 (some x49) none none) fun x50 =>
 dp Tryz.prog (o_slice 29 x0 (some x1) none none) fun x53 =>
 df Tryz.prog w15 (o_builtin .copy #[29, 29] 3 [false, false] [x50, x53]) false fun x54 w16 =>
 dend w16 fun w17 =>
 R (.returned x40) w17) (
 m R (o_bin .add 3 false x19 x14) w9 fun x59 w18 =>
 m R (o_slice 29 x0 none (some x59) none) w18 fun x60 w19 =>
 m R (o_bin .add 3 false x1 x14) w19 fun x65 w20 =>
 m R (o_slice 29 x60 (some x65) none none) w20 fun x66 w21 =>
 m R (o_call (fv 117) [x2, x66]) w21 fun x67 w22 =>
 m R (o_un .not x67) w22 fun x68 w23 =>
 mif x68 (
 dp Tryz.prog (o_bin .add 3 false x1 x14) fun x72 =>
 dp Tryz.prog (o_slice 29 x60 (some x72) none none) fun x73 =>
 dp Tryz.prog (o_slice 29 x60 (some x1) none none) fun x76 =>
 df Tryz.prog w23 (o_builtin .copy #[29, 29] 3 [false, false] [x73, x76]) false fun x77 w24 =>
 dend w24 fun w25 =>
 m R (o_slice 29 x60 (some x1) none none) w25 fun x80 w26 =>
 m R (o_builtin .copy #[29, 29] 3 [false, false] [x80, x2]) w26 fun x82 w27 =>
 R (.returned x60) w27) (
 m R (o_slice 29 x60 (some x19) none none) w23 fun x86 w28 =>
 m R (o_builtin .copy #[29, 29] 3 [false, false] [x86, x2]) w28 fun x88 w29 =>
 m R (o_slice 29 x60 (some x1) none none) w29 fun x91 w30 =>
 m R (o_call (fv 118) [x91, x14]) w30 fun x93 w31 =>
 R (.returned x60) w31))))
def A_slices_Insert_int_int : Ann := ⟨[], [], [(11, [⟨0, .q none, 512, 0, 70368744177664⟩, ⟨1, .q none, 2, 0, 140737488355328⟩, ⟨2, .q none, 128, 0, 281474976710656⟩, ⟨3, .q none, 422212465065984, 6, 562949953421312⟩, ⟨4, .q none, 633318697598976, 15, 1125899906842624⟩, ⟨5, .q none, 1, 0, 2251799813685248⟩, ⟨6, .q none, 2, 0, 4503599627370496⟩, ⟨7, .q none, 6755399441055744, 96, 9007199254740992⟩, ⟨8, .f 0 false, 10133099161583616, 255, 18014398509481984⟩]), (15, [⟨0, .q none, 1, 0, 590295810358705651712⟩, ⟨1, .q none, 2, 0, 1180591620717411303424⟩, ⟨2, .q none, 128, 0, 2361183241434822606848⟩, ⟨3, .q none, 3541774862152233910272, 6, 4722366482869645213696⟩, ⟨4, .q none, 5312662293228350865408, 15, 9444732965739290427392⟩, ⟨5, .q none, 1, 0, 18889465931478580854784⟩, ⟨6, .q none, 2, 0, 37778931862957161709568⟩, ⟨7, .q none, 56668397794435742564352, 96, 75557863725914323419136⟩, ⟨8, .f 0 false, 85002596691653613846528, 255, 151115727451828646838272⟩])], [], []⟩
theorem E_slices_Insert_int_int (x0 x1 x2 : Value) (w : World) (R : Ending → World → Prop) : cwp Tryz.prog A_slices_Insert_int_int (Tryz.f76.body.getD .skip) (retPost Tryz.prog Tryz.f76.results.toList R) (argE [x0, x1, x2]) w = F_slices_Insert_int_int x0 x1 x2 w R := by kernel_rfl
theorem C_slices_Insert_int_int {x0 x1 x2 : Value} {w : World} {R : Ending → World → Prop} (h : F_slices_Insert_int_int x0 x1 x2 w R) : Calls Tryz.prog 76 #[x0, x1, x2] w R :=
 calls_cwp (A := A_slices_Insert_int_int) (args := [x0, x1, x2]) mixed Tryz.func76 (c := Tryz.f76.body.getD .skip) (by kernel_rfl) (by kernel_rfl) (by kernel_rfl) ((E_slices_Insert_int_int x0 x1 x2 w R).mpr h)
def F_tree_none (x0 x1 : Value) (w : World) (R : Ending → World → Prop) : Prop :=
 m R (o_box 25 x0) w fun x2 w1 =>
 m R (o_bin .lss 3 true x1 (.int .i64 0)) w1 fun x6 w2 =>
 mguard x6 false (fun k => m R (o_move x1) w2 k) w2 fun x8 w3 =>
 mguard x6 false (fun k => m R (o_fieldAddr 25 x2 0) w3 k) w3 fun x9 w4 =>
 mguard x6 false (fun k => m R (o_load 22 x9) w4 k) w4 fun x10 w5 =>
 mguard x6 false (fun k => m R (o_builtin .len #[22] 3 [false] [x10]) w5 k) w5 fun x11 w6 =>
 mguard x6 false (fun k => m R (o_bin .geq 3 false x8 x11) w6 k) w6 fun x12 w7 =>
 m R (o_pick x6 (.bool true) x12) w7 fun x13 w8 =>
 mguard x13 false (fun k => m R (o_fieldAddr 25 x2 0) w8 k) w8 fun x15 w9 =>
 mguard x13 false (fun k => m R (o_load 22 x15) w9 k) w9 fun x16 w10 =>
 mguard x13 false (fun k => m R (o_move x1) w10 k) w10 fun x17 w11 =>
 mguard x13 false (fun k => m R (o_indexAddr 22 x16 x17) w11 k) w11 fun x18 w12 =>
 mguard x13 false (fun k => m R (o_fieldAddr 57 x18 0) w12 k) w12 fun x19 w13 =>
 mguard x13 false (fun k => m R (o_load 3 x19) w13 k) w13 fun x20 w14 =>
 mguard x13 false (fun k => m R (o_bin .eql 3 true x20 (.int .i64 0)) w14 k) w14 fun x21 w15 =>
 m R (o_pick x13 (.bool true) x21) w15 fun x22 w16 =>
 R (.returned x22) w16
def A_tree_none : Ann := ⟨[], [], [], [], []⟩
theorem E_tree_none (x0 x1 : Value) (w : World) (R : Ending → World → Prop) : cwp Tryz.prog A_tree_none (Tryz.f77.body.getD .skip) (retPost Tryz.prog Tryz.f77.results.toList R) (argE [x0, x1]) w = F_tree_none x0 x1 w R := by kernel_rfl
theorem C_tree_none {x0 x1 : Value} {w : World} {R : Ending → World → Prop} (h : F_tree_none x0 x1 w R) : Calls Tryz.prog 77 #[x0, x1] w R :=
 calls_cwp (A := A_tree_none) (args := [x0, x1]) mixed Tryz.func77 (c := Tryz.f77.body.getD .skip) (by kernel_rfl) (by kernel_rfl) (by kernel_rfl) ((E_tree_none x0 x1 w R).mpr h)
def F_tree_blank (x0 x1 : Value) (w : World) (R : Ending → World → Prop) : Prop :=
 m R (o_box 25 x0) w fun x2 w1 =>
 m R (o_fieldAddr 25 x2 0) w1 fun x6 w2 =>
 m R (o_load 22 x6) w2 fun x7 w3 =>
 m R (o_builtin .len #[22] 3 [false] [x7]) w3 fun x8 w4 =>
 m R (o_call (fv 74) [x8, x1]) w4 fun x10 w5 =>
 m R (o_builtin .len #[29] 3 [false] [x10]) w5 fun x11 w6 =>
 ml1 (.int .i64 0) w6 fun x12 u2 w7 next2 =>
 m R (o_bin .lss 3 false x12 x11) w7 fun x13 w8 =>
 mif x13 (
 m R (o_indexAddr 29 x10 x12) w8 fun x14 w9 =>
 m R (o_load 3 x14) w9 fun x15 w10 =>
 m R (o_fieldAddr 25 x2 1) w10 fun x16 w11 =>
 m R (o_load 23 x16) w11 fun x17 w12 =>
 m R (o_bin .quo 3 true x15 (.int .i64 2)) w12 fun x19 w13 =>
 m R (o_build 61 []) w13 fun x20 w14 =>
 m R (o_indexAddr 23 x17 x19) w14 fun x21 w15 =>
 m R (o_store 61 x21 x20) w15 fun _ w16 =>
 m R (o_bin .add 3 true x12 (.int .i64 1)) w16 fun x22 w17 =>
 next2 x22 w17) (
 R (.returned (.tuple #[])) w8)
def A_tree_blank : Ann := ⟨[(2, [12], 8384544)], [], [], [], []⟩
theorem E_tree_blank (x0 x1 : Value) (w : World) (R : Ending → World → Prop) : cwp Tryz.prog A_tree_blank (Tryz.f78.body.getD .skip) (retPost Tryz.prog Tryz.f78.results.toList R) (argE [x0, x1]) w = F_tree_blank x0 x1 w R := by kernel_rfl
theorem C_tree_blank {x0 x1 : Value} {w : World} {R : Ending → World → Prop} (h : F_tree_blank x0 x1 w R) : Calls Tryz.prog 78 #[x0, x1] w R :=
 calls_cwp (A := A_tree_blank) (args := [x0, x1]) mixed Tryz.func78 (c := Tryz.f78.body.getD .skip) (by kernel_rfl) (by kernel_rfl) (by kernel_rfl) ((E_tree_blank x0 x1 w R).mpr h)
def F_bevyref07_Leaves (x0 x1 : Value) (w : World) (R : Ending → World → Prop) : Prop :=
 m R (o_call (fv 90) [x0, x1]) w fun x12 w1 =>
 m R (o_un .not x12) w1 fun x13 w2 =>
 mif x13 (
 R (.returned (.tuple #[(.int .i64 0), (.int .i64 0)])) w2) (
 m R (o_call (fv 95) [(.int .i64 0), x0, x1, (.int .i64 (-1)), (.int .i64 (-1))]) w2 fun x17 w3 =>
 m R (o_extract x17 0) w3 fun x18 w4 =>
 m R (o_extract x17 1) w4 fun x19 w5 =>
 m R (o_extract x17 2) w5 fun x20 w6 =>
 m R (o_extract x17 3) w6 fun x21 w7 =>
 m R (o_bin .add 3 false x18 x19) w7 fun x25 w8 =>
 R (.returned (.tuple #[x18, x25])) w8)
def A_bevyref07_Leaves : Ann := ⟨[], [], [], [], []⟩
theorem E_bevyref07_Leaves (x0 x1 : Value) (w : World) (R : Ending → World → Prop) : cwp Tryz.prog A_bevyref07_Leaves (Tryz.f79.body.getD .skip) (retPost Tryz.prog Tryz.f79.results.toList R) (argE [x0, x1]) w = F_bevyref07_Leaves x0 x1 w R := by kernel_rfl
theorem C_bevyref07_Leaves {x0 x1 : Value} {w : World} {R : Ending → World → Prop} (h : F_bevyref07_Leaves x0 x1 w R) : Calls Tryz.prog 79 #[x0, x1] w R :=
 calls_cwp (A := A_bevyref07_Leaves) (args := [x0, x1]) mixed Tryz.func79 (c := Tryz.f79.body.getD .skip) (by kernel_rfl) (by kernel_rfl) (by kernel_rfl) ((E_bevyref07_Leaves x0 x1 w R).mpr h)
def F_bough_Leaves (x0 x1 : Value) (w : World) (R : Ending → World → Prop) : Prop :=
 m R (o_call (fv 83) [x0, x1]) w fun x9 w1 =>
 m R (o_un .not x9) w1 fun x10 w2 =>
 mif x10 (
 R (.returned (.tuple #[(.int .i64 0), (.int .i64 0)])) w2) (
 m R (o_call (fv 84) [x1]) w2 fun x12 w3 =>
 m R (o_bin .shl 3 true (.int .i64 1) x12) w3 fun x13 w4 =>
 m R (o_bin .add 3 true x1 (.int .i64 1)) w4 fun x15 w5 =>
 m R (o_bin .sub 3 false x15 x13) w5 fun x17 w6 =>
 m R (o_bin .quo 3 true x17 (.int .i64 2)) w6 fun x18 w7 =>
 m R (o_bin .add 3 true x1 (.int .i64 1)) w7 fun x20 w8 =>
 m R (o_bin .add 3 false x20 x13) w8 fun x22 w9 =>
 m R (o_bin .quo 3 true x22 (.int .i64 2)) w9 fun x23 w10 =>
 m R (o_builtin .min #[3, 3] 3 [false, false] [x23, x0]) w10 fun x25 w11 =>
 R (.returned (.tuple #[x18, x25])) w11)
def A_bough_Leaves : Ann := ⟨[], [], [], [], []⟩
theorem E_bough_Leaves (x0 x1 : Value) (w : World) (R : Ending → World → Prop) : cwp Tryz.prog A_bough_Leaves (Tryz.f80.body.getD .skip) (retPost Tryz.prog Tryz.f80.results.toList R) (argE [x0, x1]) w = F_bough_Leaves x0 x1 w R := by kernel_rfl
theorem C_bough_Leaves {x0 x1 : Value} {w : World} {R : Ending → World → Prop} (h : F_bough_Leaves x0 x1 w R) : Calls Tryz.prog 80 #[x0, x1] w R :=
 calls_cwp (A := A_bough_Leaves) (args := [x0, x1]) mixed Tryz.func80 (c := Tryz.f80.body.getD .skip) (by kernel_rfl) (by kernel_rfl) (by kernel_rfl) ((E_bough_Leaves x0 x1 w R).mpr h)
def F_bough_there (x0 x1 : Value) (w : World) (R : Ending → World → Prop) : Prop :=
 m R (o_bin .geq 3 true x0 (.int .i64 1)) w fun x6 w1 =>
 mguard x6 true (fun k => m R (o_move x0) w1 k) w1 fun x8 w2 =>
 mguard x6 true (fun k => m R (o_bin .leq 3 true x8 (.int .i64 64)) w2 k) w2 fun x9 w3 =>
 m R (o_pick x6 x9 (.bool false)) w3 fun x10 w4 =>
 mguard x10 true (fun k => m R (o_move x1) w4 k) w4 fun x12 w5 =>
 mguard x10 true (fun k => m R (o_bin .geq 3 true x12 (.int .i64 0)) w5 k) w5 fun x13 w6 =>
 m R (o_pick x10 x13 (.bool false)) w6 fun x14 w7 =>
 mguard x14 true (fun k => m R (o_move x1) w7 k) w7 fun x16 w8 =>
 mguard x14 true (fun k => m R (o_move x0) w8 k) w8 fun x17 w9 =>
 mguard x14 true (fun k => m R (o_bin .mul 3 true (.int .i64 2) x17) w9 k) w9 fun x18 w10 =>
 mguard x14 true (fun k => m R (o_bin .sub 3 true x18 (.int .i64 2)) w10 k) w10 fun x19 w11 =>
 mguard x14 true (fun k => m R (o_bin .leq 3 false x16 x19) w11 k) w11 fun x20 w12 =>
 m R (o_pick x14 x20 (.bool false)) w12 fun x21 w13 =>
 R (.returned x21) w13
def A_bough_there : Ann := ⟨[], [], [], [], []⟩
theorem E_bough_there (x0 x1 : Value) (w : World) (R : Ending → World → Prop) : cwp Tryz.prog A_bough_there (Tryz.f83.body.getD .skip) (retPost Tryz.prog Tryz.f83.results.toList R) (argE [x0, x1]) w = F_bough_there x0 x1 w R := by kernel_rfl
theorem C_bough_there {x0 x1 : Value} {w : World} {R : Ending → World → Prop} (h : F_bough_there x0 x1 w R) : Calls Tryz.prog 83 #[x0, x1] w R :=
 calls_cwp (A := A_bough_there) (args := [x0, x1]) mixed Tryz.func83 (c := Tryz.f83.body.getD .skip) (by kernel_rfl) (by kernel_rfl) (by kernel_rfl) ((E_bough_there x0 x1 w R).mpr h)
def F_bough_level (x0 : Value) (w : World) (R : Ending → World → Prop) : Prop :=
 ml2 x0 (.int .i64 0) w fun x0 x3 u2 w1 next2 =>
 m R (o_bin .and 3 true x0 (.int .i64 1)) w1 fun x5 w2 =>
 m R (o_bin .eql 3 true x5 (.int .i64 1)) w2 fun x6 w3 =>
 mif x6 (
 m R (o_bin .shr 3 true x0 (.int .u64 1)) w3 fun x8 w4 =>
 m R (o_bin .add 3 true x3 (.int .i64 1)) w4 fun x10 w5 =>
 next2 x8 x10 w5) (
 R (.returned x3) w3)
def A_bough_level : Ann := ⟨[(2, [0, 3], 2041)], [], [], [], []⟩
theorem E_bough_level (x0 : Value) (w : World) (R : Ending → World → Prop) : cwp Tryz.prog A_bough_level (Tryz.f84.body.getD .skip) (retPost Tryz.prog Tryz.f84.results.toList R) (argE [x0]) w = F_bough_level x0 w R := by kernel_rfl
theorem C_bough_level {x0 : Value} {w : World} {R : Ending → World → Prop} (h : F_bough_level x0 w R) : Calls Tryz.prog 84 #[x0] w R :=
 calls_cwp (A := A_bough_level) (args := [x0]) mixed Tryz.func84 (c := Tryz.f84.body.getD .skip) (by kernel_rfl) (by kernel_rfl) (by kernel_rfl) ((E_bough_level x0 w R).mpr h)
def F_sha_rounds (w : World) (R : Ending → World → Prop) : Prop :=
 m R (o_alloc 127) w fun x0 w1 =>
 m R (o_build 127 [(0, (.int .u32 1116352408)), (1, (.int .u32 1899447441)), (2, (.int .u32 3049323471)), (3, (.int .u32 3921009573)), (4, (.int .u32 961987163)), (5, (.int .u32 1508970993)), (6, (.int .u32 2453635748)), (7, (.int .u32 2870763221)), (8, (.int .u32 3624381080)), (9, (.int .u32 310598401)), (10, (.int .u32 607225278)), (11, (.int .u32 1426881987)), (12, (.int .u32 1925078388)), (13, (.int .u32 2162078206)), (14, (.int .u32 2614888103)), (15, (.int .u32 3248222580)), (16, (.int .u32 3835390401)), (17, (.int .u32 4022224774)), (18, (.int .u32 264347078)), (19, (.int .u32 604807628)), (20, (.int .u32 770255983)), (21, (.int .u32 1249150122)), (22, (.int .u32 1555081692)), (23, (.int .u32 1996064986)), (24, (.int .u32 2554220882)), (25, (.int .u32 2821834349)), (26, (.int .u32 2952996808)), (27, (.int .u32 3210313671)), (28, (.int .u32 3336571891)), (29, (.int .u32 3584528711)), (30, (.int .u32 113926993)), (31, (.int .u32 338241895)), (32, (.int .u32 666307205)), (33, (.int .u32 773529912)), (34, (.int .u32 1294757372)), (35, (.int .u32 1396182291)), (36, (.int .u32 1695183700)), (37, (.int .u32 1986661051)), (38, (.int .u32 2177026350)), (39, (.int .u32 2456956037)), (40, (.int .u32 2730485921)), (41, (.int .u32 2820302411)), (42, (.int .u32 3259730800)), (43, (.int .u32 3345764771)), (44, (.int .u32 3516065817)), (45, (.int .u32 3600352804)), (46, (.int .u32 4094571909)), (47, (.int .u32 275423344)), (48, (.int .u32 430227734)), (49, (.int .u32 506948616)), (50, (.int .u32 659060556)), (51, (.int .u32 883997877)), (52, (.int .u32 958139571)), (53, (.int .u32 1322822218)), (54, (.int .u32 1537002063)), (55, (.int .u32 1747873779)), (56, (.int .u32 1955562222)), (57, (.int .u32 2024104815)), (58, (.int .u32 2227730452)), (59, (.int .u32 2361852424)), (60, (.int .u32 2428436474)), (61, (.int .u32 2756734187)), (62, (.int .u32 3204031479)), (63, (.int .u32 3329325298))]) w1 fun x1 w2 =>
 m R (o_store 127 x0 x1) w2 fun _ w3 =>
 rcell Tryz.prog 127 x0 w3 fun r0 =>
 R (.returned r0) w3
def A_sha_rounds : Ann := ⟨[], [], [], [], []⟩
theorem E_sha_rounds (w : World) (R : Ending → World → Prop) : cwp Tryz.prog A_sha_rounds (Tryz.f85.body.getD .skip) (retPost Tryz.prog Tryz.f85.results.toList R) (argE []) w = F_sha_rounds w R := by kernel_rfl
theorem C_sha_rounds {w : World} {R : Ending → World → Prop} (h : F_sha_rounds w R) : Calls Tryz.prog 85 #[] w R :=
 calls_cwp (A := A_sha_rounds) (args := []) mixed Tryz.func85 (c := Tryz.f85.body.getD .skip) (by kernel_rfl) (by kernel_rfl) (by kernel_rfl) ((E_sha_rounds w R).mpr h)
def F_sha_state_put (x0 x1 : Value) (w : World) (R : Ending → World → Prop) : Prop :=
 ml1 x1 w fun x1 u0 w1 next0 =>
 m R (o_builtin .len #[9] 3 [false] [x1]) w1 fun x6 w2 =>
 m R (o_bin .gtr 3 true x6 (.int .i64 0)) w2 fun x7 w3 =>
 mif x7 (
 dp Tryz.prog (o_nilCheck x0) fun x9 =>
 dp Tryz.prog (o_fieldAddr 131 x9 1) fun x10 =>
 dp Tryz.prog (o_nilCheck x0) fun x12 =>
 dp Tryz.prog (o_fieldAddr 131 x12 2) fun x13 =>
 dq Tryz.prog w3 (o_load 3 x13) fun x14 =>
 dp Tryz.prog (o_bin .rem 3 true x14 (.int .i64 64)) fun x15 =>
 dp Tryz.prog (o_slice 129 x10 (some x15) none none) fun x16 =>
 df Tryz.prog w3 (o_builtin .copy #[135, 9] 3 [false, false] [x16, x1]) false fun x18 w4 =>
 dend w4 fun w5 =>
 m R (o_slice 9 x1 (some x18) none none) w5 fun x21 w6 =>
 m R (o_nilCheck x0) w6 fun x23 w7 =>
 m R (o_fieldAddr 131 x23 2) w7 fun x24 w8 =>
 m R (o_load 3 x24) w8 fun x25 w9 =>
 m R (o_bin .add 3 false x25 x18) w9 fun x27 w10 =>
 m R (o_nilCheck x0) w10 fun x28 w11 =>
 m R (o_fieldAddr 131 x28 2) w11 fun x29 w12 =>
 m R (o_store 3 x29 x27) w12 fun _ w13 =>
 m R (o_nilCheck x0) w13 fun x31 w14 =>
 m R (o_fieldAddr 131 x31 2) w14 fun x32 w15 =>
 m R (o_load 3 x32) w15 fun x33 w16 =>
 m R (o_bin .rem 3 true x33 (.int .i64 64)) w16 fun x34 w17 =>
 m R (o_bin .eql 3 true x34 (.int .i64 0)) w17 fun x35 w18 =>
 mif x35 (
 m R (o_call (fv 129) [x0]) w18 fun x37 w19 =>
 next0 x21 w19) (
 next0 x21 w18)) (
 R (.returned (.tuple #[])) w3)
def A_sha_state_put : Ann := ⟨[(0, [1], 274877906930)], [], [(1, [⟨0, .q none, 1, 0, 256⟩, ⟨1, .q none, 256, 1, 512⟩, ⟨2, .q none, 512, 3, 1024⟩, ⟨3, .q none, 1, 0, 2048⟩, ⟨4, .q none, 2048, 8, 4096⟩, ⟨5, .q none, 4096, 24, 8192⟩, ⟨6, .q (some 0), 8192, 56, 16384⟩, ⟨7, .q none, 16384, 120, 32768⟩, ⟨8, .q none, 33792, 255, 65536⟩, ⟨9, .q none, 2, 0, 131072⟩, ⟨10, .f 0 false, 196608, 1023, 262144⟩, ⟨11, .q none, 262144, 2047, 16⟩])], [], []⟩
theorem E_sha_state_put (x0 x1 : Value) (w : World) (R : Ending → World → Prop) : cwp Tryz.prog A_sha_state_put (Tryz.f86.body.getD .skip) (retPost Tryz.prog Tryz.f86.results.toList R) (argE [x0, x1]) w = F_sha_state_put x0 x1 w R := by kernel_rfl
theorem C_sha_state_put {x0 x1 : Value} {w : World} {R : Ending → World → Prop} (h : F_sha_state_put x0 x1 w R) : Calls Tryz.prog 86 #[x0, x1] w R :=
 calls_cwp (A := A_sha_state_put) (args := [x0, x1]) mixed Tryz.func86 (c := Tryz.f86.body.getD .skip) (by kernel_rfl) (by kernel_rfl) (by kernel_rfl) ((E_sha_state_put x0 x1 w R).mpr h)
def F_wire_Writer_Hash (x0 x1 : Value) (w : World) (R : Ending → World → Prop) : Prop :=
 m R (o_box 33 x1) w fun x3 w1 =>
 m R (o_bin .neq 74 true x0 (.pointer none)) w1 fun x5 w2 =>
 mif x5 (
 dp Tryz.prog (o_nilCheck x0) fun x8 =>
 dp Tryz.prog (o_fieldAddr 140 x8 0) fun x9 =>
 dq Tryz.prog w2 (o_load 135 x9) fun x10 =>
 dp Tryz.prog (o_slice 33 x3 none none none) fun x11 =>
 df Tryz.prog w2 (o_builtin .append #[135, 135] 135 [false, false] [x10, x11]) false fun x12 w3 =>
 dp Tryz.prog (o_nilCheck x0) fun x13 =>
 dp Tryz.prog (o_fieldAddr 140 x13 0) fun x14 =>
 df Tryz.prog w3 (o_store 135 x14 x12) false fun _ w4 =>
 dend w4 fun w5 =>
 R (.returned (.tuple #[])) w5) (
 R (.returned (.tuple #[])) w2)
def A_wire_Writer_Hash : Ann := ⟨[], [], [(2, [⟨0, .q none, 1, 0, 64⟩, ⟨1, .q none, 1, 0, 128⟩, ⟨2, .q none, 128, 2, 256⟩, ⟨3, .q none, 256, 6, 512⟩, ⟨4, .q (some 0), 512, 14, 1024⟩, ⟨5, .q none, 8, 0, 2048⟩, ⟨6, .f 0 false, 3072, 62, 4096⟩, ⟨7, .q none, 64, 127, 8192⟩, ⟨8, .q none, 8192, 255, 16384⟩, ⟨9, .f 1 false, 20480, 511, 0⟩])], [], []⟩
theorem E_wire_Writer_Hash (x0 x1 : Value) (w : World) (R : Ending → World → Prop) : cwp Tryz.prog A_wire_Writer_Hash (Tryz.f87.body.getD .skip) (retPost Tryz.prog Tryz.f87.results.toList R) (argE [x0, x1]) w = F_wire_Writer_Hash x0 x1 w R := by kernel_rfl
theorem C_wire_Writer_Hash {x0 x1 : Value} {w : World} {R : Ending → World → Prop} (h : F_wire_Writer_Hash x0 x1 w R) : Calls Tryz.prog 87 #[x0, x1] w R :=
 calls_cwp (A := A_wire_Writer_Hash) (args := [x0, x1]) mixed Tryz.func87 (c := Tryz.f87.body.getD .skip) (by kernel_rfl) (by kernel_rfl) (by kernel_rfl) ((E_wire_Writer_Hash x0 x1 w R).mpr h)
def F_bevyref02_word (x0 x1 : Value) (w : World) (R : Ending → World → Prop) : Prop :=
 dp Tryz.prog (o_indexAddr 135 x0 x1) fun x7 =>
 dq Tryz.prog w (o_load 5 x7) fun x8 =>
 dp Tryz.prog (o_conv 5 125 x8) fun x9 =>
 dp Tryz.prog (o_bin .shl 125 true x9 (.int .u64 24)) fun x10 =>
 dp Tryz.prog (o_bin .add 3 true x1 (.int .i64 1)) fun x13 =>
 dp Tryz.prog (o_indexAddr 135 x0 x13) fun x14 =>
 dq Tryz.prog w (o_load 5 x14) fun x15 =>
 dp Tryz.prog (o_conv 5 125 x15) fun x16 =>
 dp Tryz.prog (o_bin .shl 125 true x16 (.int .u64 16)) fun x17 =>
 dp Tryz.prog (o_bin .or 125 false x10 x17) fun x18 =>
 dp Tryz.prog (o_bin .add 3 true x1 (.int .i64 2)) fun x21 =>
 dp Tryz.prog (o_indexAddr 135 x0 x21) fun x22 =>
 dq Tryz.prog w (o_load 5 x22) fun x23 =>
 dp Tryz.prog (o_conv 5 125 x23) fun x24 =>
 dp Tryz.prog (o_bin .shl 125 true x24 (.int .u64 8)) fun x25 =>
 dp Tryz.prog (o_bin .or 125 false x18 x25) fun x26 =>
 dp Tryz.prog (o_bin .add 3 true x1 (.int .i64 3)) fun x29 =>
 dp Tryz.prog (o_indexAddr 135 x0 x29) fun x30 =>
 dq Tryz.prog w (o_load 5 x30) fun x31 =>
 dp Tryz.prog (o_conv 5 125 x31) fun x32 =>
 dp Tryz.prog (o_bin .or 125 false x26 x32) fun x33 =>
 dend w fun w1 =>
 R (.returned x33) w1
def A_bevyref02_word : Ann := ⟨[], [], [(1, [⟨0, .q none, 1, 0, 32⟩, ⟨1, .q none, 2, 0, 64⟩, ⟨2, .q none, 96, 3, 128⟩, ⟨3, .q (some 0), 128, 7, 256⟩, ⟨4, .q none, 256, 15, 512⟩, ⟨5, .q none, 512, 31, 1024⟩, ⟨6, .q none, 1, 0, 2048⟩, ⟨7, .q none, 2, 0, 4096⟩, ⟨8, .q none, 4096, 128, 8192⟩, ⟨9, .q none, 10240, 448, 16384⟩, ⟨10, .q (some 0), 16384, 960, 32768⟩, ⟨11, .q none, 32768, 1984, 65536⟩, ⟨12, .q none, 65536, 4032, 131072⟩, ⟨13, .q none, 132096, 8191, 262144⟩, ⟨14, .q none, 1, 0, 524288⟩, ⟨15, .q none, 2, 0, 1048576⟩, ⟨16, .q none, 1048576, 32768, 2097152⟩, ⟨17, .q none, 2621440, 114688, 4194304⟩, ⟨18, .q (some 0), 4194304, 245760, 8388608⟩, ⟨19, .q none, 8388608, 507904, 16777216⟩, ⟨20, .q none, 16777216, 1032192, 33554432⟩, ⟨21, .q none, 33816576, 2097151, 67108864⟩, ⟨22, .q none, 1, 0, 134217728⟩, ⟨23, .q none, 2, 0, 268435456⟩, ⟨24, .q none, 268435456, 8388608, 536870912⟩, ⟨25, .q none, 671088640, 29360128, 1073741824⟩, ⟨26, .q (some 0), 1073741824, 62914560, 2147483648⟩, ⟨27, .q none, 2147483648, 130023424, 4294967296⟩, ⟨28, .q none, 4362076160, 268435455, 8589934592⟩, ⟨29, .q none, 8589934592, 536870911, 16⟩])], [], []⟩
theorem E_bevyref02_word (x0 x1 : Value) (w : World) (R : Ending → World → Prop) : cwp Tryz.prog A_bevyref02_word (Tryz.f88.body.getD .skip) (retPost Tryz.prog Tryz.f88.results.toList R) (argE [x0, x1]) w = F_bevyref02_word x0 x1 w R := by kernel_rfl
theorem C_bevyref02_word {x0 x1 : Value} {w : World} {R : Ending → World → Prop} (h : F_bevyref02_word x0 x1 w R) : Calls Tryz.prog 88 #[x0, x1] w R :=
 calls_cwp (A := A_bevyref02_word) (args := [x0, x1]) mixed Tryz.func88 (c := Tryz.f88.body.getD .skip) (by kernel_rfl) (by kernel_rfl) (by kernel_rfl) ((E_bevyref02_word x0 x1 w R).mpr h)
def F_bevyref02_turned (x0 x1 : Value) (w : World) (R : Ending → World → Prop) : Prop :=
 m R (o_bin .shr 125 false x0 x1) w fun x7 w1 =>
 m R (o_bin .sub 121 true (.int .u64 32) x1) w1 fun x10 w2 =>
 m R (o_bin .shl 125 false x0 x10) w2 fun x11 w3 =>
 m R (o_bin .or 125 false x7 x11) w3 fun x12 w4 =>
 R (.returned x12) w4
def A_bevyref02_turned : Ann := ⟨[], [], [], [], []⟩
theorem E_bevyref02_turned (x0 x1 : Value) (w : World) (R : Ending → World → Prop) : cwp Tryz.prog A_bevyref02_turned (Tryz.f89.body.getD .skip) (retPost Tryz.prog Tryz.f89.results.toList R) (argE [x0, x1]) w = F_bevyref02_turned x0 x1 w R := by kernel_rfl
theorem C_bevyref02_turned {x0 x1 : Value} {w : World} {R : Ending → World → Prop} (h : F_bevyref02_turned x0 x1 w R) : Calls Tryz.prog 89 #[x0, x1] w R :=
 calls_cwp (A := A_bevyref02_turned) (args := [x0, x1]) mixed Tryz.func89 (c := Tryz.f89.body.getD .skip) (by kernel_rfl) (by kernel_rfl) (by kernel_rfl) ((E_bevyref02_turned x0 x1 w R).mpr h)
def F_bevyref07_There (x0 x1 : Value) (w : World) (R : Ending → World → Prop) : Prop :=
 m R (o_bin .geq 3 true x0 (.int .i64 1)) w fun x6 w1 =>
 mguard x6 true (fun k => m R (o_move x0) w1 k) w1 fun x8 w2 =>
 mguard x6 true (fun k => m R (o_bin .leq 3 true x8 (.int .i64 64)) w2 k) w2 fun x9 w3 =>
 m R (o_pick x6 x9 (.bool false)) w3 fun x10 w4 =>
 mguard x10 true (fun k => m R (o_move x1) w4 k) w4 fun x12 w5 =>
 mguard x10 true (fun k => m R (o_bin .geq 3 true x12 (.int .i64 0)) w5 k) w5 fun x13 w6 =>
 m R (o_pick x10 x13 (.bool false)) w6 fun x14 w7 =>
 mguard x14 true (fun k => m R (o_move x1) w7 k) w7 fun x16 w8 =>
 mguard x14 true (fun k => m R (o_move x0) w8 k) w8 fun x17 w9 =>
 mguard x14 true (fun k => m R (o_bin .mul 3 true (.int .i64 2) x17) w9 k) w9 fun x18 w10 =>
 mguard x14 true (fun k => m R (o_bin .sub 3 true x18 (.int .i64 2)) w10 k) w10 fun x19 w11 =>
 mguard x14 true (fun k => m R (o_bin .leq 3 false x16 x19) w11 k) w11 fun x20 w12 =>
 m R (o_pick x14 x20 (.bool false)) w12 fun x21 w13 =>
 R (.returned x21) w13
def A_bevyref07_There : Ann := ⟨[], [], [], [], []⟩
theorem E_bevyref07_There (x0 x1 : Value) (w : World) (R : Ending → World → Prop) : cwp Tryz.prog A_bevyref07_There (Tryz.f90.body.getD .skip) (retPost Tryz.prog Tryz.f90.results.toList R) (argE [x0, x1]) w = F_bevyref07_There x0 x1 w R := by kernel_rfl
theorem C_bevyref07_There {x0 x1 : Value} {w : World} {R : Ending → World → Prop} (h : F_bevyref07_There x0 x1 w R) : Calls Tryz.prog 90 #[x0, x1] w R :=
 calls_cwp (A := A_bevyref07_There) (args := [x0, x1]) mixed Tryz.func90 (c := Tryz.f90.body.getD .skip) (by kernel_rfl) (by kernel_rfl) (by kernel_rfl) ((E_bevyref07_There x0 x1 w R).mpr h)
def F_bevyref07_root (x0 x1 : Value) (w : World) (R : Ending → World → Prop) : Prop :=
 m R (o_bin .eql 3 true x1 (.int .i64 1)) w fun x6 w1 =>
 mif x6 (
 m R (o_bin .mul 3 true (.int .i64 2) x0) w1 fun x8 w2 =>
 R (.returned x8) w2) (
 m R (o_call (fv 96) [x1]) w1 fun x11 w3 =>
 m R (o_bin .add 3 false x0 x11) w3 fun x12 w4 =>
 m R (o_bin .mul 3 true (.int .i64 2) x12) w4 fun x13 w5 =>
 m R (o_bin .sub 3 true x13 (.int .i64 1)) w5 fun x14 w6 =>
 R (.returned x14) w6)
def A_bevyref07_root : Ann := ⟨[], [], [], [], []⟩
theorem E_bevyref07_root (x0 x1 : Value) (w : World) (R : Ending → World → Prop) : cwp Tryz.prog A_bevyref07_root (Tryz.f91.body.getD .skip) (retPost Tryz.prog Tryz.f91.results.toList R) (argE [x0, x1]) w = F_bevyref07_root x0 x1 w R := by kernel_rfl
theorem C_bevyref07_root {x0 x1 : Value} {w : World} {R : Ending → World → Prop} (h : F_bevyref07_root x0 x1 w R) : Calls Tryz.prog 91 #[x0, x1] w R :=
 calls_cwp (A := A_bevyref07_root) (args := [x0, x1]) mixed Tryz.func91 (c := Tryz.f91.body.getD .skip) (by kernel_rfl) (by kernel_rfl) (by kernel_rfl) ((E_bevyref07_root x0 x1 w R).mpr h)
def F_wire_bounds (w : World) (R : Ending → World → Prop) : Prop :=
 m R (o_alloc 141) w fun x0 w1 =>
 m R (o_build 141 [(0, (.int .i64 64)), (1, (.int .i64 16384)), (2, (.int .i64 1073741824)), (3, (.int .i64 4611686018427387903))]) w1 fun x1 w2 =>
 m R (o_store 141 x0 x1) w2 fun _ w3 =>
 rcell Tryz.prog 141 x0 w3 fun r0 =>
 R (.returned r0) w3
def A_wire_bounds : Ann := ⟨[], [], [], [], []⟩
theorem E_wire_bounds (w : World) (R : Ending → World → Prop) : cwp Tryz.prog A_wire_bounds (Tryz.f92.body.getD .skip) (retPost Tryz.prog Tryz.f92.results.toList R) (argE []) w = F_wire_bounds w R := by kernel_rfl
theorem C_wire_bounds {w : World} {R : Ending → World → Prop} (h : F_wire_bounds w R) : Calls Tryz.prog 92 #[] w R :=
 calls_cwp (A := A_wire_bounds) (args := []) mixed Tryz.func92 (c := Tryz.f92.body.getD .skip) (by kernel_rfl) (by kernel_rfl) (by kernel_rfl) ((E_wire_bounds w R).mpr h)
def F_wire_Writer_Flag (x0 x1 : Value) (w : World) (R : Ending → World → Prop) : Prop :=
 m R (o_bin .eql 74 true x0 (.pointer none)) w fun x5 w1 =>
 mif x5 (
 R (.returned (.tuple #[])) w1) (
 mif x1 (
 m R (o_nilCheck x0) w1 fun x9 w2 =>
 m R (o_fieldAddr 140 x9 0) w2 fun x10 w3 =>
 m R (o_load 135 x10) w3 fun x11 w4 =>
 m R (o_buildSlice 135 1 [(0, (.int .u8 1))]) w4 fun x12 w5 =>
 m R (o_builtin .append #[135, 135] 135 [false, false] [x11, x12]) w5 fun x13 w6 =>
 m R (o_nilCheck x0) w6 fun x14 w7 =>
 m R (o_fieldAddr 140 x14 0) w7 fun x15 w8 =>
 m R (o_store 135 x15 x13) w8 fun _ w9 =>
 R (.returned (.tuple #[])) w9) (
 m R (o_nilCheck x0) w1 fun x18 w10 =>
 m R (o_fieldAddr 140 x18 0) w10 fun x19 w11 =>
 m R (o_load 135 x19) w11 fun x20 w12 =>
 m R (o_buildSlice 135 1 [(0, (.int .u8 0))]) w12 fun x21 w13 =>
 m R (o_builtin .append #[135, 135] 135 [false, false] [x20, x21]) w13 fun x22 w14 =>
 m R (o_nilCheck x0) w14 fun x23 w15 =>
 m R (o_fieldAddr 140 x23 0) w15 fun x24 w16 =>
 m R (o_store 135 x24 x22) w16 fun _ w17 =>
 R (.returned (.tuple #[])) w17))
def A_wire_Writer_Flag : Ann := ⟨[], [], [], [], []⟩
theorem E_wire_Writer_Flag (x0 x1 : Value) (w : World) (R : Ending → World → Prop) : cwp Tryz.prog A_wire_Writer_Flag (Tryz.f93.body.getD .skip) (retPost Tryz.prog Tryz.f93.results.toList R) (argE [x0, x1]) w = F_wire_Writer_Flag x0 x1 w R := by kernel_rfl
theorem C_wire_Writer_Flag {x0 x1 : Value} {w : World} {R : Ending → World → Prop} (h : F_wire_Writer_Flag x0 x1 w R) : Calls Tryz.prog 93 #[x0, x1] w R :=
 calls_cwp (A := A_wire_Writer_Flag) (args := [x0, x1]) mixed Tryz.func93 (c := Tryz.f93.body.getD .skip) (by kernel_rfl) (by kernel_rfl) (by kernel_rfl) ((E_wire_Writer_Flag x0 x1 w R).mpr h)
def F_bevyref01_Flag (x0 : Value) (w : World) (R : Ending → World → Prop) : Prop :=
 mif x0 (
 R (.returned (.string (ByteArray.mk #[1]))) w) (
 R (.returned (.string (ByteArray.mk #[0]))) w)
def A_bevyref01_Flag : Ann := ⟨[], [], [], [], []⟩
theorem E_bevyref01_Flag (x0 : Value) (w : World) (R : Ending → World → Prop) : cwp Tryz.prog A_bevyref01_Flag (Tryz.f94.body.getD .skip) (retPost Tryz.prog Tryz.f94.results.toList R) (argE [x0]) w = F_bevyref01_Flag x0 w R := by kernel_rfl
theorem C_bevyref01_Flag {x0 : Value} {w : World} {R : Ending → World → Prop} (h : F_bevyref01_Flag x0 w R) : Calls Tryz.prog 94 #[x0] w R :=
 calls_cwp (A := A_bevyref01_Flag) (args := [x0]) mixed Tryz.func94 (c := Tryz.f94.body.getD .skip) (by kernel_rfl) (by kernel_rfl) (by kernel_rfl) ((E_bevyref01_Flag x0 w R).mpr h)
def F_bevyref07_find (x0 x1 x2 x3 x4 : Value) (w : World) (R : Ending → World → Prop) : Prop :=
 m R (o_call (fv 91) [x0, x1]) w fun x20 w1 =>
 m R (o_bin .eql 3 false x20 x2) w1 fun x23 w2 =>
 mif x23 (
 R (.returned (.tuple #[x0, x1, x3, x4])) w2) (
 m R (o_call (fv 96) [x1]) w2 fun x29 w3 =>
 m R (o_call (fv 91) [x0, x29]) w3 fun x32 w4 =>
 m R (o_bin .add 3 false x0 x29) w4 fun x35 w5 =>
 m R (o_bin .sub 3 false x1 x29) w5 fun x38 w6 =>
 m R (o_call (fv 91) [x35, x38]) w6 fun x39 w7 =>
 m R (o_bin .lss 3 false x2 x20) w7 fun x42 w8 =>
 mif x42 (
 m R (o_call (fv 95) [x0, x29, x2, x20, x39]) w8 fun x48 w9 =>
 m R (o_extract x48 0) w9 fun x49 w10 =>
 m R (o_extract x48 1) w10 fun x50 w11 =>
 m R (o_extract x48 2) w11 fun x51 w12 =>
 m R (o_extract x48 3) w12 fun x52 w13 =>
 R (.returned (.tuple #[x49, x50, x51, x52])) w13) (
 m R (o_bin .add 3 false x0 x29) w8 fun x55 w14 =>
 m R (o_bin .sub 3 false x1 x29) w14 fun x58 w15 =>
 m R (o_call (fv 95) [x55, x58, x2, x20, x32]) w15 fun x62 w16 =>
 m R (o_extract x62 0) w16 fun x63 w17 =>
 m R (o_extract x62 1) w17 fun x64 w18 =>
 m R (o_extract x62 2) w18 fun x65 w19 =>
 m R (o_extract x62 3) w19 fun x66 w20 =>
 R (.returned (.tuple #[x63, x64, x65, x66])) w20))
def A_bevyref07_find : Ann := ⟨[], [], [], [], []⟩
theorem E_bevyref07_find (x0 x1 x2 x3 x4 : Value) (w : World) (R : Ending → World → Prop) : cwp Tryz.prog A_bevyref07_find (Tryz.f95.body.getD .skip) (retPost Tryz.prog Tryz.f95.results.toList R) (argE [x0, x1, x2, x3, x4]) w = F_bevyref07_find x0 x1 x2 x3 x4 w R := by kernel_rfl
theorem C_bevyref07_find {x0 x1 x2 x3 x4 : Value} {w : World} {R : Ending → World → Prop} (h : F_bevyref07_find x0 x1 x2 x3 x4 w R) : Calls Tryz.prog 95 #[x0, x1, x2, x3, x4] w R :=
 calls_cwp (A := A_bevyref07_find) (args := [x0, x1, x2, x3, x4]) mixed Tryz.func95 (c := Tryz.f95.body.getD .skip) (by kernel_rfl) (by kernel_rfl) (by kernel_rfl) ((E_bevyref07_find x0 x1 x2 x3 x4 w R).mpr h)
def F_bevyref07_half (x0 : Value) (w : World) (R : Ending → World → Prop) : Prop :=
 ml1 (.int .i64 1) w fun x3 u2 w1 next2 =>
 m R (o_bin .mul 3 true (.int .i64 2) x3) w1 fun x5 w2 =>
 m R (o_bin .lss 3 false x5 x0) w2 fun x7 w3 =>
 mif x7 (
 m R (o_bin .mul 3 true (.int .i64 2) x3) w3 fun x9 w4 =>
 next2 x9 w4) (
 R (.returned x3) w3)
def A_bevyref07_half : Ann := ⟨[(2, [3], 1016)], [], [], [], []⟩
theorem E_bevyref07_half (x0 : Value) (w : World) (R : Ending → World → Prop) : cwp Tryz.prog A_bevyref07_half (Tryz.f96.body.getD .skip) (retPost Tryz.prog Tryz.f96.results.toList R) (argE [x0]) w = F_bevyref07_half x0 w R := by kernel_rfl
theorem C_bevyref07_half {x0 : Value} {w : World} {R : Ending → World → Prop} (h : F_bevyref07_half x0 w R) : Calls Tryz.prog 96 #[x0] w R :=
 calls_cwp (A := A_bevyref07_half) (args := [x0]) mixed Tryz.func96 (c := Tryz.f96.body.getD .skip) (by kernel_rfl) (by kernel_rfl) (by kernel_rfl) ((E_bevyref07_half x0 w R).mpr h)
end Go.Proofs.YtopcnkejobomaaaGreat
