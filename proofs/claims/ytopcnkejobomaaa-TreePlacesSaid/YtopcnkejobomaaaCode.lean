/- Whole bodies: a plain formula over the values of the slots (cwp) suffices for a call's contract. No program is named here. -/
import Derived.Test.YtopcnkejobomaaaVar
namespace Go.Proofs.Ytopcnkejobomaaa

/-- What a body's formula is laid out by: for each loop (by the first region of its body) and each place where ways meet (by the first region behind it) the slots that are told of and those that are written; for each region that draws the kinds of its operations. -/
structure Ann where
  loop : List (Nat × List Nat × Nat)
  join : List (Nat × List Nat × Nat)
  draw : List (Nat × List DA)
  vars : List (Nat × List Vr)
  /-- Regions whose effects, in any order, may turn blocks that are read. -/
  wide : List Nat := []
def assoc {α : Type} : List (Nat × α) → Nat → Option α
  | [], _ => none
  | (k, x) :: l, i => bif Nat.beq k i then some x else assoc l i
def first : Code → Option Nat
  | .region id _ _ => some id
  | .seq a b => match first a with
    | some i => some i
    | none => first b
  | .cond _ a b => match first a with
    | some i => some i
    | none => first b
  | .block _ c => first c
  | .loop c => first c
  | _ => none
def regW : List Oper → Nat
  | [] => 0
  | o :: l => bitOf o ||| regW l
def writes : Code → Nat
  | .region _ ops _ => regW ops.toList
  | .seq a b => writes a ||| writes b
  | .cond _ a b => writes a ||| writes b
  | .block _ c => writes c
  | .loop c => writes c
  | _ => 0
def VPred (R : Type) : List Nat → Type
  | [] => R
  | _ :: cs => Value → VPred R cs
def vapp {R : Type} : (cs : List Nat) → VPred R cs → Env → R
  | [], I, _ => I
  | c :: cs, I, e => vapp cs (I (e c)) e
def vall : List Nat → (List (Nat × Value) → Prop) → Prop
  | [], k => k []
  | c :: cs, k => ∀ v, vall cs fun l => k ((c, v) :: l)
def look : List (Nat × Value) → Env → Env
  | [], e => e
  | (c, v) :: l, e => fun i => bif Nat.beq i c then v else look l e i
def mask (ms : Nat) (u e : Env) : Env := fun i => bif ms.testBit i then u i else e i
theorem vall_at (e : Env) : ∀ {cs : List Nat} {k : List (Nat × Value) → Prop}, vall cs k → k (cs.map fun c => (c, e c))
  | [], _, h => h
  | c :: cs, _, h => vall_at e (cs := cs) (h (e c))
theorem look_self (e' e : Env) : ∀ cs : List Nat, (∀ s, e s = e' s ∨ True) → look (cs.map fun c => (c, e' c)) e' = e'
  | [], _ => rfl
  | c :: cs, h => by
    funext i
    simp only [List.map_cons, look]
    rw [look_self e' e cs h]
    cases hb : Nat.beq i c with
    | false => rfl
    | true => rw [Nat.eq_of_beq_eq_true hb]; rfl
theorem mask_self {ms : Nat} {e' e : Env} (h : ∀ s, ms.testBit s = false → e' s = e s) : mask ms e' e = e' := by
  funext i
  unfold mask
  cases hb : ms.testBit i with
  | true => rfl
  | false => exact (h i hb).symm

structure mif (v : Value) (a b : Prop) : Prop where
  out : v = .bool true ∧ a ∨ v = .bool false ∧ b
/-- Some set of blocks, or none of them. -/
def wideOr (b : Bool) (G : Rl → Prop) : Prop := bif b then ∃ S : Rl, G S else G (Rl.only fun _ => False)
theorem wideOr_some {b : Bool} {G : Rl → Prop} (h : wideOr b G) : ∃ S, G S := by
  cases b with
  | true => exact h
  | false => exact ⟨_, h⟩
abbrev EPost := Exit → Env → World → Prop
def cwp (P : Program) (A : Ann) : Code → EPost → Env → World → Prop
  | .skip, Q, e, w => Q .normal e w
  | .region id ops draw, Q, e, w =>
    bif draw then
      match assoc A.draw id with
      | some ks => wideOr (A.wide.contains id) fun S => drw P S ops.toList (fun e w => Q .normal e w) ops.toList ks e [w] w
      | none =>
        match assoc A.vars id with
        | some vs => wideOr (A.wide.contains id) fun S => vrAll (fun v => drw P S ops.toList (fun e w => Q .normal e w) ((v.its ops.toList).map (·.o)) ((v.its ops.toList).map (·.a)) e [w] w) vs
        | none => False
    else seqw P ops.toList (fun e w => Q .normal e w) (fun c e w => Q (.panic c) e w) ops.toList e w
  | .seq a b, Q, e, w =>
    match (match first b with
      | some i => assoc A.join i
      | none => none) with
    | none => cwp P A a (fun
      | .normal => fun e w => cwp P A b Q e w
      | ex => Q ex) e w
    | some (cs, ms) => ∃ J : VPred (World → Prop) cs, cwp P A a (fun
      | .normal => fun e w => vapp cs J e w
      | ex => Q ex) e w ∧ vall cs fun l => ∀ (u : Env) (w' : World), vapp cs J (look l (mask ms u e)) w' → cwp P A b Q (look l (mask ms u e)) w'
  | .cond c a b, Q, e, w => mif (ev e c) (cwp P A a Q e w) (cwp P A b Q e w)
  | .block id c, Q, e, w => cwp P A c (fun
    | .exit i => bif Nat.beq i id then Q .normal else Q (.exit i)
    | ex => Q ex) e w
  | .loop c, Q, e, w =>
    match (match first c with
      | some i => assoc A.loop i
      | none => none) with
    | none => False
    | some (cs, ms) => ∃ (I : VPred (World → Prop) cs) (μ : VPred (World → Nat) cs), vapp cs I e w ∧ vall cs fun l => ∀ (u : Env) (w' : World), vapp cs I (look l (mask ms u e)) w' →
        cwp P A c (fun
          | .normal => fun e2 w2 => vapp cs I e2 w2 ∧ vapp cs μ e2 w2 < vapp cs μ (look l (mask ms u e)) w'
          | ex => Q ex) (look l (mask ms u e)) w'
  | .exit id, Q, e, w => Q (.exit id) e w
  | .ret, Q, e, w => Q .ret e w
  | _, _, _, _ => False
def maskHas (a m : Nat) : Bool := Nat.beq (a ||| m) m
def codeOk (n : Nat) (A : Ann) : Code → Bool
  | .region id ops draw =>
    bif draw then
      match assoc A.draw id with
      | some ks => drawOk n ops.toList ks
      | none =>
        match assoc A.vars id with
        | some vs => vsOk n ops.toList vs
        | none => false
    else ops.toList.all (dstOk n)
  | .seq a b => codeOk n A a && codeOk n A b &&
    (match (match first b with
      | some i => assoc A.join i
      | none => none) with
    | none => true
    | some (_, ms) => maskHas (writes a) ms)
  | .cond _ a b => codeOk n A a && codeOk n A b
  | .block _ c => codeOk n A c
  | .loop c => codeOk n A c &&
    (match (match first c with
      | some i => assoc A.loop i
      | none => none) with
    | none => false
    | some (_, ms) => maskHas (writes c) ms)
  | _ => true

theorem maskHas_bit {a m s : Nat} (h : maskHas a m = true) (hs : m.testBit s = false) : a.testBit s = false := by
  have h := Nat.eq_of_beq_eq_true h
  have : (a ||| m).testBit s = false := by rw [h]; exact hs
  rw [Nat.testBit_or] at this
  simp at this
  exact this.1
theorem or_bit {a b s : Nat} (h : (a ||| b).testBit s = false) : a.testBit s = false ∧ b.testBit s = false := by
  rw [Nat.testBit_or] at h
  simpa using h
/-- Outside ms nothing has turned. -/
def Fr (ms : Nat) (e e' : Env) : Prop := ∀ s, ms.testBit s = false → e' s = e s
theorem Fr.refl (ms : Nat) (e : Env) : Fr ms e e := fun _ _ => rfl
theorem Fr.trans {ms ms' k : Nat} {a b c : Env} (h : Fr ms a b) (h' : Fr ms' b c) (h1 : ∀ s, k.testBit s = false → ms.testBit s = false) (h2 : ∀ s, k.testBit s = false → ms'.testBit s = false) : Fr k a c :=
  fun s hs => (h' s (h2 s hs)).trans (h s (h1 s hs))
theorem Fr.set {ms : Nat} {e e' : Env} (h : Fr ms e e') {o : Oper} (ho : ∀ s, ms.testBit s = false → (bitOf o).testBit s = false) (v : Value) : Fr ms e (e'.set o.dst v) := fun s hs => by
  rw [Env.set_ne, h s hs]
  intro hd
  have := ho s hs
  simp only [bitOf, hd, Nat.testBit_two_pow_self] at this
  cases this
theorem seqw_fr {P : Program} {ops : List Oper} {K : Env → World → Prop} {X : List PanicEntry → Env → World → Prop} {e0 : Env} {ms : Nat} : ∀ (l : List Oper) (e : Env) (w : World), (∀ s, ms.testBit s = false → (regW l).testBit s = false) → Fr ms e0 e →
    seqw P ops K X l e w → seqw P ops (fun e' w' => K e' w' ∧ Fr ms e0 e') (fun c e' w' => X c e' w' ∧ Fr ms e0 e') l e w
  | [], e, w, _, hf, h => ⟨h, hf⟩
  | o :: l, e, w, hm, hf, h => by
    have ho : ∀ s, ms.testBit s = false → (bitOf o).testBit s = false := fun s hs => (or_bit (hm s hs)).1
    have hl : ∀ s, ms.testBit s = false → (regW l).testBit s = false := fun s hs => (or_bit (hm s hs)).2
    unfold seqw at h ⊢
    have run : ∀ w, mop P (opE (ev e) o) w (fun v w' => seqw P ops K X l (e.set o.dst v) w') (fun c w' => X c e w') → mop P (opE (ev e) o) w (fun v w' => seqw P ops (fun e' w' => K e' w' ∧ Fr ms e0 e') (fun c e' w' => X c e' w' ∧ Fr ms e0 e') l (e.set o.dst v) w') (fun c w' => X c e w' ∧ Fr ms e0 e) :=
      fun w h => mop_mono h (fun v w' h => seqw_fr l _ _ hl (hf.set ho v) h) (fun c w' h => ⟨h, hf⟩)
    cases hg : o.guard with
    | none =>
      simp only [hg] at h ⊢
      cases hmv : moveOf o with
      | none =>
        simp only [hmv] at h ⊢
        cases hc : isComm o with
        | true =>
          simp only [hc, cond_true] at h ⊢
          obtain ⟨cases, bl, sh, w1, h1, v, w', h2, h3⟩ := h.out
          exact ⟨cases, bl, sh, w1, h1, v, w', seqw_fr l _ _ hl (hf.set ho v) h2, h3⟩
        | false => simp only [hc, cond_false] at h ⊢; exact run w h
      | some x => simp only [hmv] at h ⊢; exact seqw_fr l _ _ hl (hf.set ho _) h
    | some g =>
      simp only [hg] at h ⊢
      exact ⟨fun hc => run w (h.yes hc), fun hc => seqw_fr l _ _ hl (hf.set ho undef) (h.no hc)⟩
theorem drl_fr {P : Program} {S : Rl} {ops : List Oper} {K : Env → World → Prop} {e0 : Env} {ms : Nat} : ∀ (l : List It) (e : Env) (ws : List World) (w : World), (∀ x ∈ l, ∀ s, ms.testBit s = false → (bitOf x.o).testBit s = false) → Fr ms e0 e →
    drl P S ops K l e ws w → drl P S ops (fun e' w' => K e' w' ∧ Fr ms e0 e') l e ws w
  | [], e, ws, w, _, hf, h => by
    unfold drl at h ⊢
    simp only [List.map_nil, drw] at h ⊢
    exact ⟨fun w' hw => ⟨h.out w' hw, hf⟩⟩
  | ⟨o, i, .q lo, lk, bm, db⟩ :: l, e, ws, w, hm, hf, h => by
    rw [drw_q] at h ⊢
    obtain ⟨v, hv, h⟩ := h
    exact ⟨v, hv, drl_fr l _ _ _ (fun x hx => hm x (List.mem_cons_of_mem _ hx)) (hf.set (hm _ (List.mem_cons_self ..)) v) h⟩
  | ⟨o, i, .f r ext, lk, bm, db⟩ :: l, e, ws, w, hm, hf, h => by
    rw [drw_f] at h ⊢
    exact h.mono fun v w' h => drl_fr l _ _ _ (fun x hx => hm x (List.mem_cons_of_mem _ hx)) (hf.set (hm _ (List.mem_cons_self ..)) v) h
theorem regW_bit {l : List Oper} {o : Oper} (h : o ∈ l) {s : Nat} (hs : (regW l).testBit s = false) : (bitOf o).testBit s = false := by
  induction l with
  | nil => cases h
  | cons x l ih =>
    rcases List.mem_cons.1 h with rfl | h
    · exact (or_bit hs).1
    · exact ih h (or_bit hs).2

theorem cwp_sound {n : Nat} {D : List Deferred} {P : Program} {A : Ann} (hm : P.follows .mixedOrders = true) : ∀ (c : Code) (Q : EPost) (e : Env) (a : Act) (w : World), codeOk n A c = true → Rel n D a e → cwp P A c Q e w →
    c.wp P (fun ex a' w' => ∃ e', Rel n D a' e' ∧ Q ex e' w' ∧ Fr (writes c) e e') a w := by
  intro c
  induction c with
  | skip => intro Q e a w _ hr h; exact wp_skip ⟨e, hr, h, Fr.refl _ _⟩
  | region id ops draw =>
    intro Q e a w hok hr h
    obtain ⟨l⟩ := ops
    cases draw with
    | false =>
      simp only [codeOk, cwp, cond_false] at hok h
      exact wp_region_opsTo (seqw_sound (n := n) (fun e' a' w' hr' hk => ⟨e', hr', hk.1, hk.2⟩) (fun c e' a' w' hr' hk => ⟨e', hr', hk.1, hk.2⟩) l 0 e a w rfl hok hr (seqw_fr l e w (fun s hs => hs) (Fr.refl _ _) h))
    | true =>
      simp only [codeOk, cwp, cond_true] at hok h
      cases hk : assoc A.draw id with
      | none =>
        simp only [hk] at h hok
        cases hv : assoc A.vars id with
        | none => simp only [hv] at h
        | some vs =>
          simp only [hv] at h hok
          obtain ⟨S, h⟩ := wideOr_some h
          refine var_sound (S := S) (K := fun e' w' => Q .normal e' w' ∧ Fr (regW l) e e') hm hok (fun e' a' w' hr' hk => ⟨e', hr', hk.1, hk.2⟩) hr ?_
          refine vrAll_mono h fun v hv h => ?_
          exact drl_fr (ms := regW l) (v.its l) e _ w (fun x hx s hs => regW_bit (List.mem_of_getElem? (items_at (vsOk_lin hok v hv) (its_mem (vsOk_lin hok v hv) hx).1).1) hs) (Fr.refl _ _) h
      | some ks =>
        simp only [hk] at hok h
        obtain ⟨S, h⟩ := wideOr_some h
        have hok' := hok
        simp only [drawOk, Bool.and_eq_true] at hok'
        obtain ⟨h1, h2⟩ := items_maps (linOk_spec hok'.1.1).1
        have h : drl P S l (fun e w => Q .normal e w) (items l ks) e [w] w := by
          unfold drl
          rw [h1, h2]
          exact h
        have h := drl_fr (ms := regW l) _ e _ w (fun x hx s hs => regW_bit (List.mem_of_getElem? (items_at hok'.1.1 hx).1) hs) (Fr.refl _ _) h
        unfold drl at h
        rw [h1, h2] at h
        exact draw_sound hm hok (fun e' a' w' hr' hk => ⟨e', hr', hk.1, hk.2⟩) hr h
  | seq a b iha ihb =>
    intro Q e ac w hok hr h
    simp only [codeOk, Bool.and_eq_true] at hok
    obtain ⟨⟨hoa, hob⟩, hoj⟩ := hok
    simp only [cwp] at h
    refine wp_seq ?_
    cases hj : (match first b with
      | some i => assoc A.join i
      | none => none) with
    | none =>
      simp only [hj] at h
      refine wp_mono (iha _ e ac w hoa hr h) fun ex a' w' ⟨e', hr', hq, hf⟩ => ?_
      cases ex with
      | normal => exact wp_mono (ihb _ e' a' w' hob hr' hq) fun ex2 a2 w2 ⟨e2, hr2, hq2, hf2⟩ => ⟨e2, hr2, hq2, hf.trans hf2 (fun s hs => (or_bit hs).1) (fun s hs => (or_bit hs).2)⟩
      | _ => exact ⟨e', hr', hq, fun s hs => hf s (or_bit hs).1⟩
    | some p =>
      obtain ⟨cs, ms⟩ := p
      simp only [hj] at h hoj
      obtain ⟨J, h1, h2⟩ := h
      refine wp_mono (iha _ e ac w hoa hr h1) fun ex a' w' ⟨e', hr', hq, hf⟩ => ?_
      cases ex with
      | normal =>
        have h3 := vall_at e' h2 e' w'
        rw [mask_self (fun s hs => hf s (maskHas_bit hoj hs)), look_self e' e cs (fun _ => .inr trivial)] at h3
        exact wp_mono (ihb _ e' a' w' hob hr' (h3 hq)) fun ex2 a2 w2 ⟨e2, hr2, hq2, hf2⟩ => ⟨e2, hr2, hq2, hf.trans hf2 (fun s hs => (or_bit hs).1) (fun s hs => (or_bit hs).2)⟩
      | _ => exact ⟨e', hr', hq, fun s hs => hf s (or_bit hs).1⟩
  | cond c a b iha ihb =>
    intro Q e ac w hok hr h
    simp only [codeOk, Bool.and_eq_true] at hok
    simp only [cwp] at h
    rcases h.out with ⟨hc, h⟩ | ⟨hc, h⟩
    · exact wp_cond_true (by rw [hr.ev]; exact hc) (wp_mono (iha Q e ac w hok.1 hr h) fun ex a' w' ⟨e', hr', hq, hf⟩ => ⟨e', hr', hq, fun s hs => hf s (or_bit hs).1⟩)
    · exact wp_cond_false (by rw [hr.ev]; exact hc) (wp_mono (ihb Q e ac w hok.2 hr h) fun ex a' w' ⟨e', hr', hq, hf⟩ => ⟨e', hr', hq, fun s hs => hf s (or_bit hs).2⟩)
  | block id c ih =>
    intro Q e a w hok hr h
    refine wp_block (wp_mono (ih _ e a w hok hr h) fun ex a' w' ⟨e', hr', hq, hf⟩ => ?_)
    cases ex with
    | exit i =>
      simp only [Exit.inBlock]
      by_cases hi : i = id
      · subst hi
        simp only [if_true]
        simp only [Nat.beq_refl, cond_true] at hq
        exact ⟨e', hr', hq, hf⟩
      · rw [if_neg hi]
        have : Nat.beq i id = false := by
          cases hb : Nat.beq i id with
          | false => rfl
          | true => exact absurd (Nat.eq_of_beq_eq_true hb) hi
        simp only [this, cond_false] at hq
        exact ⟨e', hr', hq, hf⟩
    | _ => exact ⟨e', hr', hq, hf⟩
  | loop c ih =>
    intro Q e a w hok hr h
    simp only [codeOk, Bool.and_eq_true] at hok
    obtain ⟨hoc, hom⟩ := hok
    simp only [cwp] at h
    cases hj : (match first c with
      | some i => assoc A.loop i
      | none => none) with
    | none => simp only [hj] at h
    | some p =>
      obtain ⟨cs, ms⟩ := p
      simp only [hj] at h hom
      obtain ⟨I, μ, h0, h1⟩ := h
      refine wp_loop (fun a' w' => ∃ e', Rel n D a' e' ∧ Fr (writes c) e e' ∧ vapp cs I e' w') (fun a' w' => vapp cs μ (fun s => a'.tmps.getD s undef) w') ⟨e, hr, Fr.refl _ _, h0⟩ ?_
      rintro a1 w1 ⟨e1, hr1, hf1, hI1⟩
      have h3 := vall_at e1 h1 e1 w1
      rw [mask_self (fun s hs => hf1 s (maskHas_bit hom hs)), look_self e1 e cs (fun _ => .inr trivial)] at h3
      refine wp_mono (ih _ e1 a1 w1 hoc hr1 (h3 hI1)) fun ex a2 w2 ⟨e2, hr2, hq2, hf2⟩ => ?_
      have he1 : (fun s => a1.tmps.getD s undef) = e1 := funext fun s => (hr1.at_ s).symm
      have he2 : (fun s => a2.tmps.getD s undef) = e2 := funext fun s => (hr2.at_ s).symm
      cases ex with
      | normal =>
        refine ⟨⟨e2, hr2, hf1.trans hf2 (fun s hs => hs) (fun s hs => hs), hq2.1⟩, ?_⟩
        simp only [he1, he2]
        exact hq2.2
      | _ => exact ⟨e2, hr2, hq2, hf1.trans hf2 (fun s hs => hs) (fun s hs => hs)⟩
  | exit id => intro Q e a w _ hr h; exact wp_exit ⟨e, hr, h, Fr.refl _ _⟩
  | ret => intro Q e a w _ hr h; exact wp_ret ⟨e, hr, h, Fr.refl _ _⟩
  | _ => intro Q e a w _ _ h; exact h.elim

structure rcell (P : Program) (t : TypeId) (a : Value) (w : World) (K : Value → Prop) : Prop where
  out : ∃ v, (do loadVar t (← asAddr a) : Sem Value).run P w = .ok v w ∧ K v
def retw (P : Program) : List ResultVar → Env → World → (List Value → Prop) → Prop
  | [], _, _, k => k []
  | .tmp t :: l, e, w, k => retw P l e w fun vs => k (e t :: vs)
  | .cell a t :: l, e, w, k => rcell P t (e a) w fun v => retw P l e w fun vs => k (v :: vs)
def pack : List Value → Value
  | [v] => v
  | vs => .tuple vs.toArray
def retPost (P : Program) (rs : List ResultVar) (R : Ending → World → Prop) : EPost
  | .normal, e, w => retw P rs e w fun vs => R (.returned (pack vs)) w
  | .ret, e, w => retw P rs e w fun vs => R (.returned (pack vs)) w
  | .panic c, _, w => R (.panicked c) w
  | _, _, _ => False
def argE (l : List Value) : Env := fun i => l.getD i undef
theorem retw_run {P : Program} {tmps : Array Value} {e : Env} {w : World} (he : ∀ s, e s = tmps.getD s undef) : ∀ (l : List ResultVar) (k : List Value → Prop), retw P l e w k →
    ∃ vs, (l.mapM (fun | .tmp t => pure (tmps.getD t undef) | .cell a t => do loadVar t (← asAddr (tmps.getD a undef)) : ResultVar → Sem Value)).run P w = .ok vs w ∧ vs.length = l.length ∧ k vs
  | [], k, h => ⟨[], rfl, rfl, h⟩
  | .tmp t :: l, k, h => by
    obtain ⟨vs, h1, h2, h3⟩ := retw_run he l _ h
    refine ⟨e t :: vs, ?_, by simp [h2], h3⟩
    simp only [List.mapM_cons, Sem.run_bind, Sem.run_pure, Result.andThen_ok, h1, he t]
  | .cell a t :: l, k, h => by
    obtain ⟨v, hv, h⟩ := h.out
    obtain ⟨vs, h1, h2, h3⟩ := retw_run he l _ h
    refine ⟨v :: vs, ?_, by simp [h2], h3⟩
    rw [he a] at hv
    simp only [List.mapM_cons, Sem.run_bind, Sem.run_pure] at hv ⊢
    rw [hv]
    simp only [Result.andThen_ok, h1]
theorem retw_post {P : Program} {fn : Func} {a : Act} {n : Nat} {e : Env} {w : World} {R : Ending → World → Prop} (hr : Rel n [] a e) (h : retw P fn.results.toList e w fun vs => R (.returned (pack vs)) w) :
    a.defers = [] ∧ ∃ v, (results fn a.tmps).run P w = .ok v w ∧ R (.returned v) w := by
  refine ⟨hr.defers, ?_⟩
  obtain ⟨vs, h1, h2, h3⟩ := retw_run hr.at_ _ _ h
  refine ⟨pack vs, ?_, h3⟩
  obtain ⟨rs, hrs⟩ : ∃ rs, fn.results = Array.mk rs := ⟨fn.results.toList, rfl⟩
  unfold results
  rw [hrs] at h1 ⊢
  simp only [List.mapM_toArray, Sem.run_bind, Sem.run_map, Sem.run_pure]
  erw [h1]
  show Result.ok (if h : vs.toArray.size = 1 then vs.toArray[0] else .tuple vs.toArray) w = Result.ok (pack vs) w
  congr 1
  match vs with
  | [] => rfl
  | [v] => rfl
  | a :: b :: l => simp [pack]
theorem calls_cwp {P : Program} {A : Ann} {f : FuncId} {fn : Func} {c : Code} {args : List Value} {w : World} {R : Ending → World → Prop} (hm : P.follows .mixedOrders = true)
    (hf : P.funcs[f]? = some fn) (hb : fn.body = some c) (hn : Nat.ble args.length fn.ntmps = true) (hok : codeOk fn.ntmps A c = true) (h : cwp P A c (retPost P fn.results.toList R) (argE args) w) : Calls P f args.toArray w R := by
  have hn := Nat.le_of_ble_eq_true hn
  refine calls_of_wp hf hb (wp_mono (cwp_sound (n := fn.ntmps) hm c _ (argE args) _ w hok ⟨?_, rfl, fun s => ?_⟩ h) ?_)
  · simp; omega
  · simp only [argE, List.getD_eq_getElem?_getD, Array.getD_eq_getD_getElem?, Array.getElem?_append, List.size_toArray, List.getElem?_toArray]
    split
    · rfl
    · rw [List.getElem?_eq_none (by omega)]
      simp [Array.getElem?_replicate]
      split <;> rfl
  · rintro ex a' w' ⟨e', hr, hq, _⟩
    cases ex with
    | normal => exact retw_post hr hq
    | ret => exact retw_post hr hq
    | panic c => exact ⟨hr.defers, hq⟩
    | _ => exact hq.elim
end Go.Proofs.Ytopcnkejobomaaa
