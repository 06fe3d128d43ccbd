/- Code over environments: what a piece of code does, said as a plain formula over the values of its slots (cwp), and that the formula suffices for the walk's own statement. No program is named here. -/
import Derived.Test.YtopcnkejobomaaaBase
import Derived.Orders
import Derived.Conc.LoneCalls
namespace Go.Proofs.Ytopcnkejobomaaa

/-- What each slot holds. -/
abbrev Env := Nat → Value
def Env.set (e : Env) (d : Option Nat) (v : Value) : Env :=
  match d with
  | none => e
  | some d => fun i => bif Nat.beq i d then v else e i
def ev (e : Env) : Operand → Value
  | .tmp t => e t
  | .const v => v
  | .global g => .pointer (some ⟨g, 0, none⟩)
  | .func f => .func (.func f) #[] #[]

def sv (s : Sem Value) : Sem Next := do pure (.value (← s))
def su (s : Sem Unit) : Sem Next := do s; pure .skip
def o_move (x : Value) : Sem Next := pure (.value x)
def o_pick (c a b : Value) : Sem Next := do pure (.value (if ← asBool c then a else b))
def o_alloc (t : TypeId) : Sem Next := sv (Instr.alloc t true (.tuple #[]))
def o_box (t : TypeId) (x : Value) : Sem Next := sv (Instr.box t x)
def o_build (t : TypeId) (ps : List (Nat × Value)) : Sem Next := sv (Instr.build t ps.toArray)
def o_buildSlice (t : TypeId) (n : Nat) (ps : List (Nat × Value)) : Sem Next := sv (Instr.buildSlice t n ps.toArray)
def o_load (t : TypeId) (a : Value) : Sem Next := sv (Instr.loadAt t a)
def o_store (t : TypeId) (a x : Value) : Sem Next := su (Instr.storeAt t a x)
def o_nilCheck (x : Value) : Sem Next := execOp (fun _ => x) { dst := none, op := .nilCheck (.tmp 0), type := 0, pos := "", after := #[], guard := none }
def o_bin (op : BinOp) (t : TypeId) (c : Bool) (x y : Value) : Sem Next := sv (do eqGuard op t (bif c then .const (.bool true) else .tmp 0) (.tmp 0) x y; binOp op t x y)
def o_un (op : UnOp) (x : Value) : Sem Next := sv (Op.unary op x)
def o_conv (s d : TypeId) (x : Value) : Sem Next := sv (convert s d x)
def o_arrayAt (t : TypeId) (x : Value) : Sem Next := sv (Instr.arrayAt t x)
def o_iface (t : TypeId) (x : Value) : Sem Next := sv (Instr.makeInterface t x)
def o_func (fn : Fn) (first captured : List Value) : Sem Next := sv (Instr.makeFunc fn first.toArray captured.toArray)
def o_makeMap (t : TypeId) (r : Option Value) : Sem Next := sv (Instr.makeMap t r)
def o_makeSlice (t : TypeId) (l c : Value) : Sem Next := sv (Instr.makeSlice t l c)
def o_slice (t : TypeId) (x : Value) (lo hi mx : Option Value) : Sem Next := sv (Instr.sliceAt t x lo hi mx)
def o_fieldAddr (s : TypeId) (x : Value) (f : Nat) : Sem Next := sv (Instr.fieldAt s x f)
def o_field (s : TypeId) (x : Value) (f : Nat) : Sem Next := sv (Instr.field s x f)
def o_indexAddr (t : TypeId) (x i : Value) : Sem Next := sv (Instr.indexAt t x i)
def o_index (t : TypeId) (x i : Value) : Sem Next := sv (Instr.index t x i)
def o_lookup (t : TypeId) (x i : Value) (ok : Bool) : Sem Next := sv (Instr.lookup t x i ok)
def o_mapUpdate (t : TypeId) (m k x : Value) : Sem Next := su (Instr.mapUpdate t m k x)
def o_mapEntry (t : TypeId) (m k : Value) : Sem Next := sv (Instr.mapEntry t m k)
def o_entryStore (t : TypeId) (m s x : Value) : Sem Next := su (Instr.entryStore t m s x)
def o_range (t : TypeId) (x : Value) : Sem Next := sv (Instr.range t x)
def o_next (it : Value) (b : Bool) (t : TypeId) : Sem Next := sv (Instr.next it b t)
def o_entry (it : Value) : Sem Next := sv (Instr.entry it)
def o_assert (x : Value) (s t : TypeId) (ok : Bool) : Sem Next := sv (Instr.typeAssert x s t ok)
def o_extract (t : Value) (i : Nat) : Sem Next := sv (Instr.extract t i)
def o_panic (x : Value) : Sem Next := sv (Instr.panic x)
def o_call (f : Value) (args : List Value) : Sem Next := do let d ← Deferred.ofValue f args.toArray; invoke d.target d.args
def o_invoke (r : Value) (name : String) (args : List Value) : Sem Next := invoke (.fn (.method name) #[]) (#[r] ++ args.toArray)
def isConst : Operand → Bool
  | .const _ => true
  | _ => false
def o_builtin (b : Builtin) (ts : Array TypeId) (t : TypeId) (cs : List Bool) (args : List Value) : Sem Next := invoke (.builtin b ts t cs.toArray) args.toArray
def o_makeChan (t : TypeId) (n : Value) : Sem Next := sv (Instr.makeChan t n)
def o_select (cs : List (Value × Option Value × TypeId)) (blocking : Bool) : Sem Next := do
  let cases ← cs.toArray.mapM fun s => do pure { chan := s.1, send := s.2.1, zero := ← zeroValue s.2.2 : CommCase }
  pure (.comm cases blocking .select)
def o_bad : Sem Next := Sem.halt (.stuck "")
def opE (ρ : Operand → Value) (o : Oper) : Sem Next :=
  match o.op with
  | .move x | .assign x => o_move (ρ x)
  | .pick c a b => o_pick (ρ c) (ρ a) (ρ b)
  | .alloc t => o_alloc t
  | .box t x => o_box t (ρ x)
  | .build t ps => o_build t (ps.toList.map fun p => (p.1, ρ p.2))
  | .buildSlice t n ps => o_buildSlice t n (ps.toList.map fun p => (p.1, ρ p.2))
  | .load t a => o_load t (ρ a)
  | .store t a x => o_store t (ρ a) (ρ x)
  | .nilCheck x => o_nilCheck (ρ x)
  | .binOp op t x y _ => o_bin op t (isConst x || isConst y) (ρ x) (ρ y)
  | .unOp op _ x => o_un op (ρ x)
  | .convert s d x => o_conv s d (ρ x)
  | .sliceToArrayPointer t x => o_arrayAt t (ρ x)
  | .makeInterface t x => o_iface t (ρ x)
  | .makeFunc fn first captured => o_func fn (first.toList.map ρ) (captured.toList.map ρ)
  | .makeMap t r => o_makeMap t (r.map ρ)
  | .makeSlice t l c => o_makeSlice t (ρ l) (ρ c)
  | .makeChan t n => o_makeChan t (ρ n)
  | .select cs b => o_select (cs.toList.map fun s => (ρ s.chan, s.send.map ρ, s.elem)) b
  | .slice t x lo hi mx => o_slice t (ρ x) (lo.map ρ) (hi.map ρ) (mx.map ρ)
  | .fieldAddr s x f => o_fieldAddr s (ρ x) f
  | .field s x f => o_field s (ρ x) f
  | .indexAddr t x i => o_indexAddr t (ρ x) (ρ i)
  | .index t x i => o_index t (ρ x) (ρ i)
  | .lookup t x i ok => o_lookup t (ρ x) (ρ i) ok
  | .mapUpdate t m k x => o_mapUpdate t (ρ m) (ρ k) (ρ x)
  | .insert t m k x => o_mapUpdate t (ρ m) (ρ k) (ρ x)
  | .mapEntry t m k => o_mapEntry t (ρ m) (ρ k)
  | .entryStore t m s x => o_entryStore t (ρ m) (ρ s) (ρ x)
  | .range t x => o_range t (ρ x)
  | .next it b => o_next (ρ it) b o.type
  | .entry it => o_entry (ρ it)
  | .typeAssert x s t ok => o_assert (ρ x) s t ok
  | .extract t i => o_extract (ρ t) i
  | .panic x => o_panic (ρ x)
  | .call { callee := .value f, args, .. } => o_call (ρ f) (args.toList.map ρ)
  | .call { callee := .invoke r name, args, .. } => o_invoke (ρ r) name (args.toList.map ρ)
  | .call { callee := .builtin b, args, argTypes } => o_builtin b argTypes o.type (args.toList.map isConst) (args.toList.map ρ)
  | _ => o_bad

/-- What is asked once an operation has run: of the value that it yields; of a panic. -/
def opw (P : Program) (K : Value → World → Prop) (X : List PanicEntry → World → Prop) : Result Next → Prop
  | .ok (.value v) w => K v w
  | .ok .skip w => K undef w
  | .ok (.enter f args) w => Calls P f args w fun
    | .returned v, w' => K v w'
    | .panicked c, w' => X c w'
    | .outgrown, _ => False
  | .halt (.panic v) w => X [{ v, recovered := false }] w
  | _ => False
structure mop (P : Program) (s : Sem Next) (w : World) (K : Value → World → Prop) (X : List PanicEntry → World → Prop) : Prop where
  out : opw P K X (s.run P w)

theorem opw_mono {P : Program} {K K' : Value → World → Prop} {X X' : List PanicEntry → World → Prop} {r : Result Next} (h : opw P K X r) (hK : ∀ v w, K v w → K' v w) (hX : ∀ c w, X c w → X' c w) : opw P K' X' r := by
  unfold opw at h ⊢
  split <;> first
    | exact hK _ _ h
    | exact hX _ _ h
    | exact Calls.mono h (fun e w' he => by cases e <;> first | exact hK _ _ he | exact hX _ _ he | exact he)
    | (simp only [] at h)
  all_goals (split at h <;> simp_all)
theorem mop_mono {P : Program} {s : Sem Next} {w : World} {K K' : Value → World → Prop} {X X' : List PanicEntry → World → Prop} (h : mop P s w K X) (hK : ∀ v w, K v w → K' v w) (hX : ∀ c w, X c w → X' c w) : mop P s w K' X' := ⟨opw_mono h.out hK hX⟩
/-- Something does come of it. -/
theorem mop_some {P : Program} {s : Sem Next} {w : World} {K : Value → World → Prop} (h : mop P s w K (fun _ _ => False)) : ∃ v w', K v w' := by
  have h := h.out
  unfold opw at h
  split at h
  · exact ⟨_, _, h⟩
  · exact ⟨_, _, h⟩
  · obtain ⟨e, w', fr, hR, _⟩ := h []
    cases e with
    | returned v => exact ⟨_, _, hR⟩
    | panicked c => exact hR.elim
    | outgrown => exact hR.elim
  · exact h.elim
  · exact h.elim

theorem toArray_map {α β : Type} (a : Array α) (f : α → β) : (a.toList.map f).toArray = a.map f := by apply Array.ext'; simp
theorem eqGuard_const (op : BinOp) (t : TypeId) (x y : Operand) (a b : Value) : eqGuard op t (bif isConst x || isConst y then .const (.bool true) else .tmp 0) (.tmp 0) a b = eqGuard op t x y a b := by
  cases x <;> cases y <;> rfl
theorem opE_exec (ρ : Operand → Value) (o : Oper) : opE ρ o = execOp ρ o ∨ opE ρ o = o_bad := by
  obtain ⟨dst, op, type, pos, after, guard⟩ := o
  cases op
  case call c =>
    obtain ⟨callee, args, argTypes⟩ := c
    left
    have h1 : ∀ f : Operand → Value, (args.toList.map f).toArray = args.map f := fun f => by apply Array.ext' ; simp
    cases callee <;> simp [opE, execOp, resolve, o_call, o_invoke, o_builtin, h1]
    congr 2
    apply Array.ext'
    simp
    intro a _
    cases a <;> rfl
  case binOp op t x y ty =>
    left
    simp only [opE, execOp, o_bin, sv, eqGuard_const]
  case select cs b =>
    left
    simp only [opE, execOp, o_select]
    obtain ⟨cs⟩ := cs
    simp only [List.mapM_toArray, List.mapM_map]
    rfl
  all_goals first
    | (left; rfl)
    | (left; simp only [opE, execOp, o_build, o_buildSlice, o_func, sv, toArray_map]; done)
    | (right; rfl)

/-- The frame holds what the environment says. -/
structure Rel (n : Nat) (D : List Deferred) (a : Act) (e : Env) : Prop where
  size : a.tmps.size = n
  defers : a.defers = D
  at_ : ∀ s, e s = a.tmps.getD s undef
theorem Rel.ev {n : Nat} {D : List Deferred} {a : Act} {e : Env} (h : Rel n D a e) : a.eval = ev e := by
  funext x
  cases x <;> simp [Act.eval, Go.Proofs.Ytopcnkejobomaaa.ev, h.at_]
theorem Rel.put {n : Nat} {D : List Deferred} {a : Act} {e : Env} (h : Rel n D a e) (d : Option Nat) (hd : ∀ k, d = some k → k < n) (v : Value) : Rel n D (a.put d v) (e.set d v) := by
  cases d with
  | none => exact h
  | some d =>
    have := hd d rfl
    refine ⟨by simp [Act.put, h.size], h.defers, fun s => ?_⟩
    simp only [Env.set, Act.put]
    cases hs : Nat.beq s d with
    | true =>
      have := Nat.eq_of_beq_eq_true hs
      subst this
      simp [h.size, *]
    | false =>
      have hne : d ≠ s := fun e => by subst e; simp at hs
      simp only [cond_false, h.at_ s, Array.getD_eq_getD_getElem?]
      rw [Array.getElem?_setIfInBounds_ne hne]
theorem Rel.oper {P : Program} {n : Nat} {D : List Deferred} {a : Act} {e : Env} (h : Rel n D a e) {o : Oper} {w : World} {K : Value → World → Prop} {X : List PanicEntry → World → Prop} {next : Act → World → Prop} {Q : Exit → Act → World → Prop}
    (hm : mop P (opE (Go.Proofs.Ytopcnkejobomaaa.ev e) o) w K X) (hK : ∀ v w', K v w' → next (a.put o.dst v) w') (hX : ∀ c w', X c w' → Q (.panic c) a w') : o.wp P a w next Q := by
  unfold Oper.wp
  rw [h.ev]
  rcases opE_exec (Go.Proofs.Ytopcnkejobomaaa.ev e) o with he | he
  · rw [he] at hm
    have hm := hm.out
    unfold opw at hm
    split at hm
    · rename_i hr; rw [hr]; exact hK _ _ hm
    · rename_i hr; rw [hr]; exact hK _ _ hm
    · rename_i hr; rw [hr]
      refine hm.mono fun e w' h => ?_
      cases e with
      | returned v => exact hK _ _ h
      | panicked c => exact hX _ _ h
      | outgrown => exact h.elim
    · rename_i hr; rw [hr]; exact hX _ _ hm
    · exact hm.elim
  · rw [he] at hm
    exact hm.out.elim

/-- A communication that a goroutine by itself does at once. -/
structure mcom (P : Program) (s : Sem Next) (w : World) (K : Value → World → Prop) : Prop where
  out : ∃ cases bl sh w1, s.run P w = .ok (.comm cases bl sh) w1 ∧ ∃ v w', K v w' ∧ ∀ (fr : Frame) (cs : List Frame) (p0 : World) (es : Array Event),
    stepG P true (Conc.G fr cs) p0 = .comm (Conc.G fr cs) cases bl sh w1 es → step P (lone fr cs p0) = .next (lone (fr.finish v) cs w')
def isComm (o : Oper) : Bool :=
  match o.op with
  | .select .. => true
  | _ => false
/-- From within a region: the operations that are left lead to Q. -/
def OpsTo (P : Program) (ops : Array Oper) (Q : Exit → Act → World → Prop) (l : List Nat) (a : Act) (w : World) : Prop :=
  ∀ (b : Frame) (k : List Item) (cs : List Frame), ∃ e a' w', Q e a' w' ∧ Arrives P (lone (b.at a (.inRegion ops l :: k)) cs w) b k cs e a' w'
section
variable {P : Program} {ops : Array Oper} {Q : Exit → Act → World → Prop} {i n : Nat} {D : List Deferred} {rest : List Nat} {o : Oper} {a : Act} {w : World} {e : Env} {K : Value → World → Prop} {X : List PanicEntry → World → Prop}
theorem opsTo_nil (h : Q .normal a w) : OpsTo P ops Q [] a w := fun _ _ _ => ⟨.normal, a, w, h, .one step_region_end⟩
theorem opsTo_skip (ho : ops[i]? = some o) (hw : ¬ Region.wanted o (yielded ops a.tmps) = true) (h : OpsTo P ops Q rest (a.put o.dst undef) w) : OpsTo P ops Q (i :: rest) a w := fun b k cs => by
  obtain ⟨e, a', w', hq, harr⟩ := h b k cs
  have hs := step_op_skip (P := P) (b := b) (a := a) (k := k) (cs := cs) (w := w) (ops := ops) (i := i) (rest := rest) (by simp [ho]; simpa using hw)
  simp only [ho, Option.bind_some] at hs
  exact ⟨e, a', w', hq, .of_steps (.one hs) harr⟩
theorem opsTo_mop (ho : ops[i]? = some o) (hw : Region.wanted o (yielded ops a.tmps) = true) (hr : Rel n D a e) (hm : mop P (opE (ev e) o) w K X) (hK : ∀ v w', K v w' → OpsTo P ops Q rest (a.put o.dst v) w') (hX : ∀ c w', X c w' → Q (.panic c) a w') :
    OpsTo P ops Q (i :: rest) a w := fun b k cs => by
  have hg := stepG_op (P := P) (b := b) (k := k) (cs := cs) (w := w) (rest := rest) ho hw
  have hfin : ∀ v, (b.at a (.inRegion ops (i :: rest) :: k)).finish v = b.at (a.put o.dst v) (.inRegion ops rest :: k) := fun v => by rw [Frame.finish_at, ho]; rfl
  rw [hr.ev] at hg
  have hm := hm.out
  rcases opE_exec (Go.Proofs.Ytopcnkejobomaaa.ev e) o with he | he
  · rw [he] at hm
    cases hrun : (execOp (Go.Proofs.Ytopcnkejobomaaa.ev e) o).run P w with
    | halt x w' =>
      rw [hrun] at hm
      cases x with
      | panic v =>
        refine ⟨_, a, w', hX _ _ hm, .inRegion ops (i :: rest) :: k, .one (step_lone_go ?_)⟩
        rw [hg, ← Frame.raise_at]; simp [stepG.apply, hrun]
      | _ => exact hm.elim
    | ok x w' =>
      rw [hrun] at hm
      cases x with
      | value v =>
        obtain ⟨e2, a', w2, hq, harr⟩ := hK v w' hm b k cs
        refine ⟨e2, a', w2, hq, .of_steps (.one (step_lone_go ?_)) harr⟩
        rw [hg, ← hfin]; simp [stepG.apply, hrun]
      | skip =>
        obtain ⟨e2, a', w2, hq, harr⟩ := hK undef w' hm b k cs
        refine ⟨e2, a', w2, hq, .of_steps (.one (step_lone_go ?_)) harr⟩
        rw [hg, ← hfin]; simp [stepG.apply, hrun]
      | enter f args =>
        obtain ⟨en, w2, fr, hR, hsteps, _, hleave⟩ := hm (b.at a (.inRegion ops (i :: rest) :: k) :: cs)
        have henter : step P (lone (b.at a (.inRegion ops (i :: rest) :: k)) cs w) = .next (lone (Frame.enter P f args .normal) (b.at a (.inRegion ops (i :: rest) :: k) :: cs) w') :=
          step_lone_go (by rw [hg]; simp [stepG.apply, hrun, Frame.at])
        cases en with
        | returned v =>
          obtain ⟨e2, a', w3, hq, harr⟩ := hK v w2 hR b k cs
          refine ⟨e2, a', w3, hq, .of_steps (.head henter (hsteps.trans (.one ?_))) harr⟩
          rw [← hfin]; exact step_leave_returned hleave
        | panicked chain =>
          refine ⟨.panic chain, a, w2, hX _ _ hR, .inRegion ops (i :: rest) :: k, .head henter (hsteps.trans (.one ?_))⟩
          rw [← Frame.raise_at]; exact step_leave_panicked hleave
        | outgrown => exact hR.elim
      | _ => exact hm.elim
  · rw [he] at hm
    exact hm.elim
theorem opsTo_comm (ho : ops[i]? = some o) (hw : Region.wanted o (yielded ops a.tmps) = true) (hr : Rel n D a e) (hm : mcom P (opE (ev e) o) w K) (hK : ∀ v w', K v w' → OpsTo P ops Q rest (a.put o.dst v) w') :
    OpsTo P ops Q (i :: rest) a w := fun b k cs => by
  have hg := stepG_op (P := P) (b := b) (k := k) (cs := cs) (w := w) (rest := rest) ho hw
  have hfin : ∀ v, (b.at a (.inRegion ops (i :: rest) :: k)).finish v = b.at (a.put o.dst v) (.inRegion ops rest :: k) := fun v => by rw [Frame.finish_at, ho]; rfl
  rw [hr.ev] at hg
  obtain ⟨cases, bl, sh, w1, hrun, v, w', hk, hstep⟩ := hm.out
  rcases opE_exec (Go.Proofs.Ytopcnkejobomaaa.ev e) o with he | he
  · rw [he] at hrun
    obtain ⟨e2, a', w2, hq, harr⟩ := hK v w' hk b k cs
    refine ⟨e2, a', w2, hq, .of_steps (.one ?_) harr⟩
    rw [← hfin]
    have : ∃ es, stepG P true (Conc.G (b.at a (.inRegion ops (i :: rest) :: k)) cs) w = .comm (Conc.G (b.at a (.inRegion ops (i :: rest) :: k)) cs) cases bl sh w1 es := by
      have hg' : stepG P true (Conc.G (b.at a (.inRegion ops (i :: rest) :: k)) cs) w = _ := hg
      rw [hg']
      simp [stepG.apply, Sem.runT_eq, hrun, Conc.G, GStep.after]
    obtain ⟨es, h⟩ := this
    exact hstep _ _ _ _ h
  · rw [he] at hrun
    cases hrun
end
/-- What the guard of an operation looks at. -/
def guardV (ops : List Oper) (e : Env) (j : Nat) : Value :=
  match (ops[j]?).bind (·.dst) with
  | some d => e d
  | none => undef
/-- An operation under a guard: it runs, or its slot holds nothing. -/
structure mguard (c : Value) (want : Bool) (run : (Value → World → Prop) → Prop) (w : World) (K : Value → World → Prop) : Prop where
  yes : c = .bool want → run K
  no : c ≠ .bool want → K undef w
theorem Rel.wanted {n : Nat} {D : List Deferred} {a : Act} {e : Env} (h : Rel n D a e) (l : List Oper) (o : Oper) (j : Nat) (want : Bool) (hg : o.guard = some (j, want)) :
    (Region.wanted o (yielded l.toArray a.tmps) = true ↔ guardV l e j = .bool want) := by
  simp only [Region.wanted, hg, yielded, guardV, List.getElem?_toArray]
  cases hd : (l[j]?).bind (·.dst) with
  | none => simp [undef]
  | some d =>
    simp only [Option.bind_some, h.at_ d, Array.getD_eq_getD_getElem?]
    cases hv : a.tmps[d]? with
    | none => simp [undef]
    | some v => cases v <;> simp [undef]
def moveOf (o : Oper) : Option Operand :=
  match o.op with
  | .move x | .assign x => some x
  | _ => none
theorem moveOf_mop {P : Program} {o : Oper} {x : Operand} (h : moveOf o = some x) {ρ : Operand → Value} {w : World} {K : Value → World → Prop} {X : List PanicEntry → World → Prop} (hk : K (ρ x) w) : mop P (opE ρ o) w K X := by
  unfold moveOf at h
  split at h
  · cases h
    rename_i ho
    unfold opE
    rw [ho]
    exact ⟨hk⟩
  · cases h
    rename_i ho
    unfold opE
    rw [ho]
    exact ⟨hk⟩
  · cases h
/-- Operations one behind the other. -/
def seqw (P : Program) (ops : List Oper) (K : Env → World → Prop) (X : List PanicEntry → Env → World → Prop) : List Oper → Env → World → Prop
  | [], e, w => K e w
  | o :: l, e, w =>
    match o.guard with
    | none =>
      match moveOf o with
      | some x => seqw P ops K X l (e.set o.dst (ev e x)) w
      | none => bif isComm o then mcom P (opE (ev e) o) w (fun v w' => seqw P ops K X l (e.set o.dst v) w') else mop P (opE (ev e) o) w (fun v w' => seqw P ops K X l (e.set o.dst v) w') (fun c w' => X c e w')
    | some (j, want) => mguard (guardV ops e j) want (fun k => mop P (opE (ev e) o) w k (fun c w' => X c e w')) w (fun v w' => seqw P ops K X l (e.set o.dst v) w')
def bitOf (o : Oper) : Nat :=
  match o.dst with
  | some d => 2 ^ d
  | none => 0
def dstOk (n : Nat) (o : Oper) : Bool :=
  match o.dst with
  | none => true
  | some d => Nat.blt d n
theorem dstOk_lt {n : Nat} {o : Oper} (h : dstOk n o = true) : ∀ k, o.dst = some k → k < n := by
  intro k hk
  simp only [dstOk, hk] at h
  exact Nat.le_of_ble_eq_true h
theorem seqw_sound {P : Program} {n : Nat} {D : List Deferred} {ops : List Oper} {K : Env → World → Prop} {X : List PanicEntry → Env → World → Prop} {Q : Exit → Act → World → Prop}
    (hK : ∀ e a w, Rel n D a e → K e w → Q .normal a w) (hX : ∀ c e a w, Rel n D a e → X c e w → Q (.panic c) a w) :
    ∀ (l : List Oper) (j : Nat) (e : Env) (a : Act) (w : World), ops.drop j = l → l.all (dstOk n) = true → Rel n D a e → seqw P ops K X l e w → OpsTo P ops.toArray Q (List.range' j l.length) a w
  | [], j, e, a, w, _, _, hr, h => opsTo_nil (hK e a w hr h)
  | o :: l, j, e, a, w, hj, hd, hr, h => by
    simp only [List.all_cons, Bool.and_eq_true] at hd
    have ho : ops.toArray[j]? = some o := by
      have : (ops.drop j)[0]? = some o := by rw [hj]; rfl
      simpa using this
    have hj2 : ops.drop (j + 1) = l := by
      have : (ops.drop j).drop 1 = l := by rw [hj]; rfl
      rwa [List.drop_drop] at this
    have ih := fun e a w hr h => seqw_sound (P := P) (ops := ops) hK hX l (j + 1) e a w hj2 hd.2 hr h
    rw [List.length_cons, List.range'_succ]
    unfold seqw at h
    split at h
    · rename_i hg
      have hw : Region.wanted o (yielded ops.toArray a.tmps) = true := by simp [Region.wanted, hg]
      split at h
      · rename_i x hmv
        exact opsTo_mop ho hw hr (moveOf_mop (X := fun _ _ => False) (K := fun v w' => seqw P ops K X l (e.set o.dst v) w') hmv h) (fun v w' h' => ih _ _ _ (hr.put _ (dstOk_lt hd.1) v) h') (fun _ _ h => h.elim)
      · cases hc : isComm o with
        | true =>
          simp only [hc, cond_true] at h
          exact opsTo_comm ho hw hr h (fun v w' h' => ih _ _ _ (hr.put _ (dstOk_lt hd.1) v) h')
        | false =>
          simp only [hc, cond_false] at h
          exact opsTo_mop ho hw hr h (fun v w' h' => ih _ _ _ (hr.put _ (dstOk_lt hd.1) v) h') (fun c w' h' => hX c e a w' hr h')
    · rename_i j2 want hg
      have hw := hr.wanted ops o j2 want hg
      by_cases hc : guardV ops e j2 = .bool want
      · exact opsTo_mop ho (hw.2 hc) hr (h.yes hc) (fun v w' h' => ih _ _ _ (hr.put _ (dstOk_lt hd.1) v) h') (fun c w' h' => hX c e a w' hr h')
      · exact opsTo_skip ho (fun h => hc (hw.1 h)) (ih _ _ _ (hr.put _ (dstOk_lt hd.1) undef) (h.no hc))
theorem wp_region_opsTo {P : Program} {id : Nat} {l : List Oper} {Q : Exit → Act → World → Prop} {a : Act} {w : World} (h : OpsTo P l.toArray Q (List.range' 0 l.length) a w) : (Code.region id l.toArray false).wp P Q a w := fun b k cs => by
  have hs := step_region (P := P) (b := b) (a := a) (k := k) (cs := cs) (w := w) (ops := l.toArray) (id := id)
  obtain ⟨e, a', w', q, r⟩ := h b k cs
  rw [← List.range_eq_range'] at r
  exact ⟨e, a', w', q, .of_steps (.one (by simpa using hs)) r⟩
end Go.Proofs.Ytopcnkejobomaaa
