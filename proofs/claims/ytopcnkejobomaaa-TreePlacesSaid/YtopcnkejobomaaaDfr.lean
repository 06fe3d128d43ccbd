/- Functions that defer one closure of their own at their beginning; the closure, which asks recover first. No program is named here. -/
import Derived.Test.YtopcnkejobomaaaCode
import Derived.Defers
import Derived.Recover
namespace Go.Proofs.Ytopcnkejobomaaa

/-- Parts of a body. -/
def cl : Code → Code
  | .seq a _ => a
  | c => c
def cr : Code → Code
  | .seq _ b => b
  | c => c
def cop : Code → Nat → Oper
  | .region _ ops _, i => ops.getD i ⟨none, .move (.tmp 0), 0, "", #[], none⟩
  | _, _ => ⟨none, .move (.tmp 0), 0, "", #[], none⟩
def allC : List ResultVar → Bool
  | [] => true
  | .cell _ _ :: l => allC l
  | .tmp _ :: _ => false
/-- The cells of the results. -/
def resC : List ResultVar → Env → List (TypeId × Value)
  | [], _ => []
  | .cell a t :: l, e => (t, e a) :: resC l e
  | .tmp _ :: l, e => resC l e
def retc (P : Program) : List (TypeId × Value) → World → (List Value → Prop) → Prop
  | [], _, k => k []
  | (t, a) :: l, w, k => rcell P t a w fun v => retc P l w fun vs => k (v :: vs)
theorem retc_retw {P : Program} {e : Env} {w : World} : ∀ {rs : List ResultVar} {k : List Value → Prop}, allC rs = true → retc P (resC rs e) w k → retw P rs e w k
  | [], _, _, h => h
  | .cell _ _ :: _, _, hr, h => ⟨h.out.imp fun _ hv => ⟨hv.1, retc_retw hr hv.2⟩⟩
  | .tmp _ :: _, _, hr, _ => by cases hr
/-- What a frame answers once its one deferred call has come back. -/
def dres (P : Program) (cs : List (TypeId × Value)) (R : Ending → World → Prop) : Ending → FrameMode → World → Prop
  | .returned _, u, w => (match settle u with
    | .returning => retc P cs w fun vs => R (.returned (pack vs)) w
    | .panicking c => R (.panicked c) w
    | .run => False)
  | .panicked chain, u, w => (match raised u chain with
    | .panicking c => R (.panicked c) w
    | .returning => False
    | .run => False)
  | .outgrown, _, w => R .outgrown w
/-- A frame that ends thus goes on with its deferred call. -/
def dR (P : Program) (g : Nat) (caps : List Value) (cs : List (TypeId × Value)) (R : Ending → World → Prop) : Ending → World → Prop
  | .returned _, w => CallsD P g caps.toArray .returning w (dres P cs R)
  | .panicked c, w => CallsD P g caps.toArray (.panicking c) w (dres P cs R)
  | .outgrown, w => R .outgrown w
def retPostD (P : Program) (rs : List ResultVar) (g : Nat) (caps : List Value) (R : Ending → World → Prop) : EPost
  | .normal, e, w => dR P g caps (resC rs e) R (.returned undef) w
  | .ret, e, w => dR P g caps (resC rs e) R (.returned undef) w
  | .panic c, e, w => dR P g caps (resC rs e) R (.panicked c) w
  | _, _, _ => False
/-- What comes behind the beginning. -/
def dfrPost (P : Program) (A : Ann) (c2 : Code) (rs : List ResultVar) (d g : Nat) (caps : List Operand) (R : Ending → World → Prop) : EPost
  | .normal, e, w => cwp P A c2 (retPostD P rs g (caps.map (ev e)) R) (e.set (some d) (.func (.func g) #[] (caps.map (ev e)).toArray)) w
  | .panic c, _, w => R (.panicked c) w
  | _, _, _ => False
theorem retc_run {P : Program} {fn : Func} {n : Nat} {a : Act} {e : Env} {D : List Deferred} (hr : Rel n D a e) (hrs : allC fn.results.toList = true) {w : World} {R : Ending → World → Prop}
    (h : retc P (resC fn.results.toList e) w fun vs => R (.returned (pack vs)) w) : ∃ v, (results fn a.tmps).run P w = .ok v w ∧ R (.returned v) w :=
  (retw_post (a := { a with defers := [] }) (n := n) ⟨hr.size, rfl, hr.at_⟩ (retc_retw hrs h)).2
theorem dR_leaves {P : Program} {fn : Func} {n : Nat} {a : Act} {e : Env} {w : World} {R : Ending → World → Prop} {g : Nat} {caps : List Value} (hrs : allC fn.results.toList = true)
    (hg : ((P.funcs[g]?).map fun fn => fn.body.isSome && fn.name != "runtime.NumGoroutine") = some true)
    (hr : Rel n [{ target := .fn (.func g) caps.toArray, args := #[] }] a e) {u : FrameMode} (hu : u ≠ .run)
    (h : CallsD P g caps.toArray u w (dres P (resC fn.results.toList e) R)) : Leaves P fn a.tmps R a.defers u w := by
  rw [hr.defers]
  refine leaves_cons (f := g) (args := caps.toArray) hu ?_ (h.mono ?_)
  · cases hf : P.funcs[g]? with
    | none => rw [hf] at hg; simp at hg
    | some fn =>
      rw [hf] at hg
      simp at hg
      cases hbd : fn.body with
      | none => rw [hbd] at hg; simp at hg
      | some c => simp [invoke, callFunc, go_sem, hf, hg, hbd]
  · intro en u' w' hd
    cases en with
    | returned v =>
      simp only [dres] at hd
      show Leaves P fn a.tmps R [] (settle u') w'
      split at hd
      · rename_i hs
        rw [hs]
        exact retc_run hr hrs hd
      · rename_i hs
        rw [hs]
        exact hd
      · exact hd.elim
    | panicked c =>
      simp only [dres] at hd
      show Leaves P fn a.tmps R [] (raised u' c) w'
      split at hd
      · rename_i hs
        rw [hs]
        exact hd
      · exact hd.elim
      · exact hd.elim
    | outgrown => exact hd
theorem calls_cwpD {P : Program} {A : Ann} {f : FuncId} {fn : Func} {c1 c2 : Code} {id d g : Nat} {o1 o2 : Oper} {caps : List Operand} {args : List Value} {w : World} {R : Ending → World → Prop} (hm : P.follows .mixedOrders = true)
    (hf : P.funcs[f]? = some fn) (hb : fn.body = some (.seq c1 (.seq (.region id #[o1, o2] false) c2)))
    (h1 : o1.op = .makeFunc (.func g) #[] caps.toArray ∧ o1.dst = some d ∧ o1.guard = none) (h2 : o2.op = .defer ⟨.value (.tmp d), #[], #[]⟩ ∧ o2.dst = none ∧ o2.guard = none)
    (hd : Nat.blt d fn.ntmps = true) (hn : Nat.ble args.length fn.ntmps = true) (hok1 : codeOk fn.ntmps A c1 = true) (hok2 : codeOk fn.ntmps A c2 = true) (hrs : allC fn.results.toList = true)
    (hg : ((P.funcs[g]?).map fun fn => fn.body.isSome && fn.name != "runtime.NumGoroutine") = some true)
    (h : cwp P A c1 (dfrPost P A c2 fn.results.toList d g caps R) (argE args) w) : Calls P f args.toArray w R := by
  have hn := Nat.le_of_ble_eq_true hn
  have hd : d < fn.ntmps := by simpa using hd
  refine calls_of_wp_defers hf hb (wp_seq (wp_mono (cwp_sound (n := fn.ntmps) (D := []) hm c1 _ (argE args) _ w hok1 ⟨?_, rfl, fun s => ?_⟩ h) ?_))
  · simp; omega
  · simp only [argE, List.getD_eq_getElem?_getD, Array.getD_eq_getD_getElem?, Array.getElem?_append, List.size_toArray, List.getElem?_toArray]
    split
    · rfl
    · rw [List.getElem?_eq_none (by omega)]
      simp [Array.getElem?_replicate]
      split <;> rfl
  · rintro ex a w' ⟨e, hr, hq, _⟩
    cases ex with
    | panic c =>
      show Leaves P fn a.tmps R a.defers _ _
      rw [hr.defers]
      exact hq
    | normal =>
      show Code.wp _ _ _ _ _
      have hq : cwp P A c2 _ _ w' := hq
      refine wp_seq (wp_region ?_)
      have hv : (Value.func (.func g) #[] (caps.map (ev e)).toArray) = .func (.func g) #[] (caps.toArray.map a.eval) := by rw [hr.ev]; simp
      have hS : (Array.size #[o1, o2]) = 2 := rfl
      rw [hS]
      show wpOps P #[o1, o2] _ [0, 1] a w'
      have x1 : (#[o1, o2] : Array Oper)[0]? = some o1 := rfl
      have x2 : (#[o1, o2] : Array Oper)[1]? = some o2 := rfl
      have y1 : ∀ t, Region.wanted o1 t = true := fun t => by simp [Region.wanted, h1.2.2]
      have y2 : ∀ t, Region.wanted o2 t = true := fun t => by simp [Region.wanted, h2.2.2]
      simp only [wpOps, x1, x2, y1, y2, if_true]
      refine .inl ?_
      have e1 : (execOp a.eval o1).run P w' = .ok (.value (.func (.func g) #[] (caps.map (ev e)).toArray)) w' := by
        rw [hv]
        simp [execOp, h1.1, Instr.makeFunc, go_sem]
      unfold Oper.wp
      rw [e1, Oper.upon_value, h1.2.1]
      refine .inl ?_
      have hr1 := hr.put (some d) (fun k hk => by cases hk; exact hd) (.func (.func g) #[] (caps.map (ev e)).toArray)
      have hsz : d < a.tmps.size := by rw [hr.size]; exact hd
      have e2 : (execOp (a.put (some d) (.func (.func g) #[] (caps.map (ev e)).toArray)).eval o2).run P w' = .ok (.defer { target := .fn (.func g) (caps.map (ev e)).toArray, args := #[] }) w' := by
        simp [execOp, h2.1, resolve, Deferred.ofValue, hsz, go_sem]
      rw [e2, Oper.upon_defer, h2.2.1]
      show Code.wp _ _ _ _ _
      have hr2 : Rel fn.ntmps [{ target := .fn (.func g) (caps.map (ev e)).toArray, args := #[] }] ({ a.put (some d) (.func (.func g) #[] (caps.map (ev e)).toArray) with defers := { target := .fn (.func g) (caps.map (ev e)).toArray, args := #[] } :: (a.put (some d) (.func (.func g) #[] (caps.map (ev e)).toArray)).defers }) (e.set (some d) (.func (.func g) #[] (caps.map (ev e)).toArray)) :=
        ⟨hr1.size, by rw [hr1.defers], hr1.at_⟩
      refine wp_mono (cwp_sound (n := fn.ntmps) hm c2 _ _ _ w' hok2 hr2 hq) ?_
      rintro ex a3 w3 ⟨e3, hr3, hq3, _⟩
      cases ex with
      | normal => exact dR_leaves hrs hg hr3 (by simp) hq3
      | ret => exact dR_leaves hrs hg hr3 (by simp) hq3
      | panic c => exact dR_leaves hrs hg hr3 (by simp) hq3
      | _ => exact hq3.elim
    | ret => exact hq.elim
    | _ => exact hq.elim
/-- What recover hands out, and the mode behind it. -/
def rcv : FrameMode → Value × FrameMode
  | .panicking ({ v, recovered := false, goexit := false } :: older) => (v, .panicking ({ v, recovered := true } :: older))
  | u => (.nilIface, u)
def clPost (P : Program) (rs : List ResultVar) (R : Ending → FrameMode → World → Prop) (u : FrameMode) : EPost
  | .normal, e, w => retw P rs e w fun vs => R (.returned (pack vs)) u w
  | .ret, e, w => retw P rs e w fun vs => R (.returned (pack vs)) u w
  | .panic c, _, w => R (.panicked c) u w
  | _, _, _ => False
theorem rcv_recoverD {c₀ : Frame} {cs : List Frame} {u : FrameMode} (hu : c₀.mode = u) :
    (∃ v, recoverD (c₀ :: cs) = some (v, { c₀ with mode := (rcv u).2 } :: cs) ∧ (rcv u).1 = v) ∨ (recoverD (c₀ :: cs) = none ∧ (rcv u).1 = .nilIface ∧ (rcv u).2 = u) := by
  subst hu
  cases hm : c₀.mode with
  | run => right; simp [recoverD, rcv, hm]
  | returning => right; simp [recoverD, rcv, hm]
  | panicking l =>
    cases l with
    | nil => right; simp [recoverD, rcv, hm]
    | cons x older =>
      obtain ⟨v, b, ge⟩ := x
      cases b <;> cases ge <;> simp [recoverD, rcv, hm]
theorem callsD_cwp {P : Program} {A : Ann} {g : FuncId} {fn : Func} {c2 : Code} {id r d : Nat} {o1 o2 : Oper} {caps : List Value} {w : World} {R : Ending → FrameMode → World → Prop} {u : FrameMode} (hm : P.follows .mixedOrders = true)
    (hf : P.funcs[g]? = some fn) (hb : fn.body = some (.seq (.region id #[o1, o2] false) c2))
    (h1 : o1.op = .call ⟨.builtin .recover, #[], #[]⟩ ∧ o1.dst = some r ∧ o1.guard = none) (h2 : o2.op = .assign (.tmp r) ∧ o2.dst = some d ∧ o2.guard = none)
    (hr : Nat.blt r fn.ntmps = true) (hd : Nat.blt d fn.ntmps = true) (hn : Nat.ble caps.length fn.ntmps = true) (hok : codeOk fn.ntmps A c2 = true)
    (h : cwp P A c2 (clPost P fn.results.toList R (rcv u).2) (((argE caps).set (some r) (rcv u).1).set (some d) (rcv u).1) w) : CallsD P g caps.toArray u w R := by
  have hn := Nat.le_of_ble_eq_true hn
  have hr : r < fn.ntmps := by simpa using hr
  have hd : d < fn.ntmps := by simpa using hd
  refine callsD_of_wpS hf hb fun c₀ cs hu => wpS_seq (wpS_region ?_)
  have hrel : Rel fn.ntmps [] { tmps := caps.toArray ++ Array.replicate (fn.ntmps - caps.toArray.size) undef, defers := [] } (argE caps) := by
    refine ⟨?_, rfl, fun s => ?_⟩
    · simp; omega
    · simp only [argE, List.getD_eq_getElem?_getD, Array.getD_eq_getD_getElem?, Array.getElem?_append, List.size_toArray, List.getElem?_toArray]
      split
      · rfl
      · rw [List.getElem?_eq_none (by omega)]
        simp [Array.getElem?_replicate]
        split <;> rfl
  generalize { tmps := caps.toArray ++ Array.replicate (fn.ntmps - caps.toArray.size) undef, defers := [] : Act } = a at hrel ⊢
  generalize argE caps = e at hrel h
  show wpOpsS P #[o1, o2] _ [0, 1] a (c₀ :: cs) w
  have x1 : (#[o1, o2] : Array Oper)[0]? = some o1 := rfl
  have x2 : (#[o1, o2] : Array Oper)[1]? = some o2 := rfl
  have y1 : ∀ t, Region.wanted o1 t = true := fun t => by simp [Region.wanted, h1.2.2]
  have y2 : ∀ t, Region.wanted o2 t = true := fun t => by simp [Region.wanted, h2.2.2]
  have e1 : (execOp a.eval o1).run P w = .ok .recover w := by
    simp [execOp, h1.1, resolve, invoke, builtin, go_sem]
  have e2 : ∀ v, (execOp (a.put (some r) v).eval o2).run P w = .ok (.value v) w := fun v => by
    have hsz : r < a.tmps.size := by rw [hrel.size]; exact hr
    simp [execOp, h2.1, hsz, go_sem]
  have last : ∀ v cs', (rcv u).1 = v → cs' = { c₀ with mode := (rcv u).2 } :: cs → c2.wpS P (bodyPostS P fn c₀ cs R) ((a.put (some r) v).put (some d) v) cs' w := by
    rintro v cs' rfl rfl
    have hr1 := hrel.put (some r) (fun k hk => by cases hk; exact hr) (rcv u).1
    have hr2 := hr1.put (some d) (fun k hk => by cases hk; exact hd) (rcv u).1
    refine wpS_of_wp (wp_mono (cwp_sound (n := fn.ntmps) hm c2 _ _ _ w hok hr2 h) ?_)
    rintro ex a3 w3 ⟨e3, hr3, hq3, _⟩
    cases ex with
    | normal => exact ⟨hr3.defers, _, rfl, (retw_post (R := fun en w => R en (rcv u).2 w) hr3 hq3).2⟩
    | ret => exact ⟨hr3.defers, _, rfl, (retw_post (R := fun en w => R en (rcv u).2 w) hr3 hq3).2⟩
    | panic c => exact ⟨hr3.defers, _, rfl, hq3⟩
    | _ => exact hq3.elim
  rcases rcv_recoverD (cs := cs) hu with ⟨v, k1, k2⟩ | ⟨k1, k2, k3⟩
  · simp only [wpOpsS, x1, x2, y1, y2, if_true, e1, h1.2.1, h2.2.1, k1, e2, Oper.upon_value]
    exact last v _ k2 rfl
  · simp only [wpOpsS, x1, x2, y1, y2, if_true, e1, h1.2.1, h2.2.1, k1, e2, Oper.upon_value]
    exact last _ _ k2 (by rw [k3, ← hu])
end Go.Proofs.Ytopcnkejobomaaa
