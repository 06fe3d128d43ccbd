/- Regions that draw their order: the order of the text serves, if what has an effect comes in one order, and what has none yields the same in each world that may stand there. No program is named here. -/
import Derived.Test.YtopcnkejobomaaaEnv
namespace Go.Proofs.Ytopcnkejobomaaa

/-- New memory and draws alone. -/
def Ext (w w' : World) : Prop := Only (fun _ => False) w w'
theorem Ext.refl (w : World) : Ext w w := Only.refl _ w
theorem Ext.trans {a b c : World} (h : Ext a b) (k : Ext b c) : Ext a c := Only.trans h k (fun _ _ h => h)
def Drawn (w w' : World) : Prop := ∃ n, w' = w.drewN n
theorem Drawn.refl (w : World) : Drawn w w := ⟨0, rfl⟩
theorem Drawn.trans {a b c : World} (h : Drawn a b) (k : Drawn b c) : Drawn a c := by
  obtain ⟨n, rfl⟩ := h
  obtain ⟨m, rfl⟩ := k
  exact ⟨n + m, by simp⟩
theorem Drawn.ext {a b : World} (h : Drawn a b) : Ext a b := by
  obtain ⟨n, rfl⟩ := h
  exact (Only.refl _ a).drewN n
theorem Only.trans1 {S : Nat → Prop} {a b c : World} (h : Only S a b) (k : Only S b c) : Only S a c := Only.trans h k (fun _ _ h => h)
theorem Drawn.onlyS (S : Nat → Prop) {a b : World} (h : Drawn a b) : Only S a b := by
  obtain ⟨n, rfl⟩ := h
  exact (Only.refl _ a).drewN n
/-- What effects that come in any order leave as it was. -/
structure Rl where
  r : World → World → Prop
  rf : ∀ w, r w w
  tr : ∀ {a b c : World}, r a b → r b c → r a c
  dr : ∀ {a b : World}, Drawn a b → r a b
def Rl.only (S : Nat → Prop) : Rl := ⟨Only S, Only.refl S, Only.trans1, Drawn.onlyS S⟩
/-- It yields just v, and only draws. -/
def opq (P : Program) (s : Sem Next) (w : World) (v : Value) : Prop :=
  match s.run P w with
  | .ok (.value u) w' => u = v ∧ Drawn w w'
  | .ok .skip w' => v = undef ∧ Drawn w w'
  | _ => False
theorem opq_det {P : Program} {s : Sem Next} {w : World} {v u : Value} (h : opq P s w v) (k : opq P s w u) : v = u := by
  unfold opq at h k
  split at h
  · rename_i hr; rw [hr] at k; exact h.1.symm.trans k.1
  · rename_i hr; rw [hr] at k; exact h.1.trans k.1.symm
  · exact h.elim
structure dqb (P : Program) (B : World → Prop) (s : Sem Next) (K : Value → Prop) : Prop where
  out : ∃ v, (∀ w', B w' → opq P s w' v) ∧ K v
def dq (P : Program) (w : World) (s : Sem Next) (K : Value → Prop) : Prop := dqb P (Ext w) s K
/-- The same where effects that come in any order may turn the blocks of S. -/
def dqS (P : Program) (S : Rl) (w : World) (s : Sem Next) (K : Value → Prop) : Prop := dqb P (S.r w) s K
def dp (P : Program) (s : Sem Next) (K : Value → Prop) : Prop := dqb P (fun _ => True) s K
structure dfS (P : Program) (S : Rl) (w : World) (s : Sem Next) (ext : Bool) (K : Value → World → Prop) : Prop where
  out : ∀ w1, Drawn w w1 → mop P s w1 (fun v w' => (ext = true → S.r w w') ∧ K v w') (fun _ _ => False)
abbrev df (P : Program) (w : World) (s : Sem Next) (ext : Bool) (K : Value → World → Prop) : Prop := dfS P (Rl.only fun _ => False) w s ext K
structure dend (w : World) (K : World → Prop) : Prop where
  out : ∀ w', Drawn w w' → K w'

inductive DK where
  | q (lo : Option Nat)
  | f (rank : Nat) (ext : Bool)
/-- What is told of an operation beside its text: its number, its kind, the slots that it looks at, what came ahead of it, its own slot (as bits). -/
structure DA where
  i : Nat
  k : DK
  lk : Nat
  bm : Nat
  db : Nat
structure It where
  o : Oper
  a : DA
def It.i (x : It) : Nat := x.a.i
def It.k (x : It) : DK := x.a.k
def baseOf (S : Rl) (lo : Option Nat) (ws : List World) (w : World) : World → Prop :=
  match lo with
  | none => fun _ => True
  | some k => S.r (ws.getD k w)
theorem baseOf_some (S : Rl) (lo : Option Nat) (ws : List World) (w : World) : ∃ w', baseOf S lo ws w w' := by
  cases lo with
  | none => exact ⟨w, trivial⟩
  | some k => exact ⟨_, S.rf _⟩
structure qguard (c : Value) (want : Bool) (run : (Value → Prop) → Prop) (K : Value → Prop) : Prop where
  yes : c = .bool want → run K
  no : c ≠ .bool want → K undef
theorem moveOf_q {P : Program} {o : Oper} {x : Operand} (h : moveOf o = some x) (ρ : Operand → Value) (w : World) : opq P (opE ρ o) w (ρ x) := by
  unfold moveOf at h
  split at h
  · cases h
    rename_i ho
    unfold opE
    rw [ho]
    exact ⟨rfl, Drawn.refl w⟩
  · cases h
    rename_i ho
    unfold opE
    rw [ho]
    exact ⟨rfl, Drawn.refl w⟩
  · cases h
def drw (P : Program) (S : Rl) (ops : List Oper) (K : Env → World → Prop) : List Oper → List DA → Env → List World → World → Prop
  | o :: l, ⟨_, .q lo, _, _, _⟩ :: ds, e, ws, w =>
    match o.guard with
    | none =>
      match moveOf o with
      | some x => drw P S ops K l ds (e.set o.dst (ev e x)) ws w
      | none => dqb P (baseOf S lo ws w) (opE (ev e) o) (fun v => drw P S ops K l ds (e.set o.dst v) ws w)
    | some (j, want) => qguard (guardV ops e j) want (fun k => dqb P (baseOf S lo ws w) (opE (ev e) o) k) (fun v => drw P S ops K l ds (e.set o.dst v) ws w)
  | o :: l, ⟨_, .f _ ext, _, _, _⟩ :: ds, e, ws, w =>
    match o.guard with
    | none => dfS P S w (opE (ev e) o) ext (fun v w' => drw P S ops K l ds (e.set o.dst v) (ws ++ [w']) w')
    | some (j, want) => mguard (guardV ops e j) want (fun k => dfS P S w (opE (ev e) o) ext k) w (fun v w' => drw P S ops K l ds (e.set o.dst v) (ws ++ [w']) w')
  | _, _, e, _, w => dend w (fun w' => K e w')
/-- The same over what is left. -/
def drl (P : Program) (S : Rl) (ops : List Oper) (K : Env → World → Prop) (l : List It) : Env → List World → World → Prop := drw P S ops K (l.map (·.o)) (l.map (·.a))

/-- The value of an operation without effect. -/
def ValQ (P : Program) (ops : List Oper) (o : Oper) (e : Env) (B : World → Prop) (v : Value) : Prop :=
  match o.guard with
  | none => ∀ w', B w' → opq P (opE (ev e) o) w' v
  | some (j, want) => (guardV ops e j = .bool want → ∀ w', B w' → opq P (opE (ev e) o) w' v) ∧ (guardV ops e j ≠ .bool want → v = undef)
def EffF (P : Program) (S : Rl) (ops : List Oper) (o : Oper) (e : Env) (w : World) (ext : Bool) (K : Value → World → Prop) : Prop :=
  match o.guard with
  | none => dfS P S w (opE (ev e) o) ext K
  | some (j, want) => mguard (guardV ops e j) want (fun k => dfS P S w (opE (ev e) o) ext k) w K
section
variable {P : Program} {S : Rl} {ops : List Oper} {K : Env → World → Prop}
theorem drw_q {i lk bm db : Nat} {lo : Option Nat} {o : Oper} {l : List It} {e : Env} {ws : List World} {w : World} :
    drl P S ops K (⟨o, i, .q lo, lk, bm, db⟩ :: l) e ws w ↔ ∃ v, ValQ P ops o e (baseOf S lo ws w) v ∧ drl P S ops K l (e.set o.dst v) ws w := by
  unfold drl
  simp only [List.map_cons]
  rw [drw]
  unfold ValQ
  cases hg : o.guard with
  | none =>
    simp only []
    cases hmv : moveOf o with
    | none => exact ⟨fun h => h.out, fun h => ⟨h⟩⟩
    | some x =>
      constructor
      · intro h
        exact ⟨ev e x, fun w' _ => moveOf_q hmv _ _, h⟩
      · intro ⟨v, h1, h2⟩
        obtain ⟨w0, hw0⟩ := baseOf_some S lo ws w
        have := opq_det (h1 _ hw0) (moveOf_q hmv (ev e) _)
        subst this
        exact h2
  | some g =>
    obtain ⟨j, want⟩ := g
    simp only []
    by_cases hc : guardV ops e j = .bool want
    · constructor
      · intro h
        obtain ⟨v, h1, h2⟩ := (h.yes hc).out
        exact ⟨v, ⟨fun _ => h1, fun hn => absurd hc hn⟩, h2⟩
      · intro ⟨v, h1, h2⟩
        exact ⟨fun _ => ⟨⟨v, h1.1 hc, h2⟩⟩, fun hn => absurd hc hn⟩
    · constructor
      · intro h
        exact ⟨undef, ⟨fun h => absurd h hc, fun _ => rfl⟩, h.no hc⟩
      · intro ⟨v, h1, h2⟩
        have := h1.2 hc
        subst this
        exact ⟨fun h => absurd h hc, fun _ => h2⟩
theorem drw_f {i r lk bm db : Nat} {ext : Bool} {o : Oper} {l : List It} {e : Env} {ws : List World} {w : World} :
    drl P S ops K (⟨o, i, .f r ext, lk, bm, db⟩ :: l) e ws w ↔ EffF P S ops o e w ext (fun v w' => drl P S ops K l (e.set o.dst v) (ws ++ [w']) w') := by
  unfold drl
  simp only [List.map_cons]
  rw [drw]
  unfold EffF
  cases o.guard <;> exact Iff.rfl
theorem ValQ.det {o : Oper} {e : Env} {B : World → Prop} {v u : Value} (hB : ∃ w, B w) (h : ValQ P ops o e B v) (k : ValQ P ops o e B u) : v = u := by
  obtain ⟨w, hw⟩ := hB
  unfold ValQ at h k
  cases hg : o.guard with
  | none =>
    simp only [hg] at h k
    exact opq_det (h w hw) (k w hw)
  | some g =>
    obtain ⟨j, want⟩ := g
    simp only [hg] at h k
    by_cases hc : guardV ops e j = .bool want
    · exact opq_det (h.1 hc w hw) (k.1 hc w hw)
    · exact (h.2 hc).trans (k.2 hc).symm
theorem df_mono {w : World} {s : Sem Next} {ext : Bool} {K K' : Value → World → Prop} (h : dfS P S w s ext K) (hk : ∀ v w', K v w' → K' v w') : dfS P S w s ext K' :=
  ⟨fun w1 h1 => mop_mono (h.out w1 h1) (fun v w' h => ⟨h.1, hk v w' h.2⟩) (fun _ _ h => h)⟩
theorem EffF.mono {o : Oper} {e : Env} {w : World} {ext : Bool} {K K' : Value → World → Prop} (h : EffF P S ops o e w ext K) (hk : ∀ v w', K v w' → K' v w') : EffF P S ops o e w ext K' := by
  unfold EffF at h ⊢
  cases hg : o.guard with
  | none => simp only [hg] at h ⊢; exact df_mono h hk
  | some g =>
    simp only [hg] at h ⊢
    exact ⟨fun hc => df_mono (h.yes hc) hk, fun hc => hk _ _ (h.no hc)⟩
theorem EffF.some {o : Oper} {e : Env} {w : World} {ext : Bool} {K : Value → World → Prop} (h : EffF P S ops o e w ext K) : ∃ v w', K v w' := by
  have hd : dfS P S w (opE (ev e) o) ext K → ∃ v w', K v w' := fun h => by
    obtain ⟨v, w', _, hk⟩ := mop_some (h.out w (Drawn.refl w))
    exact ⟨v, w', hk⟩
  unfold EffF at h
  cases hg : o.guard with
  | none => simp only [hg] at h; exact hd h
  | some g =>
    simp only [hg] at h
    by_cases hc : guardV ops e g.1 = .bool g.2
    · exact hd (h.yes hc)
    · exact ⟨_, _, h.no hc⟩

/-- The operands of an operation. -/
def opsOf : Op → List Operand
  | .move x | .assign x | .box _ x | .load _ x | .nilCheck x | .unOp _ _ x | .convert _ _ x | .sliceToArrayPointer _ x | .makeInterface _ x | .fieldAddr _ x _ | .field _ x _ | .range _ x | .next x _ | .entry x | .typeAssert x _ _ _ | .extract x _ | .panic x => [x]
  | .pick c a b => [c, a, b]
  | .build _ ps => ps.toList.map (·.2)
  | .buildSlice _ _ ps => ps.toList.map (·.2)
  | .store _ a v | .binOp _ _ a v _ | .makeSlice _ a v | .indexAddr _ a v | .index _ a v | .lookup _ a v _ | .mapEntry _ a v => [a, v]
  | .makeFunc _ first captured => first.toList ++ captured.toList
  | .makeMap _ r => r.toList
  | .makeChan _ n => [n]
  | .select cs _ => cs.toList.flatMap fun s => s.chan :: s.send.toList
  | .slice _ x l h m => x :: (l.toList ++ (h.toList ++ m.toList))
  | .mapUpdate _ m k v | .entryStore _ m k v | .insert _ m k v => [m, k, v]
  | .call c => (match c.callee with
    | .value f => [f]
    | .invoke r _ => [r]
    | .builtin _ => []) ++ c.args.toList
  | _ => []
theorem opE_congr {ρ ρ' : Operand → Value} (o : Oper) (h : ∀ x ∈ opsOf o.op, ρ x = ρ' x) : opE ρ o = opE ρ' o := by
  obtain ⟨dst, op, type, pos, after, guard⟩ := o
  have lists : ∀ xs : Array Operand, (∀ x ∈ xs.toList, ρ x = ρ' x) → xs.toList.map ρ = xs.toList.map ρ' := fun xs hx => List.map_congr_left fun x hm => hx x hm
  have pairs : ∀ ps : Array (Nat × Operand), (∀ p ∈ ps.toList, ρ p.2 = ρ' p.2) → ps.toList.map (fun p => (p.1, ρ p.2)) = ps.toList.map (fun p => (p.1, ρ' p.2)) := fun ps hp => List.map_congr_left fun p hm => by rw [hp p hm]
  have opts : ∀ x : Option Operand, (∀ y ∈ x.toList, ρ y = ρ' y) → x.map ρ = x.map ρ' := fun x hx => by
    cases x with
    | none => rfl
    | some y => simp only [Option.map_some]; rw [hx y (by simp)]
  cases op <;> simp only [opsOf] at h <;> simp only [opE]
  case build t ps => rw [pairs ps fun p hp => h p.2 (List.mem_map.2 ⟨p, hp, rfl⟩)]
  case buildSlice t n ps => rw [pairs ps fun p hp => h p.2 (List.mem_map.2 ⟨p, hp, rfl⟩)]
  case makeFunc fn first captured => rw [lists first fun x hx => h x (by simp at hx; simp [hx]), lists captured fun x hx => h x (by simp at hx; simp [hx])]
  case makeMap t r => rw [opts r h]
  case select cs b =>
    rw [List.map_congr_left (g := fun s => (ρ' s.chan, s.send.map ρ', s.elem)) fun s hs => by
      rw [h s.chan (List.mem_flatMap.2 ⟨s, hs, by simp⟩), opts s.send fun y hy => h y (List.mem_flatMap.2 ⟨s, hs, List.mem_cons_of_mem _ hy⟩)]]
  case slice t x lo hi mx => rw [h x (by simp), opts lo fun y hy => h y (by simp at hy; simp [hy]), opts hi fun y hy => h y (by simp at hy; simp [hy]), opts mx fun y hy => h y (by simp at hy; simp [hy])]
  case call c =>
    obtain ⟨callee, args, argTypes⟩ := c
    cases callee <;> simp only [] at h <;> simp only []
    case value f => rw [h f (by simp), lists args fun x hx => h x (by simp at hx; simp [hx])]
    case invoke r name => rw [h r (by simp), lists args fun x hx => h x (by simp at hx; simp [hx])]
    case builtin b => rw [lists args fun x hx => h x (by simp at hx; simp [hx])]
  all_goals first
    | rfl
    | (rw [h _ (by simp), h _ (by simp), h _ (by simp)]; done)
    | (rw [h _ (by simp), h _ (by simp)]; done)
    | (rw [h _ (by simp)]; done)
def tmpBit : Operand → Nat
  | .tmp t => 2 ^ t
  | _ => 0
def orAll : List Nat → Nat
  | [] => 0
  | x :: l => x ||| orAll l
/-- The slots that an operation looks at, as bits. -/
def looksB (ops : List Oper) (o : Oper) : Nat :=
  orAll ((opsOf o.op).map tmpBit) ||| (match o.guard with
    | some (g, _) => (match (ops[g]?).bind (·.dst) with
      | some d => 2 ^ d
      | none => 0)
    | none => 0)
theorem orAll_bit {l : List Nat} {x s : Nat} (h : x ∈ l) (hs : x.testBit s = true) : (orAll l).testBit s = true := by
  induction l with
  | nil => cases h
  | cons y l ih =>
    rw [orAll, Nat.testBit_or]
    rcases List.mem_cons.1 h with rfl | h
    · simp [hs]
    · simp [ih h]

/-- Two environments alike at all that an operation looks at. -/
def Sees (ops : List Oper) (o : Oper) (e e' : Env) : Prop := ∀ t, (looksB ops o).testBit t = true → e t = e' t
theorem Sees.op {o : Oper} {e e' : Env} (h : Sees ops o e e') : opE (ev e) o = opE (ev e') o := by
  refine opE_congr o fun x hx => ?_
  cases x with
  | tmp t => exact h t (by rw [looksB, Nat.testBit_or, orAll_bit (List.mem_map.2 ⟨.tmp t, hx, rfl⟩) (by simp [tmpBit, Nat.testBit_two_pow_self])]; rfl)
  | _ => rfl
theorem Sees.guard {o : Oper} {e e' : Env} (h : Sees ops o e e') {j : Nat} {want : Bool} (hg : o.guard = some (j, want)) : guardV ops e j = guardV ops e' j := by
  unfold guardV
  cases hd : (ops[j]?).bind (·.dst) with
  | none => rfl
  | some d => exact h d (by rw [looksB, Nat.testBit_or, hg]; simp only [hd]; simp [Nat.testBit_two_pow_self])
theorem Sees.valQ {o : Oper} {e e' : Env} (h : Sees ops o e e') {B : World → Prop} {v : Value} (hv : ValQ P ops o e B v) : ValQ P ops o e' B v := by
  unfold ValQ at hv ⊢
  cases hg : o.guard with
  | none => simp only [hg] at hv ⊢; rwa [← h.op]
  | some g =>
    obtain ⟨j, want⟩ := g
    simp only [hg] at hv ⊢
    rwa [← h.op, ← h.guard hg]
theorem Sees.effF {o : Oper} {e e' : Env} (h : Sees ops o e e') {w : World} {ext : Bool} {K : Value → World → Prop} (hv : EffF P S ops o e w ext K) : EffF P S ops o e' w ext K := by
  unfold EffF at hv ⊢
  cases hg : o.guard with
  | none => simp only [hg] at hv ⊢; rwa [← h.op]
  | some g =>
    obtain ⟨j, want⟩ := g
    simp only [hg] at hv ⊢
    rwa [← h.op, ← h.guard hg]
theorem Env.set_ne {e : Env} {d : Option Nat} {v : Value} {s : Nat} (h : d ≠ some s) : e.set d v s = e s := by
  cases d with
  | none => rfl
  | some d =>
    have : Nat.beq s d = false := by
      cases hb : Nat.beq s d with
      | false => rfl
      | true => exact absurd (congrArg some (Nat.eq_of_beq_eq_true hb).symm) h
    simp [Env.set, this]
theorem Env.set_comm {e : Env} {x y : Option Nat} {v u : Value} (h : ∀ d, x = some d → y ≠ some d) : (e.set x v).set y u = (e.set y u).set x v := by
  funext s
  cases x with
  | none => rfl
  | some x =>
    cases y with
    | none => rfl
    | some y =>
      have hne : x ≠ y := fun he => h x rfl (by rw [he])
      simp only [Env.set]
      cases hx : Nat.beq s x <;> cases hy : Nat.beq s y <;> simp
      exact absurd ((Nat.eq_of_beq_eq_true hx).symm.trans (Nat.eq_of_beq_eq_true hy)) hne
theorem sees_set {x y : Oper} (h : ∀ d, y.dst = some d → (looksB ops x).testBit d = false) (e : Env) (v : Value) : Sees ops x e (e.set y.dst v) := fun t ht => (Env.set_ne (fun hd => by rw [h t hd] at ht; cases ht)).symm
/-- Two operations apart from one another. -/
def Apart (ops : List Oper) (x y : Oper) : Prop := (∀ d, x.dst = some d → (looksB ops y).testBit d = false) ∧ (∀ d, x.dst = some d → y.dst ≠ some d) ∧ (∀ d, y.dst = some d → (looksB ops x).testBit d = false)

/-- Each thing stands behind as many effects as it needs; the effects are numbered. -/
def wfl : List It → Nat → Prop
  | [], _ => True
  | ⟨_, _, .q none, _, _, _⟩ :: l, m => wfl l m
  | ⟨_, _, .q (some lo), _, _, _⟩ :: l, m => lo < m ∧ wfl l m
  | ⟨_, _, .f r _, _, _, _⟩ :: l, m => r + 1 = m ∧ wfl l (m + 1)
def DK.isF : DK → Bool
  | .f .. => true
  | _ => false
def DK.may (k : DK) (m : Nat) : Prop :=
  match k with
  | .q (some lo) => lo < m
  | _ => True
theorem getD_push (ws : List World) (w w' : World) {k : Nat} (h : k < ws.length) : (ws ++ [w']).getD k w' = ws.getD k w := by
  simp [List.getD, List.getElem?_append_left h, h]
theorem base_push (ws : List World) (w w' : World) {lo : Option Nat} (h : (DK.q lo).may ws.length) : baseOf S lo (ws ++ [w']) w' = baseOf S lo ws w := by
  cases lo with
  | none => rfl
  | some k => simp only [baseOf]; rw [getD_push ws w w' h]
theorem wfl_q {i lk bm db : Nat} {o : Oper} {lo : Option Nat} {l : List It} {m : Nat} : wfl (⟨o, i, .q lo, lk, bm, db⟩ :: l) m ↔ (DK.q lo).may m ∧ wfl l m := by
  cases lo <;> simp [wfl, DK.may]
/-- What may come up now may be taken first. -/
theorem drw_front (x : It) : ∀ (l1 l2 : List It) (e : Env) (ws : List World) (w : World), wfl (l1 ++ x :: l2) ws.length → x.k.may ws.length →
    (∀ y ∈ l1, Apart ops y.o x.o ∧ (y.k.isF && x.k.isF) = false) → drl P S ops K (l1 ++ x :: l2) e ws w → drl P S ops K (x :: (l1 ++ l2)) e ws w
  | [], l2, e, ws, w, _, _, _, h => h
  | y :: l1, l2, e, ws, w, hwf, hm, hi, h => by
    obtain ⟨yo, yi, yk, yl, yb, yd⟩ := y
    obtain ⟨xo, xi, xk, xl, xb, xd⟩ := x
    obtain ⟨hap, hkk⟩ := hi ⟨yo, yi, yk, yl, yb, yd⟩ (by simp)
    obtain ⟨a1, a2, a3⟩ := hap
    simp only [] at a1 a2 a3
    have hi' : ∀ y ∈ l1, Apart ops y.o xo ∧ (y.k.isF && xk.isF) = false := fun y hy => hi y (List.mem_cons_of_mem _ hy)
    have sx := fun (e : Env) v => sees_set (ops := ops) (x := xo) (y := yo) a1 e v
    have sy := fun (e : Env) v => sees_set (ops := ops) (x := yo) (y := xo) a3 e v
    have sx' : ∀ (e : Env) v, Sees ops xo (e.set yo.dst v) e := fun e v t ht => (sx e v t ht).symm
    simp only [List.cons_append] at h hwf ⊢
    cases yk with
    | q lo =>
      obtain ⟨hlo, hwf⟩ := wfl_q.1 hwf
      rw [drw_q] at h
      obtain ⟨v, hv, h⟩ := h
      have h := drw_front ⟨xo, xi, xk, xl, xb, xd⟩ l1 l2 _ ws w hwf hm hi' h
      cases xk with
      | q lx =>
        rw [drw_q] at h ⊢
        obtain ⟨u, hu, h⟩ := h
        refine ⟨u, (sx' e v).valQ hu, ?_⟩
        rw [drw_q]
        refine ⟨v, (sy e u).valQ hv, ?_⟩
        rw [← Env.set_comm a2]
        exact h
      | f r ext =>
        rw [drw_f] at h ⊢
        refine ((sx' e v).effF h).mono fun u w' h => ?_
        rw [drw_q, base_push ws w w' hlo]
        refine ⟨v, (sy e u).valQ hv, ?_⟩
        rw [← Env.set_comm a2]
        exact h
    | f r ext =>
      obtain ⟨hr, hwf⟩ := hwf
      cases xk with
      | f _ _ => simp [It.k, DK.isF] at hkk
      | q lx =>
        rw [drw_f] at h
        have h := h.mono fun v w' h => drw_front ⟨xo, xi, .q lx, xl, xb, xd⟩ l1 l2 _ (ws ++ [w']) w' (by simpa using hwf) (by cases lx <;> simp [It.k, DK.may] at hm ⊢; omega) hi' h
        have h2 := h.mono fun v w' h => by
          rw [drw_q, base_push ws w w' hm] at h
          exact h
        obtain ⟨v0, w0, u, hu, _⟩ := h2.some
        have hu := (sx' e v0).valQ hu
        rw [drw_q]
        refine ⟨u, hu, ?_⟩
        rw [drw_f]
        refine ((sy e u).effF h2).mono fun v w' h => ?_
        obtain ⟨u', hu', h⟩ := h
        have := ((sx' e v).valQ hu').det (baseOf_some S lx ws w) hu
        subst this
        rw [← Env.set_comm a2]
        exact h


/-- What came ahead of an operation, by its edges. -/
def edgesL (bms : List Nat) : List Edge → Nat
  | [] => 0
  | e :: l => (bif Region.binds .any e then 2 ^ e.on ||| bms.getD e.on 0 else 0) ||| edgesL bms l
def has (a m : Nat) : Bool := Nat.beq (a ||| m) m
def linOk (n : Nat) (ops : List Oper) : List Oper → List DA → Nat → List Nat → Bool
  | o :: l, d :: ds, i, bms => Nat.beq d.i i && Nat.beq (bitOf o) d.db && has (looksB ops o) d.lk && has d.bm (edgesL bms o.after.toList) && (o.after.toList.all fun e => !Region.binds .any e || Nat.blt e.on i) && dstOk n o &&
    linOk n ops l ds (i + 1) (bms ++ [d.bm])
  | [], [], _, _ => true
  | _, _, _, _ => false
def zero (a b : Nat) : Bool := Nat.beq (a &&& b) 0
def pairOk (x y : DA) : Bool :=
  -- x stands ahead of y
  Nat.blt x.i y.i && (y.bm.testBit x.i || (zero y.lk x.db && zero x.db y.db && zero x.lk y.db && !(x.k.isF && y.k.isF))) &&
  (match x.k, y.k with
   | .f r ext, .q (some lo) => (!(Nat.blt r lo) || y.bm.testBit x.i) && (!(Nat.ble lo r) || ext)
   | .q (some lo), .f r ext => !(Nat.blt r lo) && (!(Nat.ble lo r) || y.bm.testBit x.i || ext)
   | _, _ => true)
def pairsOk : List DA → Bool
  | [] => true
  | x :: l => l.all (fun y => pairOk x y) && pairsOk l
def wflB : List DA → Nat → Bool
  | [], _ => true
  | ⟨_, .q none, _, _, _⟩ :: l, m => wflB l m
  | ⟨_, .q (some lo), _, _, _⟩ :: l, m => Nat.blt lo m && wflB l m
  | ⟨_, .f r _, _, _, _⟩ :: l, m => Nat.beq (r + 1) m && wflB l (m + 1)
def items (ops : List Oper) (ds : List DA) : List It := ops.zipWith It.mk ds
def drawOk (n : Nat) (ops : List Oper) (ds : List DA) : Bool := linOk n ops ops ds 0 [] && pairsOk ds && wflB ds 1

theorem wflB_spec : ∀ {l : List It} {m : Nat}, wflB (l.map (·.a)) m = true → wfl l m
  | [], _, _ => trivial
  | ⟨_, _, .q none, _, _, _⟩ :: l, m, h => wflB_spec (l := l) h
  | ⟨_, _, .q (some lo), _, _, _⟩ :: l, m, h => by
    simp only [List.map_cons, wflB, Bool.and_eq_true] at h
    exact ⟨Nat.le_of_ble_eq_true h.1, wflB_spec h.2⟩
  | ⟨_, _, .f r _, _, _, _⟩ :: l, m, h => by
    simp only [List.map_cons, wflB, Bool.and_eq_true] at h
    exact ⟨Nat.eq_of_beq_eq_true h.1, wflB_spec h.2⟩
theorem has_bit {a m s : Nat} (h : has a m = true) (hs : a.testBit s = true) : m.testBit s = true := by
  have h := Nat.eq_of_beq_eq_true h
  rw [← h, Nat.testBit_or, hs]
  rfl
theorem edgesL_bit {bms : List Nat} {j : Nat} : ∀ {l : List Edge}, (edgesL bms l).testBit j = true → ∃ e ∈ l, Region.binds .any e = true ∧ (j = e.on ∨ (bms.getD e.on 0).testBit j = true)
  | [], h => by simp [edgesL] at h
  | e :: l, h => by
    rw [edgesL, Nat.testBit_or, Bool.or_eq_true] at h
    rcases h with h | h
    · cases hb : Region.binds .any e with
      | false => simp [hb] at h
      | true =>
        simp only [hb, cond_true, Nat.testBit_or, Bool.or_eq_true] at h
        refine ⟨e, List.mem_cons_self, hb, ?_⟩
        rcases h with h | h
        · rw [Nat.testBit_two_pow] at h
          exact .inl (by simpa using h : e.on = j).symm
        · exact .inr h
    · obtain ⟨e', he, h⟩ := edgesL_bit h
      exact ⟨e', List.mem_cons_of_mem _ he, h⟩
/-- What the linear look says of each operation. -/
structure LinAt (n : Nat) (ops : List Oper) (bms : List Nat) (o : Oper) (d : DA) (i : Nat) : Prop where
  idx : d.i = i
  db : bitOf o = d.db
  lk : has (looksB ops o) d.lk = true
  bm : has d.bm (edgesL bms o.after.toList) = true
  ed : ∀ e ∈ o.after, Region.binds .any e = true → e.on < i
  dst : dstOk n o = true
theorem linOk_spec {n : Nat} {ops : List Oper} : ∀ {l : List Oper} {ds : List DA} {i : Nat} {bms : List Nat}, linOk n ops l ds i bms = true → l.length = ds.length ∧
    ∀ k o, l[k]? = some o → ∃ d, ds[k]? = some d ∧ LinAt n ops (bms ++ (ds.map (·.bm)).take k) o d (i + k)
  | [], [], _, _, _ => ⟨rfl, fun k o h => by simp at h⟩
  | [], _ :: _, _, _, h => by simp [linOk] at h
  | _ :: _, [], _, _, h => by simp [linOk] at h
  | o :: l, d :: ds, i, bms, h => by
    simp only [linOk, Bool.and_eq_true] at h
    obtain ⟨⟨⟨⟨⟨⟨h1, h2⟩, h3⟩, h4⟩, h5⟩, h6⟩, h7⟩ := h
    obtain ⟨hl, hr⟩ := linOk_spec h7
    refine ⟨by simp [hl], fun k o' hk => ?_⟩
    cases k with
    | zero =>
      simp only [List.getElem?_cons_zero, Option.some.injEq] at hk
      subst hk
      refine ⟨d, rfl, Nat.eq_of_beq_eq_true h1, Nat.eq_of_beq_eq_true h2, h3, by simpa using h4, fun e he hb => ?_, h6⟩
      have := List.all_eq_true.1 h5 e (Array.mem_toList_iff.2 he)
      simp only [hb, Bool.not_true, Bool.false_or] at this
      exact Nat.le_of_ble_eq_true this
    | succ k =>
      simp only [List.getElem?_cons_succ] at hk
      obtain ⟨d', hd', hl'⟩ := hr k o' hk
      refine ⟨d', by simpa using hd', ?_⟩
      have e1 : i + 1 + k = i + (k + 1) := by omega
      have e2 : bms ++ [d.bm] ++ (ds.map (·.bm)).take k = bms ++ ((d :: ds).map (·.bm)).take (k + 1) := by simp
      rw [e1, e2] at hl'
      exact hl'
/-- What is listed is so with all that it waits for. -/
def Closed (ops : List Oper) (listed : Array Bool) : Prop := ∀ j o, ops[j]? = some o → listed.getD j false = true → ∀ e ∈ o.after, Region.binds .any e = true → listed.getD e.on false = true
theorem mask_listed {n : Nat} {ops : List Oper} {ds : List DA} (hm : linOk n ops ops ds 0 [] = true) {listed : Array Bool} (hc : Closed ops listed) :
    ∀ (i : Nat) (o : Oper) (d : DA), ops[i]? = some o → ds[i]? = some d → (∀ e ∈ o.after, Region.binds .any e = true → listed.getD e.on false = true) → ∀ j, d.bm.testBit j = true → listed.getD j false = true := by
  intro i
  induction i using Nat.strongRecOn with
  | _ i ih =>
    intro o d ho hd hall j hj
    obtain ⟨hlen, hsp⟩ := linOk_spec hm
    obtain ⟨d', hd', hl⟩ := hsp i o ho
    obtain rfl : d' = d := Option.some.inj (hd'.symm.trans hd)
    obtain ⟨e, he, hb, h3⟩ := edgesL_bit (has_bit hl.bm hj)
    have he' := Array.mem_toList_iff.1 he
    have hon := hl.ed e he' hb
    have hli := hall e he' hb
    rcases h3 with rfl | h3
    · exact hli
    · have hi : i < ops.length := (List.getElem?_eq_some_iff.1 ho).1
      have hon' : e.on < ops.length := by omega
      have hond : e.on < ds.length := by omega
      have h4 : (([] : List Nat) ++ (ds.map (·.bm)).take i).getD e.on 0 = ds[e.on].bm := by
        have hlt : e.on < i := by omega
        simp [List.getD, hlt, hond]
      rw [h4] at h3
      exact ih e.on (by omega) ops[e.on] ds[e.on] (List.getElem?_eq_getElem hon') (List.getElem?_eq_getElem hond) (fun e' he' hb' => hc e.on _ (List.getElem?_eq_getElem hon') hli e' he' hb') j h3
theorem pairsOk_spec : ∀ {l : List It}, pairsOk (l.map (·.a)) = true → l.Pairwise (fun x y => pairOk x.a y.a = true)
  | [], _ => .nil
  | x :: l, h => by
    simp only [List.map_cons, pairsOk, Bool.and_eq_true] at h
    refine .cons (fun y hy => ?_) (pairsOk_spec h.2)
    exact List.all_eq_true.1 h.1 y.a (List.mem_map.2 ⟨y, hy, rfl⟩)
theorem items_maps : ∀ {ops : List Oper} {ds : List DA}, ops.length = ds.length → (items ops ds).map (·.o) = ops ∧ (items ops ds).map (·.a) = ds
  | [], [], _ => ⟨rfl, rfl⟩
  | [], _ :: _, h => by simp at h
  | _ :: _, [], h => by simp at h
  | o :: l, d :: ds, h => by
    obtain ⟨h1, h2⟩ := items_maps (ops := l) (ds := ds) (by simpa using h)
    simp only [items, List.zipWith_cons_cons, List.map_cons] at h1 h2 ⊢
    rw [h1, h2]
    exact ⟨rfl, rfl⟩
theorem items_at {n : Nat} {ops : List Oper} {ds : List DA} (hm : linOk n ops ops ds 0 [] = true) {x : It} (h : x ∈ items ops ds) : ops[x.i]? = some x.o ∧ ds[x.i]? = some x.a ∧ LinAt n ops ((ds.map (·.bm)).take x.i) x.o x.a x.i := by
  obtain ⟨hlen, hsp⟩ := linOk_spec hm
  unfold items at h
  obtain ⟨k, hk, rfl⟩ := List.mem_iff_getElem.1 h
  simp only [List.length_zipWith] at hk
  simp only [List.getElem_zipWith]
  obtain ⟨d, hd, hl⟩ := hsp k ops[k] (List.getElem?_eq_getElem (by omega))
  have hdk : d = ds[k] := Option.some.inj (hd.symm.trans (List.getElem?_eq_getElem (by omega)))
  subst hdk
  have hi : It.i ⟨ops[k], ds[k]⟩ = k := by simpa [It.i] using hl.idx
  rw [hi]
  exact ⟨List.getElem?_eq_getElem (by omega), List.getElem?_eq_getElem (by omega), by simpa using hl⟩
theorem items_has {n : Nat} {ops : List Oper} {ds : List DA} (hm : linOk n ops ops ds 0 [] = true) {i : Nat} (h : i < ops.length) : ∃ x ∈ items ops ds, x.i = i := by
  obtain ⟨hlen, hsp⟩ := linOk_spec hm
  obtain ⟨d, hd, hl⟩ := hsp i ops[i] (List.getElem?_eq_getElem h)
  refine ⟨⟨ops[i], d⟩, ?_, by simpa [It.i] using hl.idx⟩
  unfold items
  refine List.mem_iff_getElem.2 ⟨i, by simp; omega, ?_⟩
  have hdk : d = ds[i] := Option.some.inj (hd.symm.trans (List.getElem?_eq_getElem (by omega)))
  simp [hdk]
theorem zero_bit {a b s : Nat} (h : zero a b = true) (hb : b.testBit s = true) : a.testBit s = false := by
  have h := Nat.eq_of_beq_eq_true h
  have := congrArg (·.testBit s) h
  simp only [Nat.testBit_and, hb, Bool.and_true, Nat.zero_testBit] at this
  exact this
theorem bit_dst {o : Oper} {d : Nat} (h : o.dst = some d) : (bitOf o).testBit d = true := by simp [bitOf, h, Nat.testBit_two_pow_self]
def left (its : List It) (listed : Array Bool) : List It := its.filter fun x => !listed.getD x.i true
theorem mem_left {its : List It} {listed : Array Bool} {x : It} : x ∈ left its listed ↔ x ∈ its ∧ listed.getD x.i true = false := by
  simp [left, List.mem_filter]
theorem left_set {its : List It} {listed : Array Bool} {x : It} {l1 l2 : List It} (hlt : x.i < listed.size) (h : left its listed = l1 ++ x :: l2) (h1 : ∀ y ∈ l1, y.i ≠ x.i) (h2 : ∀ y ∈ l2, y.i ≠ x.i) :
    left its (listed.setIfInBounds x.i true) = l1 ++ l2 := by
  have e : left its (listed.setIfInBounds x.i true) = (left its listed).filter fun y => y.i != x.i := by
    unfold left
    rw [List.filter_filter]
    congr 1
    funext y
    by_cases hy : y.i = x.i
    · rw [hy]; simp [hlt]
    · rw [getD_set_ne true (Ne.symm hy)]; simp [hy]
  rw [e, h, List.filter_append, List.filter_cons]
  simp only [bne_self_eq_false, Bool.false_eq_true, if_false]
  rw [List.filter_eq_self.2 (fun y hy => by simpa using h1 y hy), List.filter_eq_self.2 (fun y hy => by simpa using h2 y hy)]
theorem getD_false_of_true {listed : Array Bool} {i : Nat} (h : listed.getD i true = false) : listed.getD i false = false := by
  rcases Nat.lt_or_ge i listed.size with h' | h'
  · simp [h'] at h ⊢; exact h
  · simp [Array.getElem?_eq_none h'] at h
theorem wfl_first {x : It} {lo : Nat} (hx : x.k = .q (some lo)) : ∀ {l1 l2 : List It} {m : Nat}, wfl (l1 ++ x :: l2) m → m ≤ lo → ∃ y ∈ l1, ∃ r ext, y.k = .f r ext ∧ r + 1 = m
  | [], l2, m, h, hm => by
    obtain ⟨xo, xi, xk, xl, xb, xd⟩ := x
    simp only [It.k] at hx
    subst hx
    exact absurd h.1 (by omega)
  | ⟨yo, yi, .q l, yl, yb, yd⟩ :: l1, l2, m, h, hm => by
    obtain ⟨y, hy, r⟩ := wfl_first hx (l1 := l1) (l2 := l2) (wfl_q.1 h).2 hm
    exact ⟨y, List.mem_cons_of_mem _ hy, r⟩
  | ⟨yo, yi, .f r ext, yl, yb, yd⟩ :: l1, l2, m, h, hm => ⟨_, List.mem_cons_self, r, ext, rfl, h.1⟩
theorem wfl_drop_q {x : It} {lo : Option Nat} (hx : x.k = .q lo) : ∀ {l1 l2 : List It} {m : Nat}, wfl (l1 ++ x :: l2) m → wfl (l1 ++ l2) m
  | [], l2, m, h => by
    obtain ⟨xo, xi, xk, xl, xb, xd⟩ := x
    simp only [It.k] at hx
    subst hx
    exact (wfl_q.1 h).2
  | ⟨yo, yi, .q l, yl, yb, yd⟩ :: l1, l2, m, h => wfl_q.2 ⟨(wfl_q.1 h).1, wfl_drop_q hx (l1 := l1) (wfl_q.1 h).2⟩
  | ⟨yo, yi, .f r ext, yl, yb, yd⟩ :: l1, l2, m, h => ⟨h.1, wfl_drop_q hx (l1 := l1) h.2⟩
theorem wfl_drop_f {x : It} {r : Nat} {ext : Bool} (hx : x.k = .f r ext) : ∀ {l1 l2 : List It} {m : Nat}, (∀ y ∈ l1, y.k.isF = false) → wfl (l1 ++ x :: l2) m → r + 1 = m ∧ wfl (l1 ++ l2) (m + 1)
  | [], l2, m, _, h => by
    obtain ⟨xo, xi, xk, xl, xb, xd⟩ := x
    simp only [It.k] at hx
    subst hx
    exact h
  | ⟨yo, yi, .q l, yl, yb, yd⟩ :: l1, l2, m, hq, h => by
    obtain ⟨h1, h2⟩ := wfl_drop_f hx (l1 := l1) (fun y hy => hq y (List.mem_cons_of_mem _ hy)) (wfl_q.1 h).2
    exact ⟨h1, wfl_q.2 ⟨by have := (wfl_q.1 h).1; cases l <;> simp [DK.may] at this ⊢; omega, h2⟩⟩
  | ⟨yo, yi, .f r ext, yl, yb, yd⟩ :: l1, l2, m, hq, h => by
    have := hq _ (List.mem_cons_self ..)
    simp [It.k, DK.isF] at this
theorem mop_of_opq {P : Program} {s : Sem Next} {w : World} {v : Value} (h : opq P s w v) : mop P s w (fun u w' => u = v ∧ Drawn w w') (fun _ _ => False) := by
  unfold opq at h
  constructor
  split at h
  · rename_i hr; rw [hr]; exact h
  · rename_i hr; rw [hr]; exact ⟨h.1.symm, h.2⟩
  · exact h.elim

theorem drw_any {n : Nat} {D : List Deferred} {P : Program} {ops : List Oper} {ks : List DA} {K : Env → World → Prop} {Q : Exit → Act → World → Prop} (hok : drawOk n ops ks = true) (hK : ∀ e a w, Rel n D a e → K e w → Q .normal a w) :
    ∀ (k : Nat) (listed : Array Bool) (e : Env) (ws : List World) (cur w : World) (a : Act), (left (items ops ks) listed).length = k → listed.size = ops.length → Closed ops listed → Rel n D a e → Drawn cur w →
      wfl (left (items ops ks) listed) ws.length → (∀ x ∈ left (items ops ks) listed, ∀ lo, x.k = .q (some lo) → lo < ws.length → S.r (ws.getD lo cur) cur) →
      drl P S ops K (left (items ops ks) listed) e ws cur → wpAny P .any ops.toArray Q k listed a w := by
  simp only [drawOk, Bool.and_eq_true] at hok
  obtain ⟨⟨hlin, hpairs⟩, hwf0⟩ := hok
  have hlen := (linOk_spec hlin).1
  have hpw := pairsOk_spec (l := items ops ks) (by rw [(items_maps hlen).2]; exact hpairs)
  intro k
  induction k with
  | zero =>
    intro listed e ws cur w a hk hsz hcl hr hd hwf hext h
    have hnil : left (items ops ks) listed = [] := List.eq_nil_of_length_eq_zero hk
    rw [hnil] at h
    refine ⟨List.eq_nil_iff_forall_not_mem.2 fun i hi => ?_, hK e a w hr (by unfold drl at h; simp only [List.map_nil, drw] at h; exact h.out w hd)⟩
    obtain ⟨hun, o, ho, _⟩ := mem_ready.1 hi
    obtain ⟨x, hx, rfl⟩ := items_has hlin (i := i) (by rw [List.getElem?_toArray] at ho; exact (List.getElem?_eq_some_iff.1 ho).1)
    have : x ∈ left (items ops ks) listed := mem_left.2 ⟨hx, hun⟩
    rw [hnil] at this
    cases this
  | succ k ih =>
    intro listed e ws cur w a hk hsz hcl hr hd hwf hext h
    have hpl : (left (items ops ks) listed).Pairwise (fun x y => x.i < y.i ∧ pairOk x.a y.a = true) := (hpw.imp (fun {x y} h => ⟨by
      simp only [pairOk, Bool.and_eq_true] at h
      exact Nat.le_of_ble_eq_true h.1.1, h⟩)).sublist List.filter_sublist
    constructor
    · intro hnil
      exfalso
      cases hl : left (items ops ks) listed with
      | nil => rw [hl] at hk; simp at hk
      | cons y l =>
        rw [hl] at hpl
        have hy : y ∈ left (items ops ks) listed := by rw [hl]; exact List.mem_cons_self ..
        obtain ⟨hyi, hyu⟩ := mem_left.1 hy
        obtain ⟨ho, hya, hyl⟩ := items_at hlin hyi
        have hylt := (List.getElem?_eq_some_iff.1 ho).1
        have : y.i ∈ Region.ready .any ops.toArray listed := by
          refine mem_ready.2 ⟨hyu, y.o, by rw [List.getElem?_toArray]; exact ho, fun ed hed hb => ?_⟩
          have hlt := hyl.ed ed hed hb
          cases hon : listed.getD ed.on false with
          | true => rfl
          | false =>
            obtain ⟨z, hz, hzi⟩ := items_has hlin (i := ed.on) (by omega)
            have hzl : z ∈ left (items ops ks) listed := mem_left.2 ⟨hz, by
              rw [hzi]
              have : ed.on < listed.size := by omega
              simp [this] at hon ⊢
              exact hon⟩
            rw [hl] at hzl
            rcases List.mem_cons.1 hzl with rfl | hzl
            · omega
            · have := (List.rel_of_pairwise_cons hpl hzl).1
              omega
        rw [hnil] at this
        cases this
    · intro i hi
      obtain ⟨hun, o, ho, hall⟩ := mem_ready.1 hi
      rw [List.getElem?_toArray] at ho
      obtain ⟨x, hx, hxi⟩ := items_has hlin (i := i) (List.getElem?_eq_some_iff.1 ho).1
      subst hxi
      obtain ⟨hx1, hx2, hx3⟩ := items_at hlin hx
      have hxo : o = x.o := Option.some.inj (ho.symm.trans hx1)
      subst hxo
      have hxl : x ∈ left (items ops ks) listed := mem_left.2 ⟨hx, hun⟩
      obtain ⟨l1, l2, hl⟩ := List.append_of_mem hxl
      have hxlt : x.i < listed.size := by rw [hsz]; exact (List.getElem?_eq_some_iff.1 ho).1
      rw [hl] at hpl
      have hp1 : ∀ y ∈ l1, y.i < x.i ∧ pairOk y.a x.a = true := fun y hy => (List.pairwise_append.1 hpl).2.2 y hy x (List.mem_cons_self ..)
      have hp2 : ∀ y ∈ l2, x.i < y.i ∧ pairOk x.a y.a = true := fun y hy => List.rel_of_pairwise_cons (List.pairwise_append.1 hpl).2.1 hy
      have hleft := left_set hxlt hl (fun y hy => by have := (hp1 y hy).1; omega) (fun y hy => by have := (hp2 y hy).1; omega)
      have hmx := mask_listed hlin hcl x.i x.o x.a ho hx2 hall
      have hm1 : ∀ y ∈ l1, x.a.bm.testBit y.a.i = false := fun y hy => by
        cases hb : x.a.bm.testBit y.a.i with
        | false => rfl
        | true =>
          have h1 := hmx _ hb
          have h2 := (mem_left.1 (by rw [hl]; simp [hy] : y ∈ left (items ops ks) listed)).2
          change listed.getD y.i false = true at h1
          rw [getD_false_of_true h2] at h1
          cases h1
      have hind : ∀ y ∈ l1, Apart ops y.o x.o ∧ (y.k.isF && x.k.isF) = false := fun y hy => by
        have := (hp1 y hy).2
        simp only [pairOk, hm1 y hy, Bool.false_or, Bool.and_eq_true] at this
        obtain ⟨⟨_, ⟨⟨z1, z2⟩, z3⟩, z4⟩, _⟩ := this
        have hyl := (items_at hlin (mem_left.1 (by rw [hl]; simp [hy] : y ∈ left (items ops ks) listed)).1).2.2
        have contra : ∀ {b : Bool}, b = true → b = false → False := fun h1 h2 => by rw [h1] at h2; cases h2
        refine ⟨⟨fun d hd => ?_, fun d hd he => ?_, fun d hd => ?_⟩, ?_⟩
        · have hb := zero_bit z1 (hyl.db ▸ bit_dst hd)
          cases hq : (looksB ops x.o).testBit d with
          | false => rfl
          | true => exact (contra (has_bit hx3.lk hq) hb).elim
        · exact contra (hyl.db ▸ bit_dst hd) (zero_bit z2 (hx3.db ▸ bit_dst he))
        · have hb := zero_bit z3 (hx3.db ▸ bit_dst hd)
          cases hq : (looksB ops y.o).testBit d with
          | false => rfl
          | true => exact (contra (has_bit hyl.lk hq) hb).elim
        · have z4 : (!(y.k.isF && x.k.isF)) = true := z4
          cases hq : (y.k.isF && x.k.isF) with
          | false => rfl
          | true => rw [hq] at z4; cases z4
      rw [hl] at hwf h hext
      have hmay : x.k.may ws.length := by
        cases hxk : x.k with
        | f r ext => trivial
        | q lo =>
         cases lo with
         | none => trivial
         | some lo =>
          rcases Nat.lt_or_ge lo ws.length with h' | h'
          · exact h'
          · obtain ⟨y, hy, r, ext, hyk, hr1⟩ := wfl_first hxk hwf h'
            have := (hp1 y hy).2
            have hyk : y.a.k = .f r ext := hyk
            have hxk : x.a.k = .q (some lo) := hxk
            simp only [pairOk, hm1 y hy, hyk, hxk, Bool.and_eq_true, Bool.or_false, Bool.not_eq_true'] at this
            have h3 : Nat.blt r lo = true := Nat.ble_eq_true_of_le (by omega)
            rw [h3] at this
            simp at this
      have h := drw_front x l1 l2 e ws cur hwf hmay hind h
      have hcl' : Closed ops (listed.setIfInBounds x.i true) := fun j oj hj hlj ed hed hb => by
        by_cases hji : x.i = j
        · subst hji
          have : oj = x.o := Option.some.inj (hj.symm.trans ho)
          subst this
          exact getD_set_true (hall ed hed hb)
        · rw [getD_set_ne false hji] at hlj
          exact getD_set_true (hcl j oj hj hlj ed hed hb)
      have hlen' : (left (items ops ks) (listed.setIfInBounds x.i true)).length = k := by
        rw [hleft]
        rw [hl] at hk
        simp at hk ⊢
        omega
      have hdl := hx3.dst
      have go : ∀ (v : Value) (ws' : List World) (cur' w' : World), Drawn cur' w' → wfl (l1 ++ l2) ws'.length → (∀ x ∈ l1 ++ l2, ∀ lo, x.k = .q (some lo) → lo < ws'.length → S.r (ws'.getD lo cur') cur') →
          drl P S ops K (l1 ++ l2) (e.set x.o.dst v) ws' cur' → wpAny P .any ops.toArray Q k (listed.setIfInBounds x.i true) (a.put x.o.dst v) w' := fun v ws' cur' w' hd' hw' he' h' =>
        ih (listed.setIfInBounds x.i true) _ ws' cur' w' _ hlen' (by simpa using hsz) hcl' (hr.put _ (dstOk_lt hdl) v) hd' (by rw [hleft]; exact hw') (by rw [hleft]; exact he') (by rw [hleft]; exact h')
      unfold wpOp
      rw [List.getElem?_toArray, ho]
      simp only []
      have hsub : ∀ y ∈ l1 ++ l2, y ∈ l1 ++ x :: l2 := fun y hy => by
        rcases List.mem_append.1 hy with h | h
        · simp [h]
        · simp [h]
      obtain ⟨xo, xi, xk, xl, xb, xd⟩ := x
      cases xk with
      | q lo =>
        rw [drw_q] at h
        obtain ⟨v, hv, h⟩ := h
        have hwf' := wfl_drop_q (x := ⟨xo, xi, .q lo, xl, xb, xd⟩) rfl hwf
        have hE : baseOf S lo ws cur w := by
          cases lo with
          | none => trivial
          | some lo => exact S.tr (hext ⟨xo, xi, .q (some lo), xl, xb, xd⟩ (by simp) lo rfl hmay) (S.dr hd)
        have run : (∀ w', baseOf S lo ws cur w' → opq P (opE (ev e) xo) w' v) → xo.wp P a w (wpAny P .any ops.toArray Q k (listed.setIfInBounds xi true)) Q := fun hq =>
          hr.oper (mop_of_opq (hq w hE)) (fun u w' ⟨hu, hdw⟩ => by rw [hu]; exact go v ws cur w' (hd.trans hdw) hwf' (fun y hy => hext y (hsub y hy)) h) (fun _ _ h => h.elim)
        unfold ValQ at hv
        cases hg : xo.guard with
        | none =>
          simp only [hg] at hv
          rw [if_pos (by simp [Region.wanted, hg])]
          exact .inl (run hv)
        | some g =>
          obtain ⟨j, want⟩ := g
          simp only [hg] at hv
          have hw := hr.wanted ops xo j want hg
          by_cases hc : guardV ops e j = .bool want
          · rw [if_pos (hw.2 hc)]
            exact .inl (run (hv.1 hc))
          · rw [if_neg (fun h => hc (hw.1 h))]
            have hvu := hv.2 hc
            subst hvu
            exact go undef ws cur w hd hwf' (fun y hy => hext y (hsub y hy)) h
      | f r ext =>
        rw [drw_f] at h
        have hq1 : ∀ y ∈ l1, y.k.isF = false := fun y hy => by simpa [It.k, DK.isF] using (hind y hy).2
        obtain ⟨hr1, hwf'⟩ := wfl_drop_f (x := ⟨xo, xi, .f r ext, xl, xb, xd⟩) rfl hq1 hwf
        have hnew : ∀ w', (ext = true → S.r cur w') → ∀ y ∈ l1 ++ l2, ∀ lo, y.k = .q (some lo) → lo < (ws ++ [w']).length → S.r ((ws ++ [w']).getD lo w') w' := fun w' hw' y hy lo hyk hlt => by
          rcases Nat.lt_or_ge lo ws.length with hlo | hlo
          · rw [getD_push ws cur w' hlo]
            have hle : Nat.ble lo r = true := Nat.ble_eq_true_of_le (by omega)
            refine S.tr (hext y (hsub y hy) lo hyk hlo) (hw' ?_)
            rcases List.mem_append.1 hy with h1 | h1
            · have := (hp1 y h1).2
              have hyk : y.a.k = .q (some lo) := hyk
              simp only [pairOk, hm1 y h1, hyk, Bool.and_eq_true, hle, Bool.not_true, Bool.false_or] at this
              exact this.2.2
            · have := (hp2 y h1).2
              have hyk : y.a.k = .q (some lo) := hyk
              simp only [pairOk, hyk, Bool.and_eq_true, hle, Bool.not_true, Bool.false_or] at this
              exact this.2.2
          · have : lo = ws.length := by simp at hlt; omega
            subst this
            simp [List.getD, S.rf]
        have run : dfS P S cur (opE (ev e) xo) ext (fun v w' => drl P S ops K (l1 ++ l2) (e.set xo.dst v) (ws ++ [w']) w') → xo.wp P a w (wpAny P .any ops.toArray Q k (listed.setIfInBounds xi true)) Q := fun hf =>
          hr.oper (hf.out w hd) (fun v w' ⟨h1, h2⟩ => go v (ws ++ [w']) w' w' (Drawn.refl w') (by simpa using hwf') (hnew w' h1) h2) (fun _ _ h => h.elim)
        unfold EffF at h
        cases hg : xo.guard with
        | none =>
          simp only [hg] at h
          rw [if_pos (by simp [Region.wanted, hg])]
          exact .inl (run h)
        | some g =>
          obtain ⟨j, want⟩ := g
          simp only [hg] at h
          have hw := hr.wanted ops xo j want hg
          by_cases hc : guardV ops e j = .bool want
          · rw [if_pos (hw.2 hc)]
            exact .inl (run (h.yes hc))
          · rw [if_neg (fun h => hc (hw.1 h))]
            exact go undef (ws ++ [cur]) cur w hd (by simpa using hwf') (hnew cur (fun _ => S.rf cur)) (h.no hc)
theorem draw_sound {n : Nat} {D : List Deferred} {P : Program} {id : Nat} {ops : List Oper} {ks : List DA} {K : Env → World → Prop} {Q : Exit → Act → World → Prop} (hm : P.follows .mixedOrders = true) (hok : drawOk n ops ks = true) (hK : ∀ e a w, Rel n D a e → K e w → Q .normal a w)
    {e : Env} {a : Act} {w : World} (hr : Rel n D a e) (h : drw P S ops K ops ks e [w] w) : (Code.region id ops.toArray true).wp P Q a w := by
  have hok' := hok
  simp only [drawOk, Bool.and_eq_true] at hok'
  have hlen := (linOk_spec hok'.1.1).1
  have h : drl P S ops K (items ops ks) e [w] w := by
    unfold drl
    rw [(items_maps hlen).1, (items_maps hlen).2]
    exact h
  have hl : left (items ops ks) (Array.replicate ops.length false) = items ops ks := by
    unfold left
    refine List.filter_eq_self.2 fun x hx => ?_
    have := (List.getElem?_eq_some_iff.1 (items_at hok'.1.1 hx).1).1
    simp [this]
  have hll : (items ops ks).length = ops.length := by simp [items, hlen]
  refine wp_region_any hm ?_
  have := drw_any (P := P) hok hK ops.length (Array.replicate ops.length false) e [w] w { w with drawn := w.drawn + 1 } a (by rw [hl, hll]) (by simp) (fun j o _ hj => by
    rcases Nat.lt_or_ge j ops.length with h | h
    · simp [h] at hj
    · simp [h] at hj) hr ⟨1, rfl⟩ (by rw [hl]; exact wflB_spec (by rw [(items_maps hlen).2]; exact hok'.2)) (fun x _ lo _ hlo => by
      have : lo = 0 := by simpa using hlo
      subst this
      exact S.rf w) (by rw [hl]; exact h)
  simpa using this
end
end Go.Proofs.Ytopcnkejobomaaa
