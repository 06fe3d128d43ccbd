/- Steps over the formulas: one lemma an operation; what a call owns in memory (St). No program is named here. -/
import Derived.Test.YtopcnkejobomaaaCode
import Derived.WalkKit
import Derived.WalkSpells
import Derived.WalkLawsBesides
import Derived.Laws.BytesArg
namespace Go.Proofs.Ytopcnkejobomaaa
open Go.RowKit

/-! ### Steps -/
def fv (n : Nat) : Value := .func (.func n) #[] #[]
def gv (n : Nat) : Value := .pointer (some ⟨n, 0, none⟩)
/-- It yields v, whatever the world, and turns nothing. -/
def Pur (P : Program) (s : Sem Next) (v : Value) : Prop := ∀ w, s.run P w = .ok (.value v) w
/-- In this world. -/
def PurW (P : Program) (w : World) (s : Sem Next) (v : Value) : Prop := s.run P w = .ok (.value v) w
section
variable {P : Program} {s : Sem Next} {v : Value} {w : World} {K : Value → World → Prop} {X : List PanicEntry → World → Prop}
theorem mop_pur (h : Pur P s v) (hk : K v w) : mop P s w K X := ⟨by rw [h w]; exact hk⟩
theorem mop_purW (h : PurW P w s v) (hk : K v w) : mop P s w K X := ⟨by rw [h]; exact hk⟩
theorem mop_run {u : Value} {w' : World} (h : s.run P w = .ok (.value u) w') (hk : K u w') : mop P s w K X := ⟨by rw [h]; exact hk⟩
theorem mop_skip {w' : World} (h : s.run P w = .ok .skip w') (hk : K undef w') : mop P s w K X := ⟨by rw [h]; exact hk⟩
theorem dp_pur {K : Value → Prop} (h : Pur P s v) (hk : K v) : dp P s K := ⟨v, fun w _ => by unfold opq; rw [h w]; exact ⟨rfl, Drawn.refl w⟩, hk⟩
theorem dq_pur {K : Value → Prop} (h : ∀ w', Ext w w' → PurW P w' s v) (hk : K v) : dq P w s K := ⟨v, fun w' hw => by unfold opq; rw [h w' hw]; exact ⟨rfl, Drawn.refl w'⟩, hk⟩
theorem df_mop {ext : Bool} {K : Value → World → Prop} (h : ∀ w1, Drawn w w1 → mop P s w1 (fun v w' => (ext = true → Ext w w') ∧ K v w') (fun _ _ => False)) : df P w s ext K := ⟨h⟩
theorem dend_intro {K : World → Prop} (h : ∀ w', Drawn w w' → K w') : dend w K := ⟨h⟩
theorem mif_bool {b : Bool} {x y : Prop} (ht : b = true → x) (hf : b = false → y) : mif (.bool b) x y := ⟨by
  cases b
  · exact .inr ⟨rfl, hf rfl⟩
  · exact .inl ⟨rfl, ht rfl⟩⟩
theorem mif_dec {p : Prop} [Decidable p] {x y : Prop} (ht : p → x) (hf : ¬ p → y) : mif (.bool (decide p)) x y := mif_bool (fun h => ht (of_decide_eq_true h)) (fun h => hf (of_decide_eq_false h))
theorem mif_true {x y : Prop} (h : x) : mif (.bool true) x y := ⟨.inl ⟨rfl, h⟩⟩
theorem mif_false {x y : Prop} (h : y) : mif (.bool false) x y := ⟨.inr ⟨rfl, h⟩⟩
theorem mguard_bool {b want : Bool} {run : (Value → World → Prop) → Prop} (hy : b = want → run K) (hn : b ≠ want → K undef w) : mguard (.bool b) want run w K :=
  ⟨fun h => hy (by injection h), fun h => hn (fun e => h (by rw [e]))⟩
theorem mguard_yes {b : Bool} {run : (Value → World → Prop) → Prop} (h : run K) : mguard (.bool b) b run w K := ⟨fun _ => h, fun h => absurd rfl h⟩
theorem mguard_no {c : Value} {want : Bool} {run : (Value → World → Prop) → Prop} (hc : c ≠ .bool want) (h : K undef w) : mguard c want run w K := ⟨fun h => absurd h hc, fun _ => h⟩
theorem qguard_yes {b : Bool} {run : (Value → Prop) → Prop} {K : Value → Prop} (h : run K) : qguard (.bool b) b run K := ⟨fun _ => h, fun h => absurd rfl h⟩
theorem qguard_no {c : Value} {want : Bool} {run : (Value → Prop) → Prop} {K : Value → Prop} (hc : c ≠ .bool want) (h : K undef) : qguard c want run K := ⟨fun h => absurd h hc, fun _ => h⟩
theorem mop_call {f : Nat} {args : List Value} {R : Ending → World → Prop} (h : Calls P f args.toArray w R) (hb : ((P.funcs[f]?).map fun fn => fn.body.isSome && fn.name != "runtime.NumGoroutine") = some true)
    (hk : ∀ e w', R e w' → match e with
      | .returned v => K v w'
      | .panicked c => X c w'
      | .outgrown => False) : mop P (o_call (fv f) args) w K X := by
  constructor
  have hr : (o_call (fv f) args).run P w = .ok (.enter f args.toArray) w := by
    cases hf : P.funcs[f]? with
    | none => simp [hf] at hb
    | some fn =>
      simp [hf] at hb
      have hb1 : ¬ fn.body = none := by intro h; rw [h] at hb; simp at hb
      simp [o_call, fv, Deferred.ofValue, invoke, callFunc, hf, go_sem, hb.2, hb1]
  rw [hr]
  exact h.mono fun e w' he => by
    have := hk e w' he
    cases e <;> exact this
end
/-! ### Pure operations -/
section
variable {P : Program}
theorem p_move (x : Value) : Pur P (o_move x) x := fun _ => rfl
theorem p_nilCheck (b o : Nat) : Pur P (o_nilCheck (.pointer (some ⟨b, o, none⟩))) (.pointer (some ⟨b, o, none⟩)) := fun _ => rfl
theorem p_pick (c : Bool) (a b : Value) : Pur P (o_pick (.bool c) a b) (if c then a else b) := fun w => by simp [o_pick, asBool]
theorem p_len_string (t ty : TypeId) (cs : List Bool) (s : ByteArray) (h : P.underlying t = some .string) : Pur P (o_builtin .len #[t] ty cs [.string s]) (.int .i64 s.size) := fun w => by
  simp [o_builtin, invoke, go_sem, h]
theorem p_len_slice (t ty e : TypeId) (cs : List Bool) (a : Option Addr) (n c : Nat) (h : P.underlying t = some (.slice e)) : Pur P (o_builtin .len #[t] ty cs [.slice a n c]) (.int .i64 n) := fun w => by
  simp [o_builtin, invoke, go_sem, h]
theorem p_extract (vs : List Value) (i : Nat) (v : Value) (h : vs[i]? = some v) : Pur P (o_extract (.tuple vs.toArray) i) v := fun w => by
  simp [o_extract, sv, Instr.extract, h, go_sem]
theorem p_add (t : TypeId) (c : Bool) (k : IntKind) (a b : Int) : Pur P (o_bin .add t c (.int k a) (.int k b)) (.int k (k.wrap (a + b))) := fun w => by
  simp [o_bin, sv, eqGuard, binOp, go_sem]
theorem p_sub (t : TypeId) (c : Bool) (k : IntKind) (a b : Int) : Pur P (o_bin .sub t c (.int k a) (.int k b)) (.int k (k.wrap (a - b))) := fun w => by
  simp [o_bin, sv, eqGuard, binOp, go_sem]
theorem p_mul (t : TypeId) (c : Bool) (k : IntKind) (a b : Int) : Pur P (o_bin .mul t c (.int k a) (.int k b)) (.int k (k.wrap (a * b))) := fun w => by
  simp [o_bin, sv, eqGuard, binOp, go_sem]
theorem p_and (t : TypeId) (c : Bool) (k : IntKind) (a b : Int) : Pur P (o_bin .and t c (.int k a) (.int k b)) (.int k (bits .and k a b)) := fun w => by
  simp [o_bin, sv, eqGuard, binOp, go_sem]
theorem p_or (t : TypeId) (c : Bool) (k : IntKind) (a b : Int) : Pur P (o_bin .or t c (.int k a) (.int k b)) (.int k (bits .or k a b)) := fun w => by
  simp [o_bin, sv, eqGuard, binOp, go_sem]
theorem p_xor (t : TypeId) (c : Bool) (k : IntKind) (a b : Int) : Pur P (o_bin .xor t c (.int k a) (.int k b)) (.int k (bits .xor k a b)) := fun w => by
  simp [o_bin, sv, eqGuard, binOp, go_sem]
theorem p_lss (t : TypeId) (c : Bool) (k : IntKind) (a b : Int) : Pur P (o_bin .lss t c (.int k a) (.int k b)) (.bool (decide (a < b))) := fun w => by
  simp [o_bin, sv, eqGuard, binOp, go_sem]
theorem p_leq (t : TypeId) (c : Bool) (k : IntKind) (a b : Int) : Pur P (o_bin .leq t c (.int k a) (.int k b)) (.bool (decide (a ≤ b))) := fun w => by
  simp [o_bin, sv, eqGuard, binOp, go_sem]
theorem p_gtr (t : TypeId) (c : Bool) (k : IntKind) (a b : Int) : Pur P (o_bin .gtr t c (.int k a) (.int k b)) (.bool (decide (b < a))) := fun w => by
  simp [o_bin, sv, eqGuard, binOp, go_sem]
theorem p_geq (t : TypeId) (c : Bool) (k : IntKind) (a b : Int) : Pur P (o_bin .geq t c (.int k a) (.int k b)) (.bool (decide (b ≤ a))) := fun w => by
  simp [o_bin, sv, eqGuard, binOp, go_sem]
theorem p_eql (t : TypeId) (c : Bool) (k : IntKind) (a b : Int) : Pur P (o_bin .eql t c (.int k a) (.int k b)) (.bool (decide (a = b))) := fun w => by
  simp [o_bin, sv, eqGuard, binOp, go_sem]
  rw [Bool.eq_iff_iff]; simp
theorem p_neq (t : TypeId) (c : Bool) (k : IntKind) (a b : Int) : Pur P (o_bin .neq t c (.int k a) (.int k b)) (.bool (decide (a ≠ b))) := fun w => by
  simp [o_bin, sv, eqGuard, binOp, go_sem]
  rw [Bool.eq_iff_iff]; simp
theorem p_rem (t : TypeId) (c : Bool) (k : IntKind) (a b : Int) (h : b ≠ 0) : Pur P (o_bin .rem t c (.int k a) (.int k b)) (.int k (a.tmod b)) := fun w => by
  simp [o_bin, sv, eqGuard, binOp, go_sem, h]
theorem p_quo (t : TypeId) (c : Bool) (k : IntKind) (a b : Int) (h : b ≠ 0) : Pur P (o_bin .quo t c (.int k a) (.int k b)) (.int k (k.wrap (a.tdiv b))) := fun w => by
  simp [o_bin, sv, eqGuard, binOp, go_sem, h]
theorem p_shr (t : TypeId) (c : Bool) (k ky : IntKind) (a b : Int) (h : 0 ≤ b) (h' : b < k.bits) : Pur P (o_bin .shr t c (.int k a) (.int ky b)) (.int k (a / 2 ^ b.toNat)) := fun w => by
  have hm : min b.toNat k.bits = b.toNat := by omega
  simp [o_bin, sv, eqGuard, binOp, go_sem, h]
  exact congrArg (fun x => a / 2 ^ x) hm
theorem p_shl (t : TypeId) (c : Bool) (k ky : IntKind) (a b : Int) (h : 0 ≤ b) (h' : b < k.bits) : Pur P (o_bin .shl t c (.int k a) (.int ky b)) (.int k (k.wrap (a * 2 ^ b.toNat))) := fun w => by
  have hm : min b.toNat k.bits = b.toNat := by omega
  simp [o_bin, sv, eqGuard, binOp, go_sem, h]
  exact congrArg (fun x => k.wrap (a * 2 ^ x)) hm
theorem p_not (k : IntKind) (a : Int) : Pur P (o_un .xor (.int k a)) (.int k (bits .xor k (if k.signed = true then -1 else k.max) a)) := fun w => by
  simp [o_un, sv, go_sem]
theorem p_add_string (t : TypeId) (c : Bool) (a b : ByteArray) (h : a.size + b.size ≤ maxLen) : Pur P (o_bin .add t c (.string a) (.string b)) (.string (a ++ b)) := fun w => by
  simp [o_bin, sv, eqGuard, binOp, go_sem]
  simpa [maxLen] using h
theorem p_eql_string (t : TypeId) (c : Bool) (a b : ByteArray) : Pur P (o_bin .eql t c (.string a) (.string b)) (.bool (a.toList == b.toList)) := fun w => by
  simp [o_bin, sv, eqGuard, binOp, go_sem, Op.stringOp]
theorem p_conv_int (s d : TypeId) (k k' : IntKind) (a : Int) (hs : (P.underlying s).isSome = true) (hd : P.underlying d = some (.int k')) : Pur P (o_conv s d (.int k a)) (.int k' (k'.wrap a)) := fun w => by
  simp [o_conv, sv, go_sem, hd, hs]
theorem run_size {t : TypeId} {sz : Nat} (h : (P.info? t).map (·.size) = some sz) (w : World) : (sizeOf t).run P w = .ok sz w := by
  cases hi : P.info? t with
  | none => simp [hi] at h
  | some i =>
    simp [hi] at h
    simp [sizeOf, typeInfo, hi, h]
theorem p_indexAddr_slice (t : TypeId) (b o n c : Nat) (k : IntKind) (i : Int) (sz : Nat) (ht : P.underlying t = some (.slice (P.elem t))) (hs : (P.info? (P.elem t)).map (·.size) = some sz) (h0 : 0 ≤ i) (h1 : i < n) :
    Pur P (o_indexAddr t (.slice (some ⟨b, o, none⟩) n c) (.int k i)) (.pointer (some ⟨b, o + i.toNat * sz, none⟩)) := fun w => by
  simp [o_indexAddr, sv, run_indexAt_slice w t ⟨b, o, none⟩ n c k i ht, h0, h1, run_size hs, Addr.add_lit]
theorem p_indexAddr_array (t : TypeId) (b o n : Nat) (k : IntKind) (i : Int) (sz : Nat) (ht : P.underlying t = some (.array (P.arrayLen t) (P.elem t))) (hn : P.arrayLen t = n) (hs : (P.info? (P.elem t)).map (·.size) = some sz) (h0 : 0 ≤ i) (h1 : i < n) :
    Pur P (o_indexAddr t (.pointer (some ⟨b, o, none⟩)) (.int k i)) (.pointer (some ⟨b, o + i.toNat * sz, none⟩)) := fun w => by
  subst hn
  simp [o_indexAddr, sv, run_indexAt_array w t ⟨b, o, none⟩ k i ht, h0, h1, run_size hs, Addr.add_lit]
theorem p_slice_array_l (t : TypeId) (b o n : Nat) (k : IntKind) (l : Int) (sz : Nat) (ht : P.underlying t = some (.array (P.arrayLen t) (P.elem t))) (hn : P.arrayLen t = n) (hs : (P.info? (P.elem t)).map (·.size) = some sz) (h0 : 0 ≤ l) (h1 : l < n) :
    Pur P (o_slice t (.pointer (some ⟨b, o, none⟩)) (some (.int k l)) none none) (.slice (some ⟨b, o + l.toNat * sz, none⟩) (n - l.toNat) (n - l.toNat)) := fun w => by
  subst hn
  have hne : ¬ (P.arrayLen t = l.toNat) := by omega
  simp [o_slice, sv, run_sliceAt_array_l w t ⟨b, o, none⟩ ht k l h0 (by omega), run_size hs, slicedAt, hne, Addr.add_lit]
theorem p_slice_array_h (t : TypeId) (b o n : Nat) (k : IntKind) (h : Int) (sz : Nat) (ht : P.underlying t = some (.array (P.arrayLen t) (P.elem t))) (hn : P.arrayLen t = n) (hs : (P.info? (P.elem t)).map (·.size) = some sz) (h0 : 0 ≤ h) (h1 : h ≤ n) :
    Pur P (o_slice t (.pointer (some ⟨b, o, none⟩)) none (some (.int k h)) none) (.slice (some ⟨b, o, none⟩) h.toNat n) := fun w => by
  subst hn
  simp [o_slice, sv, run_sliceAt_array_h w t ⟨b, o, none⟩ ht k h h0 (by omega), run_size hs, slicedAt, Addr.add_lit]
theorem p_slice_array_all (t : TypeId) (b o n : Nat) (sz : Nat) (ht : P.underlying t = some (.array (P.arrayLen t) (P.elem t))) (hn : P.arrayLen t = n) (hs : (P.info? (P.elem t)).map (·.size) = some sz) :
    Pur P (o_slice t (.pointer (some ⟨b, o, none⟩)) none none none) (.slice (some ⟨b, o, none⟩) n n) := fun w => by
  subst hn
  simp [o_slice, sv, run_sliceAt_array_all w t ⟨b, o, none⟩ ht, run_size hs, slicedAt, Addr.add_lit]
theorem p_slice_string_l (t : TypeId) (s : ByteArray) (k : IntKind) (l : Int) (ht : P.underlying t = some .string) (h0 : 0 ≤ l) (h1 : l ≤ s.size) :
    Pur P (o_slice t (.string s) (some (.int k l)) none none) (.string (s.extract l.toNat s.size)) := fun w => by
  simp [o_slice, sv, run_sliceAt_string w t _ _ _ _ ht, run_slice_string_l w t s ht k l h0 h1]
theorem p_slice_string_h (t : TypeId) (s : ByteArray) (k : IntKind) (l : Int) (ht : P.underlying t = some .string) (h0 : 0 ≤ l) (h1 : l ≤ s.size) :
    Pur P (o_slice t (.string s) none (some (.int k l)) none) (.string (s.extract 0 l.toNat)) := fun w => by
  simp [o_slice, sv, run_sliceAt_string w t _ _ _ _ ht, run_slice_string_h w t s ht k l h0 h1]
theorem p_slice_string_lh (t : TypeId) (s : ByteArray) (k k' : IntKind) (l h : Int) (ht : P.underlying t = some .string) (h0 : 0 ≤ l) (h1 : l ≤ h) (h2 : h ≤ s.size) :
    Pur P (o_slice t (.string s) (some (.int k l)) (some (.int k' h)) none) (.string (s.extract l.toNat h.toNat)) := fun w => by
  simp [o_slice, sv, run_sliceAt_string w t _ _ _ _ ht, run_slice_string w t s k k' l h ht h0 h1 h2]
theorem pw_conv_bytes {w : World} (s d e : TypeId) (b o n c : Nat) (xs : List Int) (hs : P.underlying s = some (.slice e)) (he : P.underlying e = some (.int .u8)) (hd : P.underlying d = some .string) (hl : xs.length = n) (hc : ∀ i, i < n → w.cell? ⟨b, o + i, none⟩ = some (.int .u8 (xs.getD i 0))) :
    PurW P w (o_conv s d (.slice (some ⟨b, o, none⟩) n c)) (.string (strOfNums xs)) := by
  simp [PurW, o_conv, sv, run_convert_bytes_arg w s e hs he b o n c xs hl hc d hd]
theorem p_fieldAddr (t : TypeId) (b o f off sz : Nat) (ht : ((P.underlying t).bind fun d => match d with
    | .struct fs => (fs[f]?).bind fun fd => (P.info? fd.type).map fun i => (fd.offset, i.size)
    | _ => none) = some (off, sz)) (h0 : sz ≠ 0) : Pur P (o_fieldAddr t (.pointer (some ⟨b, o, none⟩)) f) (.pointer (some ⟨b, o + off, none⟩)) := fun w => by
  cases hd : P.underlying t with
  | none => simp [hd] at ht
  | some d =>
    cases d <;> simp [hd] at ht
    rename_i fs
    cases hf : fs[f]? with
    | none => simp [hf] at ht
    | some fd =>
      cases hi : P.info? fd.type with
      | none => simp [hf, hi] at ht
      | some i =>
        simp [hf, hi] at ht
        obtain ⟨rfl, rfl⟩ := ht
        have hs : (P.info? fd.type).map (·.size) = some i.size := by simp [hi]
        simp [o_fieldAddr, sv, Instr.fieldAt, run_underlying hd, hf, Instr.sureAddr, fieldPlace, run_size hs, h0, Addr.add_lit]
end
/-! ### Memory -/
/-- What a block is: cells of a type, or another object (a channel, a map). -/
inductive Kd where
  | ty (t : TypeId)
  | ob (o : Obj)
instance : Coe Nat Kd := ⟨.ty⟩
instance (n : Nat) : OfNat Kd n := ⟨.ty n⟩
/-- A block that is known whole; is it new since the call began? -/
structure Bk where
  g : Nat
  t : Kd
  cs : List Value
  nw : Bool
/-- Block g is just the cells cs, none frozen. -/
def Blf (w : World) (g : Nat) (t : TypeId) (cs : List Value) : Prop := ∃ fr : Nat × Nat, w.heap[g]? = some (.cells cs.toArray t fr) ∧ (fr = (0, 0) ∨ (cs.length ≤ fr.1 ∧ t = 5))
section
variable {w w' : World} {g : Nat} {t : TypeId} {cs : List Value} {S : Nat → Prop}
theorem Blk.blf (h : Blk w g t cs.toArray) : Blf w g t cs := ⟨(0, 0), h, .inl rfl⟩
theorem Blf.lt (h : Blf w g t cs) : g < w.heap.size := by
  obtain ⟨fr, h, _⟩ := h
  exact (Array.getElem?_eq_some_iff.1 h).1
theorem Blf.cell (h : Blf w g t cs) (i : Nat) : w.cell? ⟨g, i, none⟩ = cs[i]? := by
  obtain ⟨fr, h, _⟩ := h
  rw [cell_of_row w g i cs.toArray t fr h]; simp
theorem Blf.frozen (h : Blf w g t cs) (i : Nat) (hi : i < cs.length) : w.frozen? ⟨g, i, none⟩ = false := by
  obtain ⟨fr, h, hf⟩ := h
  rcases hf with rfl | hf
  · simp [World.frozen?, h]
  · simp [World.frozen?, h]
    omega
theorem Blf.drewN (h : Blf w g t cs) (n : Nat) : Blf (w.drewN n) g t cs := h
theorem Blf.same (h : Blf w g t cs) (he : w'.heap[g]? = w.heap[g]?) : Blf w' g t cs := by
  obtain ⟨fr, h, hf⟩ := h
  exact ⟨fr, he.trans h, hf⟩
theorem Blf.only (h : Blf w g t cs) (hb : Only S w w') (hg : ¬ S g) : Blf w' g t cs := h.same (hb.block g h.lt hg)
theorem Blf.alloc (h : Blf w g t cs) (o : Obj) : Blf (w.alloc o) g t cs := h.same (Below.heap_alloc w o g h.lt)
theorem Blf.setRow (h : Blf w g t cs) {cs' : List Value} (hl : cs'.length = cs.length) : Blf (w.setRow g cs'.toArray) g t cs' := by
  obtain ⟨fr, h, hf⟩ := h
  exact ⟨fr, setRow_heap w g cs.toArray _ t fr h, by rw [hl]; exact hf⟩
end
def Obj.isOther : Obj → Bool
  | .cells .. => false
  | _ => true
/-- The block is what it is known to be. -/
def Bko (w : World) (b : Bk) : Prop :=
  match b.t with
  | .ty t => Blf w b.g t b.cs
  | .ob o => b.cs = [] ∧ Obj.isOther o = true ∧ w.heap[b.g]? = some o
theorem cell_other {w : World} {g : Nat} {o : Obj} (h : w.heap[g]? = some o) (ho : Obj.isOther o = true) (i : Nat) : w.cell? ⟨g, i, none⟩ = none := by
  cases o <;> simp_all [Obj.isOther, World.cell?]
section
variable {w w' : World} {b : Bk} {S : Nat → Prop}
theorem Bko.lt (h : Bko w b) : b.g < w.heap.size := by
  obtain ⟨g, t, cs, n⟩ := b
  cases t with
  | ty t => exact Blf.lt (cs := cs) h
  | ob o => exact (Array.getElem?_eq_some_iff.1 h.2.2).1
theorem Bko.same (h : Bko w b) (he : w'.heap[b.g]? = w.heap[b.g]?) : Bko w' b := by
  obtain ⟨g, t, cs, n⟩ := b
  cases t with
  | ty t => exact Blf.same (cs := cs) h he
  | ob o => exact ⟨h.1, h.2.1, he.trans h.2.2⟩
theorem Bko.cell (h : Bko w b) (i : Nat) : w.cell? ⟨b.g, i, none⟩ = b.cs[i]? := by
  obtain ⟨g, t, cs, n⟩ := b
  cases t with
  | ty t => exact Blf.cell (cs := cs) h i
  | ob o =>
    obtain ⟨h1, h2, h3⟩ := h
    simp only at h1 h3 ⊢
    subst h1
    rw [cell_other h3 h2]
    rfl
theorem Bko.drewN (h : Bko w b) (n : Nat) : Bko (w.drewN n) b := h.same rfl
theorem Bko.only (h : Bko w b) (hb : Only S w w') (hg : ¬ S b.g) : Bko w' b := h.same (hb.block b.g h.lt hg)
theorem Bko.alloc (h : Bko w b) (o : Obj) : Bko (w.alloc o) b := h.same (Below.heap_alloc w o b.g h.lt)
theorem Bko.blf {g : Nat} {t : TypeId} {cs : List Value} {n : Bool} (h : Bko w ⟨g, t, cs, n⟩) : Blf w g t cs := h
end
/-- In the world w, since w0: the blocks L are known whole, and of the blocks that there were only these may have turned. -/
structure St (w0 : World) (L : List Bk) (w : World) : Prop where
  own : ∀ b ∈ L, Bko w b
  ne : L.Pairwise fun x y => x.g ≠ y.g
  new : ∀ b ∈ L, b.nw = true → w0.heap.size ≤ b.g
  only : Only (fun k => ∃ b ∈ L, b.nw = false ∧ b.g = k) w0 w
section
variable {w0 w w' : World} {L R : List Bk} {b : Bk} {g : Nat} {t : TypeId} {cs : List Value} {n : Bool}
theorem St.nil (w : World) : St w [] w := ⟨(fun _ h => by cases h), .nil, (fun _ h => by cases h), Only.refl _ w⟩
theorem St.oneF (h : Blf w g t cs) : St w [⟨g, t, cs, false⟩] w := by
  refine ⟨fun b hb => ?_, by simp, fun b hb hn => ?_, Only.refl _ w⟩
  · cases hb with
    | head => exact h
    | tail _ hb => cases hb
  · cases hb with
    | head => cases hn
    | tail _ hb => cases hb
theorem St.one (h : Blk w g t cs.toArray) : St w [⟨g, t, cs, false⟩] w := St.oneF h.blf
theorem St.drawn (h : St w0 L w) (hd : Drawn w w') : St w0 L w' := by
  obtain ⟨n, rfl⟩ := hd
  exact ⟨fun b hb => (h.own b hb).drewN n, h.ne, h.new, h.only.drewN n⟩
theorem St.size (h : St w0 L w) : w0.heap.size ≤ w.heap.size := h.only.size
theorem St.head (h : St w0 (⟨g, t, cs, n⟩ :: L) w) : Blf w g t cs := h.own _ (List.mem_cons_self ..)
theorem St.mem (h : St w0 L w) {k : Nat} (hk : L[k]? = some b) : Bko w b := h.own _ (List.mem_of_getElem? hk)
theorem St.cell (h : St w0 L w) (k : Nat) {b : Bk} (hk : L[k]? = some b) (i : Nat) : w.cell? ⟨b.g, i, none⟩ = b.cs[i]? := (h.mem hk).cell i
theorem St.allocF (h : St w0 L w) (t : TypeId) (cs : List Value) (fr : Nat × Nat) (hf : fr = (0, 0) ∨ (cs.length ≤ fr.1 ∧ t = 5)) : St w0 (⟨w.heap.size, t, cs, true⟩ :: L) (w.alloc (.cells cs.toArray t fr)) := by
  refine ⟨fun b hb => ?_, .cons (fun b hb => ?_) h.ne, fun b hb hn => ?_, ?_⟩
  · cases hb with
    | head => exact ⟨fr, heap_alloc_new w _, hf⟩
    | tail _ hb => exact (h.own b hb).alloc _
  · have := (h.own b hb).lt
    simp only []
    omega
  · cases hb with
    | head => exact h.size
    | tail _ hb => exact h.new b hb hn
  · refine (h.only.alloc _).mono fun i _ ⟨b, hb, hn, hg⟩ => ⟨b, List.mem_cons_of_mem _ hb, hn, hg⟩
theorem St.alloc (h : St w0 L w) (t : TypeId) (cs : List Value) : St w0 (⟨w.heap.size, t, cs, true⟩ :: L) (w.alloc (.cells cs.toArray t)) := h.allocF t cs (0, 0) (.inl rfl)
theorem St.setRow {cs' : List Value} (h : St w0 (⟨g, t, cs, n⟩ :: L) w) (hl : cs'.length = cs.length) : St w0 (⟨g, t, cs', n⟩ :: L) (w.setRow g cs'.toArray) := by
  have hne := List.pairwise_cons.1 h.ne
  refine ⟨fun b hb => ?_, .cons (fun b hb => hne.1 b hb) hne.2, fun b hb hn => ?_, ?_⟩
  · cases hb with
    | head => exact h.head.setRow hl
    | tail _ hb => exact (h.own b (List.mem_cons_of_mem _ hb)).same (setRow_other w g b.g _ (fun e => hne.1 b hb e.symm))
  · cases hb with
    | head => exact h.new ⟨g, t, cs, n⟩ (List.mem_cons_self ..) hn
    | tail _ hb => exact h.new b (List.mem_cons_of_mem _ hb) hn
  · have ho : Only (fun k => ∃ b ∈ (⟨g, t, cs', n⟩ :: L : List Bk), b.nw = false ∧ b.g = k) w0 w := h.only.mono fun k _ ⟨b, hb, hn, hg⟩ => by
      cases hb with
      | head => exact ⟨_, List.mem_cons_self .., hn, hg⟩
      | tail _ hb => exact ⟨b, List.mem_cons_of_mem _ hb, hn, hg⟩
    refine ⟨ho.os, ho.tape, ho.output, by simpa using ho.size, fun k hk hn => ?_⟩
    refine (setRow_other w g k _ ?_).trans (ho.block k hk hn)
    rintro rfl
    cases n with
    | false => exact hn ⟨_, List.mem_cons_self .., rfl, rfl⟩
    | true =>
      have := h.new ⟨k, t, cs, true⟩ (List.mem_cons_self ..) rfl
      simp only [] at this
      omega
/-- Another order. -/
theorem St.perm (h : St w0 L w) (hp : L.Perm R) : St w0 R w :=
  ⟨fun b hb => h.own b (hp.mem_iff.2 hb), hp.pairwise h.ne (fun h => h.symm), fun b hb => h.new b (hp.mem_iff.2 hb), h.only.mono fun _ _ ⟨b, hb, hn, hg⟩ => ⟨b, hp.mem_iff.1 hb, hn, hg⟩⟩
theorem St.swap {x y : Bk} (h : St w0 (x :: y :: L) w) : St w0 (y :: x :: L) w := h.perm (.swap ..)
theorem St.up2 {x y z : Bk} (h : St w0 (x :: y :: z :: L) w) : St w0 (z :: x :: y :: L) w := h.perm (((List.Perm.swap z y L).cons x).trans (.swap z x (y :: L)))
theorem St.up3 {x y z u : Bk} (h : St w0 (x :: y :: z :: u :: L) w) : St w0 (u :: x :: y :: z :: L) w := h.perm ((((List.Perm.swap u z L).cons y).trans (.swap u y (z :: L))).cons x |>.trans (.swap u x (y :: z :: L)))
/-- A new block is forgotten. -/
theorem St.drop {k : Kd} (h : St w0 (⟨g, k, cs, true⟩ :: L) w) : St w0 L w :=
  ⟨fun b hb => h.own b (List.mem_cons_of_mem _ hb), (List.pairwise_cons.1 h.ne).2, fun b hb => h.new b (List.mem_cons_of_mem _ hb), h.only.mono fun _ _ ⟨b, hb, hn, hg⟩ => by
    cases hb with
    | head => cases hn
    | tail _ hb => exact ⟨b, hb, hn, hg⟩⟩
/-- A cell of old memory that is not among the blocks. -/
theorem St.old (h : St w0 L w) {p : Addr} (hp : p.block < w0.heap.size) (hn : ∀ b ∈ L, b.nw = false → b.g ≠ p.block) : w.cell? p = w0.cell? p :=
  h.only.cell hp fun ⟨b, hb, h1, h2⟩ => hn b hb h1 h2
/-- A callee has turned just the first blocks, A, into B (some of them new). -/
theorem St.call {A B B' : List Bk} (h : St w0 (A ++ R) w) (hc : St w B w') (hg : B'.map (·.g) = B.map (·.g)) (ht : B'.map (·.t) = B.map (·.t)) (hcs : B'.map (·.cs) = B.map (·.cs))
    (hold : ∀ b ∈ B, b.nw = true ∨ ∃ a ∈ A, a.g = b.g) (hnw : ∀ b ∈ B', b.nw = true → (∃ a ∈ A, a.nw = true ∧ a.g = b.g) ∨ (∃ x ∈ B, x.nw = true ∧ x.g = b.g)) (hA : ∀ a ∈ A, a.nw = false → ∃ b ∈ B', b.nw = false ∧ b.g = a.g) : St w0 (B' ++ R) w' := by
  have hmem : ∀ b ∈ B', ∃ x ∈ B, x.g = b.g ∧ x.t = b.t ∧ x.cs = b.cs := fun b hb => by
    obtain ⟨i, hi, rfl⟩ := List.mem_iff_getElem.1 hb
    have hl : B'.length = B.length := by simpa using congrArg List.length hg
    refine ⟨B[i]'(by omega), List.getElem_mem _, ?_, ?_, ?_⟩
    · have := congrArg (·[i]?) hg; simpa [hi, hl ▸ hi] using this.symm
    · have := congrArg (·[i]?) ht; simpa [hi, hl ▸ hi] using this.symm
    · have := congrArg (·[i]?) hcs; simpa [hi, hl ▸ hi] using this.symm
  have hpa := List.pairwise_append.1 h.ne
  have hBR : ∀ b ∈ B, ∀ r ∈ R, b.g ≠ r.g := fun b hb r hr => by
    rcases hold b hb with hn | ⟨a, ha, he⟩
    · have h1 := hc.new b hb hn
      have h2 := (h.own r (List.mem_append.2 (.inr hr))).lt
      omega
    · have := hpa.2.2 a ha r hr
      omega
  refine ⟨fun b hb => ?_, ?_, fun b hb hn => ?_, ?_⟩
  · rcases List.mem_append.1 hb with hb | hb
    · obtain ⟨x, hx, h1, h2, h3⟩ := hmem b hb
      have := hc.own x hx
      unfold Bko at this ⊢
      rwa [← h1, ← h2, ← h3]
    · refine (h.own b (List.mem_append.2 (.inr hb))).only hc.only fun ⟨x, hx, _, he⟩ => hBR x hx b hb he
  · refine List.pairwise_append.2 ⟨?_, hpa.2.1, fun b hb r hr => ?_⟩
    · have h1 : (B.map (·.g)).Pairwise (· ≠ ·) := List.pairwise_map.2 hc.ne
      rw [← hg] at h1
      exact List.pairwise_map.1 h1
    · obtain ⟨x, hx, h1, _⟩ := hmem b hb
      rw [← h1]
      exact hBR x hx r hr
  · rcases List.mem_append.1 hb with hb | hb
    · rcases hnw b hb hn with ⟨a, ha, h1, h2⟩ | ⟨x, hx, h1, h2⟩
      · rw [← h2]; exact h.new a (List.mem_append.2 (.inl ha)) h1
      · rw [← h2]; exact Nat.le_trans h.size (hc.new x hx h1)
    · exact h.new b (List.mem_append.2 (.inr hb)) hn
  · have h1 : Only (fun k => ∃ b ∈ B' ++ R, b.nw = false ∧ b.g = k) w0 w := h.only.mono fun k _ ⟨b, hb, hn, he⟩ => by
      rcases List.mem_append.1 hb with hb | hb
      · obtain ⟨x, hx, h1, h2⟩ := hA b hb hn
        exact ⟨x, List.mem_append.2 (.inl hx), h1, h2.trans he⟩
      · exact ⟨b, List.mem_append.2 (.inr hb), hn, he⟩
    refine h1.trans hc.only fun k hk ⟨b, hb, hn, he⟩ => ?_
    rcases hold b hb with h2 | ⟨a, ha, h2⟩
    · rw [hn] at h2; cases h2
    · cases hna : a.nw with
      | true =>
        have := h.new a (List.mem_append.2 (.inl ha)) hna
        omega
      | false =>
        obtain ⟨x, hx, h3, h4⟩ := hA a ha hna
        exact ⟨x, List.mem_append.2 (.inl hx), h3, by omega⟩
/-- A callee that only makes memory. -/
theorem St.call0 (h : St w0 R w) (hc : St w [] w') : St w0 R w' := St.call (A := []) (B' := []) h hc rfl rfl rfl (fun _ h => by cases h) (fun _ h => by cases h) (fun _ h => by cases h)
/-- A callee that turns the first block. -/
theorem St.call1 {cs' : List Value} (h : St w0 (⟨g, t, cs, n⟩ :: R) w) (hc : St w [⟨g, t, cs', false⟩] w') : St w0 (⟨g, t, cs', n⟩ :: R) w' :=
  St.call (A := [⟨g, t, cs, n⟩]) (B' := [⟨g, t, cs', n⟩]) h hc rfl rfl rfl (fun b hb => by cases hb with
    | head => exact .inr ⟨_, List.mem_cons_self .., rfl⟩
    | tail _ hb => cases hb) (fun b hb hn => by cases hb with
    | head => exact .inl ⟨_, List.mem_cons_self .., hn, rfl⟩
    | tail _ hb => cases hb) (fun a ha hn => by cases ha with
    | head => exact ⟨_, List.mem_cons_self .., hn, rfl⟩
    | tail _ ha => cases ha)
/-- A callee that makes a block. -/
theorem St.callNew (h : St w0 R w) (hc : St w [⟨g, t, cs, true⟩] w') : St w0 (⟨g, t, cs, true⟩ :: R) w' :=
  St.call (A := []) (B' := [⟨g, t, cs, true⟩]) h hc rfl rfl rfl (fun b hb => by cases hb with
    | head => exact .inl rfl
    | tail _ hb => cases hb) (fun b hb hn => by cases hb with
    | head => exact .inr ⟨_, List.mem_cons_self .., rfl, rfl⟩
    | tail _ hb => cases hb) (fun a ha _ => by cases ha)
end
/-! ### Loads, stores, new memory -/
/-- Is the type a struct or an array? How many cells has it? -/
def shp (P : Program) (t : TypeId) : Option (Bool × Nat) :=
  (P.underlying t).bind fun d => (P.info? t).map fun i => ((match d with
    | .struct _ | .array _ _ => true
    | _ => false), i.size)
/-- The cells of a zero value. -/
def zer (P : Program) (t : TypeId) : Option (List Value) := ((P.info? t).bind (·.zero)).map (·.cells.toList)
section
variable {P : Program} {w w0 w' : World} {t : TypeId}
theorem shp_agg {q : Bool} {n : Nat} (h : shp P t = some (q, n)) : (isAgg t).run P w = .ok q w ∧ (P.info? t).map (·.size) = some n := by
  unfold shp at h
  cases hd : P.underlying t with
  | none => simp [hd] at h
  | some d =>
    cases hi : P.info? t with
    | none => simp [hd, hi] at h
    | some i =>
      simp only [hd, hi, Option.bind_some, Option.map_some, Option.some.injEq, Prod.mk.injEq] at h ⊢
      refine ⟨?_, h.2⟩
      rw [← h.1]
      cases d <;> simp [isAgg, run_underlying hd]
theorem pw_load1 {a : Addr} {v : Value} (hs : shp P t = some (false, 1)) (h : w.cell? a = some v) : PurW P w (o_load t (.pointer (some a))) v := by
  simp [PurW, o_load, sv, Instr.loadAt, Instr.sureAddr, loadVar, (shp_agg (w := w) hs).1, go_sem, h]
theorem pw_loadN {b o n : Nat} {cs : List Value} (hs : shp P t = some (true, n)) (hl : cs.length = n) (h : ∀ j v, cs[j]? = some v → w.cell? ⟨b, o + j, none⟩ = some v) : PurW P w (o_load t (.pointer (some ⟨b, o, none⟩))) (.agg cs.toArray) := by
  have h1 := run_loadCells_list (P := P) (w := w) ⟨b, o, none⟩ cs (fun j v hj => by rw [Addr.add_lit]; exact h j v hj)
  subst hl
  simp [PurW, o_load, sv, Instr.loadAt, Instr.sureAddr, loadVar, (shp_agg (w := w) hs).1, run_size (shp_agg (w := w) hs).2, h1]
theorem rcell_load {a v : Value} {K : Value → Prop} (h : PurW P w (o_load t a) v) (ha : ∃ x, a = .pointer (some x)) (hk : K v) : rcell P t a w K := by
  obtain ⟨x, rfl⟩ := ha
  refine ⟨v, ?_, hk⟩
  simp only [PurW, o_load, sv, Instr.loadAt, Instr.sureAddr] at h
  simp only [asAddr]
  simp at h ⊢
  cases hr : (loadVar t x).run P w with
  | ok u w2 => rw [hr] at h; simp at h ⊢; exact h
  | halt e w2 => rw [hr] at h; simp at h
/-- Cells vs laid over cs from i on. -/
def lay (cs vs : List Value) (i : Nat) : List Value := cs.take i ++ vs ++ cs.drop (i + vs.length)
theorem lay_length (cs vs : List Value) (i : Nat) (h : i + vs.length ≤ cs.length) : (lay cs vs i).length = cs.length := by simp [lay]; omega
theorem lay_at (cs vs : List Value) (i j : Nat) (h : i + vs.length ≤ cs.length) : (lay cs vs i)[j]? = if j < i then cs[j]? else if j < i + vs.length then vs[j - i]? else cs[j]? := by
  unfold lay
  have e1 : (cs.take i).length = i := by simp; omega
  split
  · rename_i hj
    rw [List.append_assoc, List.getElem?_append_left (by omega), List.getElem?_take, if_pos hj]
  · rename_i hj
    split
    · rename_i hj2
      rw [List.append_assoc, List.getElem?_append_right (by omega), e1, List.getElem?_append_left (by omega)]
    · rename_i hj2
      rw [List.getElem?_append_right (by simp; omega), List.getElem?_drop]
      congr 1
      simp
      omega
theorem lay_cons (cs : List Value) (v : Value) (vs : List Value) (i : Nat) (h : i + (vs.length + 1) ≤ cs.length) : lay (cs.set i v) vs (i + 1) = lay cs (v :: vs) i := by
  apply List.ext_getElem?
  intro j
  rw [lay_at _ _ _ _ (by simp; omega), lay_at _ _ _ _ (by simp; omega), List.getElem?_set]
  simp only [List.length_cons]
  rcases Nat.lt_trichotomy j i with hj | hj | hj
  · rw [if_pos (by omega), if_pos hj, if_neg (by omega)]
  · subst hj
    rw [if_pos (by omega), if_pos rfl, if_pos (by omega), if_neg (by omega), if_pos (by omega), Nat.sub_self]
    rfl
  · have a1 : ¬ j < i + 1 := by omega
    have a2 : ¬ i = j := by omega
    have a3 : ¬ j < i := by omega
    simp only [a1, a2, a3, if_false]
    by_cases h2 : j < i + 1 + vs.length
    · rw [if_pos h2, if_pos (by omega), show j - i = (j - (i + 1)) + 1 by omega]
      rfl
    · rw [if_neg h2, if_neg (by omega)]
theorem run_storeCells_blf {g : Nat} {t : TypeId} (o : Nat) : ∀ (vs : List Value) (i : Nat) (cs : List Value) (w : World), Blf w g t cs → o + i + vs.length ≤ cs.length → (∀ v ∈ vs, v.oneCell' = true) → (storeCells ⟨g, o, none⟩ vs i).run P w = .ok () (w.setRow g (lay cs vs (o + i)).toArray)
  | [], i, cs, w, hb, _, _ => by
    obtain ⟨fr, hb, _⟩ := hb
    have : lay cs [] (o + i) = cs := by simp [lay]
    rw [this, setRow_self w g cs.toArray t fr hb]
    rfl
  | v :: vs, i, cs, w, hb, hl, h1 => by
    have hlt : o + i < cs.length := by simp at hl; omega
    have hc : w.cell? ⟨g, o + i, none⟩ = some cs[o + i] := by rw [hb.cell]; simp [hlt]
    have hf := hb.frozen (o + i) hlt
    have hv := h1 v (List.mem_cons_self ..)
    obtain ⟨fr, hg, hfr⟩ := id hb
    have hset : w.setCell ⟨g, o + i, none⟩ v = w.setRow g (cs.set (o + i) v).toArray := by
      rw [setCell_eq_setRow w g (o + i) cs.toArray t fr v hg]
      simp
    have ih := run_storeCells_blf o vs (i + 1) (cs.set (o + i) v) (w.setRow g (cs.set (o + i) v).toArray) (hb.setRow (by simp)) (by simp at hl ⊢; omega) (fun u hu => h1 u (List.mem_cons_of_mem _ hu))
    have hst : (store (Addr.add ⟨g, o, none⟩ i) v).run P w = .ok () (w.setRow g (cs.set (o + i) v).toArray) := by
      rw [Addr.add_lit, ← hset, run_store P w _ v _ hv, hc]
      simp [hf]
    rw [storeCells, Sem.run_bind, hst, Result.andThen_ok, ih, setRow_setRow, ← Nat.add_assoc, lay_cons cs v vs (o + i) (by simp at hl; omega)]
theorem run_storeN {L : List Bk} {g i : Nat} {t' : TypeId} {cs : List Value} {n q : Bool} {v : Value} {k : Nat} (hs : shp P t = some (q, k)) (h : St w0 (⟨g, t', cs, n⟩ :: L) w) (hv : v.cells.size = k) (h1 : ∀ u ∈ v.cells.toList, u.oneCell' = true) (hi : i + k ≤ cs.length) :
    ∃ w', (o_store t (.pointer (some ⟨g, i, none⟩)) v).run P w = .ok .skip w' ∧ St w0 (⟨g, t', lay cs v.cells.toList i, n⟩ :: L) w' := by
  have hst := run_storeCells_blf (P := P) i v.cells.toList 0 cs w h.head (by simp; omega) h1
  refine ⟨w.setRow g (lay cs v.cells.toList i).toArray, ?_, h.setRow (lay_length _ _ _ (by simp; omega))⟩
  subst hv
  simp only [Nat.add_zero] at hst
  simp [o_store, su, Instr.storeAt, Instr.sureAddr, storeVar, run_size (shp_agg (w := w) hs).2, hst]
theorem run_store1 {L : List Bk} {g i : Nat} {t' : TypeId} {cs : List Value} {n : Bool} {v : Value} (hs : shp P t = some (false, 1)) (h : St w0 (⟨g, t', cs, n⟩ :: L) w) (hv : v.oneCell' = true) (hi : i < cs.length) :
    ∃ w', (o_store t (.pointer (some ⟨g, i, none⟩)) v).run P w = .ok .skip w' ∧ St w0 (⟨g, t', cs.set i v, n⟩ :: L) w' := by
  have hcells : v.cells = #[v] := by cases v <;> simp_all [Value.cells, Value.oneCell']
  obtain ⟨w', h1, h2⟩ := run_storeN (i := i) (v := v) hs h (by rw [hcells]; rfl) (by rw [hcells]; simpa using hv) (by omega)
  refine ⟨w', h1, ?_⟩
  rw [hcells] at h2
  have e : lay cs [v] i = cs.set i v := by
    rw [lay, List.set_eq_take_append_cons_drop, if_pos hi]; simp
  rw [← e]
  exact h2
theorem run_new {L : List Bk} {s : Sem Next} {cs : List Value} (h : St w0 L w) (hr : s.run P w = .ok (.value (.pointer (some ⟨w.heap.size, 0, none⟩))) (w.alloc (.cells cs.toArray t))) :
    ∃ g w', s.run P w = .ok (.value (.pointer (some ⟨g, 0, none⟩))) w' ∧ St w0 (⟨g, t, cs, true⟩ :: L) w' := ⟨_, _, hr, h.alloc t cs⟩
theorem run_alloc {L : List Bk} {cs : List Value} (hz : zer P t = some cs) (h : St w0 L w) : ∃ g w', (o_alloc t).run P w = .ok (.value (.pointer (some ⟨g, 0, none⟩))) w' ∧ St w0 (⟨g, t, cs, true⟩ :: L) w' := by
  refine run_new h ?_
  unfold zer at hz
  cases hi : P.info? t with
  | none => simp [hi] at hz
  | some i =>
    cases hzz : i.zero with
    | none => simp [hi, hzz] at hz
    | some z =>
      simp [hi, hzz] at hz
      subst hz
      simp [o_alloc, sv, Instr.alloc, zeroValue, typeInfo, hi, hzz, newVar, newRow, go_sem]
theorem run_box {L : List Bk} {v : Value} (h : St w0 L w) : ∃ g w', (o_box t v).run P w = .ok (.value (.pointer (some ⟨g, 0, none⟩))) w' ∧ St w0 (⟨g, t, v.cells.toList, true⟩ :: L) w' := by
  refine run_new h ?_
  simp [o_box, sv, Instr.box, newVar, newRow, go_sem]
end
section
variable {P : Program} {w w0 : World} {t : TypeId} {K : Value → World → Prop} {X : List PanicEntry → World → Prop} {L : List Bk} {g i : Nat} {t' : TypeId} {cs : List Value} {n : Bool} {v : Value}
theorem mop_store1 (hs : shp P t = some (false, 1)) (h : St w0 (⟨g, t', cs, n⟩ :: L) w) (hv : v.oneCell' = true) (hi : i < cs.length) (hk : ∀ w', St w0 (⟨g, t', cs.set i v, n⟩ :: L) w' → K undef w') : mop P (o_store t (.pointer (some ⟨g, i, none⟩)) v) w K X := by
  obtain ⟨w', h1, h2⟩ := run_store1 hs h hv hi
  exact mop_skip h1 (hk w' h2)
theorem df_store1 (hs : shp P t = some (false, 1)) (h : St w0 (⟨g, t', cs, n⟩ :: L) w) (hv : v.oneCell' = true) (hi : i < cs.length) (hk : ∀ w', St w0 (⟨g, t', cs.set i v, n⟩ :: L) w' → K undef w') : df P w (o_store t (.pointer (some ⟨g, i, none⟩)) v) false K :=
  df_mop fun w1 hd => mop_store1 hs (h.drawn hd) hv hi fun w' h' => ⟨(fun e => by cases e), hk w' h'⟩
theorem mop_storeN {q : Bool} {k : Nat} (hs : shp P t = some (q, k)) (h : St w0 (⟨g, t', cs, n⟩ :: L) w) (hv : v.cells.size = k) (h1 : ∀ u ∈ v.cells.toList, u.oneCell' = true) (hi : i + k ≤ cs.length) (hk : ∀ w', St w0 (⟨g, t', lay cs v.cells.toList i, n⟩ :: L) w' → K undef w') :
    mop P (o_store t (.pointer (some ⟨g, i, none⟩)) v) w K X := by
  obtain ⟨w', h1, h2⟩ := run_storeN hs h hv h1 hi
  exact mop_skip h1 (hk w' h2)
theorem df_storeN {q : Bool} {k : Nat} (hs : shp P t = some (q, k)) (h : St w0 (⟨g, t', cs, n⟩ :: L) w) (hv : v.cells.size = k) (h1 : ∀ u ∈ v.cells.toList, u.oneCell' = true) (hi : i + k ≤ cs.length) (hk : ∀ w', St w0 (⟨g, t', lay cs v.cells.toList i, n⟩ :: L) w' → K undef w') :
    df P w (o_store t (.pointer (some ⟨g, i, none⟩)) v) false K :=
  df_mop fun w1 hd => mop_storeN hs (h.drawn hd) hv h1 hi fun w' h' => ⟨(fun e => by cases e), hk w' h'⟩
theorem mop_alloc {cs : List Value} (hz : zer P t = some cs) (h : St w0 L w) (hk : ∀ g w', St w0 (⟨g, t, cs, true⟩ :: L) w' → K (.pointer (some ⟨g, 0, none⟩)) w') : mop P (o_alloc t) w K X := by
  obtain ⟨g, w', h1, h2⟩ := run_alloc hz h
  exact mop_run h1 (hk g w' h2)
theorem mop_box (h : St w0 L w) (hk : ∀ g w', St w0 (⟨g, t, v.cells.toList, true⟩ :: L) w' → K (.pointer (some ⟨g, 0, none⟩)) w') : mop P (o_box t v) w K X := by
  obtain ⟨g, w', h1, h2⟩ := run_box (t := t) (v := v) h
  exact mop_run h1 (hk g w' h2)
/-- A call that turns nothing. -/
theorem mop_same {f : Nat} {args : List Value} (h : Calls P f args.toArray w fun e w' => e = .returned v ∧ w = w') (hb : ((P.funcs[f]?).map fun fn => fn.body.isSome && fn.name != "runtime.NumGoroutine") = some true) (hk : K v w) : mop P (o_call (fv f) args) w K X :=
  mop_call h hb fun e w' ⟨he, hw⟩ => by subst he; subst hw; exact hk
theorem df_same {f : Nat} {args : List Value} {ext : Bool} (h : ∀ w, Calls P f args.toArray w fun e w' => e = .returned v ∧ w = w') (hb : ((P.funcs[f]?).map fun fn => fn.body.isSome && fn.name != "runtime.NumGoroutine") = some true) (hk : ∀ w', Drawn w w' → K v w') : df P w (o_call (fv f) args) ext K :=
  df_mop fun w1 hd => mop_same (h w1) hb ⟨fun _ => hd.ext, hk w1 hd⟩
end
/-- The bytes of a text. -/
def ints (s : ByteArray) : List Int := s.data.toList.map fun c => (c.toNat : Int)
theorem ints_length (s : ByteArray) : (ints s).length = s.size := by rw [ints, List.length_map]; rfl
theorem ints_range (s : ByteArray) : ∀ x ∈ ints s, 0 ≤ x ∧ x < 256 := by
  intro x hx
  obtain ⟨c, _, rfl⟩ := List.mem_map.1 hx
  have := c.toNat_lt
  omega
theorem ints_str (xs : List Int) (h : ∀ x ∈ xs, 0 ≤ x ∧ x < 256) : ints (strOfNums xs) = xs := by
  unfold ints
  rw [strOfNums_data, List.map_map]
  conv => rhs; rw [← List.map_id xs]
  refine List.map_congr_left fun x hx => ?_
  have := h x hx
  simp only [Function.comp, id]
  have e : (UInt8.ofNat x.toNat).toNat = x.toNat := by simp; omega
  rw [e]
  omega
theorem str_ints (s : ByteArray) : strOfNums (ints s) = s := by
  unfold strOfNums ints
  rw [List.map_map]
  have : (List.map ((fun n => UInt8.ofNat n.toNat) ∘ fun c => (c.toNat : Int)) s.data.toList) = s.data.toList := by
    conv => rhs; rw [← List.map_id s.data.toList]
    exact List.map_congr_left fun x _ => by simp
  rw [this]
theorem p_index_array {P : Program} (t e n : Nat) (cs : Array Value) (k : IntKind) (i : Int) (v : Value) (ht : P.underlying t = some (.array n e)) (hs : shp P e = some (false, 1)) (h0 : 0 ≤ i) (h1 : i < n) (hv : cs[i.toNat]? = some v) :
    Pur P (o_index t (.agg cs) (.int k i)) v := fun w => by
  simp [o_index, sv, Instr.index, asIntOf, run_underlying ht, h0, h1, run_size (shp_agg (w := w) hs).2, part, (shp_agg (w := w) hs).1, hv]
theorem p_index_string {P : Program} (t : Nat) (s : ByteArray) (k : IntKind) (i : Int) (ht : P.underlying t = some .string) (h0 : 0 ≤ i) (h1 : i < s.size) :
    Pur P (o_index t (.string s) (.int k i)) (.int .u8 ((ints s).getD i.toNat 0)) := fun w => by
  have hlt : i.toNat < s.size := by omega
  have h2 : s[i.toNat]? = some s[i.toNat] := by simp [hlt]
  simp [o_index, sv, Instr.index, asIntOf, run_underlying ht, h0, h2, ints]
  have h3 : s.data[i.toNat]? = some s[i.toNat] := by
    rw [Array.getElem?_eq_getElem (show i.toNat < s.data.size from hlt)]
    rfl
  rw [h3]
  rfl
/-! ### Steps found by the form of the operation -/
/-- Under the condition c the operation yields v, and turns nothing. -/
class StepC (P : Program) (s : Sem Next) (c : outParam Prop) (v : outParam Value) : Prop where
  ok : c → Pur P s v
class ShpC (P : Program) (t : TypeId) (q : outParam Bool) (n : outParam Nat) : Prop where
  ok : shp P t = some (q, n)
class ZerC (P : Program) (t : TypeId) (cs : outParam (List Value)) : Prop where
  ok : zer P t = some cs
class FunC (P : Program) (f : Nat) : Prop where
  ok : ((P.funcs[f]?).map fun fn => fn.body.isSome && fn.name != "runtime.NumGoroutine") = some true
section
variable {P : Program} {s : Sem Next} {c : Prop} {v : Value} {w w0 : World} {K : Value → World → Prop} {X : List PanicEntry → World → Prop} {t : TypeId}
theorem mop_c [h : StepC P s c v] (hc : c) (hk : K v w) : mop P s w K X := mop_pur (h.ok hc) hk
theorem dp_c {K : Value → Prop} [h : StepC P s c v] (hc : c) (hk : K v) : dp P s K := dp_pur (h.ok hc) hk
theorem mop_ld [h : ShpC P t false 1] {b i j : Nat} (hl : w.cell? ⟨b, j, none⟩ = some v) (hij : i = j) (hk : K v w) : mop P (o_load t (.pointer (some ⟨b, i, none⟩))) w K X :=
  mop_purW (pw_load1 h.ok (by rw [hij]; exact hl)) hk
theorem Ext.cell {w' : World} (h : Ext w w') {b j : Nat} {v : Value} (hl : w.cell? ⟨b, j, none⟩ = some v) : w'.cell? ⟨b, j, none⟩ = some v := by
  have hb : b < w.heap.size := by
    rcases Nat.lt_or_ge b w.heap.size with h | h
    · exact h
    · simp [World.cell?, Array.getElem?_eq_none h] at hl
  exact (Only.cell h (p := ⟨b, j, none⟩) hb (fun e => e)).trans hl
theorem dq_ld {K : Value → Prop} [h : ShpC P t false 1] {b i j : Nat} (hl : w.cell? ⟨b, j, none⟩ = some v) (hij : i = j) (hk : K v) : dq P w (o_load t (.pointer (some ⟨b, i, none⟩))) K :=
  dq_pur (fun _ hw => pw_load1 h.ok (by rw [hij]; exact hw.cell hl)) hk
theorem mop_ldN {n : Nat} [h : ShpC P t true n] {b i j : Nat} {cs : List Value} (hl : ∀ k v, cs[k]? = some v → w.cell? ⟨b, j + k, none⟩ = some v) (hn : cs.length = n) (hij : i = j) (hk : K (.agg cs.toArray) w) : mop P (o_load t (.pointer (some ⟨b, i, none⟩))) w K X :=
  mop_purW (pw_loadN h.ok hn (by rw [hij]; exact hl)) hk
theorem dq_ldN {K : Value → Prop} {n : Nat} [h : ShpC P t true n] {b i j : Nat} {cs : List Value} (hl : ∀ k v, cs[k]? = some v → w.cell? ⟨b, j + k, none⟩ = some v) (hn : cs.length = n) (hij : i = j) (hk : K (.agg cs.toArray)) : dq P w (o_load t (.pointer (some ⟨b, i, none⟩))) K :=
  dq_pur (fun _ hw => pw_loadN h.ok hn (by rw [hij]; exact fun k v hk => hw.cell (hl k v hk))) hk
theorem rcell_ld {K : Value → Prop} [h : ShpC P t false 1] {b j : Nat} (hl : w.cell? ⟨b, j, none⟩ = some v) (hk : K v) : rcell P t (.pointer (some ⟨b, j, none⟩)) w K := rcell_load (pw_load1 h.ok hl) ⟨_, rfl⟩ hk
theorem rcell_ldN {K : Value → Prop} {n : Nat} [h : ShpC P t true n] {b j : Nat} {cs : List Value} (hl : ∀ k v, cs[k]? = some v → w.cell? ⟨b, j + k, none⟩ = some v) (hn : cs.length = n) (hk : K (.agg cs.toArray)) : rcell P t (.pointer (some ⟨b, j, none⟩)) w K := rcell_load (pw_loadN h.ok hn hl) ⟨_, rfl⟩ hk
variable {L : List Bk} {g i j : Nat} {t' : TypeId} {cs : List Value} {n : Bool}
theorem mop_st [hc : ShpC P t false 1] (h : St w0 (⟨g, t', cs, n⟩ :: L) w) (hij : i = j) (hi : j < cs.length) (hv : v.oneCell' = true) (hk : ∀ w', St w0 (⟨g, t', cs.set j v, n⟩ :: L) w' → K undef w') : mop P (o_store t (.pointer (some ⟨g, i, none⟩)) v) w K X :=
  by subst hij; exact mop_store1 hc.ok h hv hi hk
theorem df_st [hc : ShpC P t false 1] (h : St w0 (⟨g, t', cs, n⟩ :: L) w) (hij : i = j) (hi : j < cs.length) (hv : v.oneCell' = true) (hk : ∀ w', St w0 (⟨g, t', cs.set j v, n⟩ :: L) w' → K undef w') : df P w (o_store t (.pointer (some ⟨g, i, none⟩)) v) false K :=
  by subst hij; exact df_store1 hc.ok h hv hi hk
theorem mop_new [hz : ZerC P t cs] (h : St w0 L w) (hk : ∀ g w', St w0 (⟨g, t, cs, true⟩ :: L) w' → K (.pointer (some ⟨g, 0, none⟩)) w') : mop P (o_alloc t) w K X := mop_alloc hz.ok h hk
theorem mop_eq {f : Nat} {args : List Value} [hf : FunC P f] (h : Calls P f args.toArray w fun e w' => e = .returned v ∧ w = w') (hk : K v w) : mop P (o_call (fv f) args) w K X := mop_same h hf.ok hk
theorem df_eq {f : Nat} {args : List Value} {ext : Bool} [hf : FunC P f] (h : ∀ w, Calls P f args.toArray w fun e w' => e = .returned v ∧ w = w') (hk : ∀ w', Drawn w w' → K v w') : df P w (o_call (fv f) args) ext K := df_same h hf.ok hk
theorem mop_to {f : Nat} {args : List Value} {R : Ending → World → Prop} [hf : FunC P f] (h : Calls P f args.toArray w R) (hk : ∀ e w', R e w' → match e with
      | .returned v => K v w'
      | .panicked c => X c w'
      | .outgrown => False) : mop P (o_call (fv f) args) w K X := mop_call h hf.ok hk
end
section
variable {P : Program} (t : TypeId) (q : Bool) (a b : Int) (k k' : IntKind)
instance (x : Value) : StepC P (o_move x) True x := ⟨fun _ => p_move x⟩
instance (b o : Nat) : StepC P (o_nilCheck (.pointer (some ⟨b, o, none⟩))) True (.pointer (some ⟨b, o, none⟩)) := ⟨fun _ => p_nilCheck b o⟩
instance (x y : Value) : StepC P (o_pick (.bool true) x y) True x := ⟨fun _ => p_pick true x y⟩
instance (x y : Value) : StepC P (o_pick (.bool false) x y) True y := ⟨fun _ => p_pick false x y⟩
theorem wrap_in {a : Int} (h : -9223372036854775808 ≤ a ∧ a < 9223372036854775808) : IntKind.i64.wrap a = a := by
  rw [IntKind.wrap_i64]; omega
theorem wrap_u32 (a : Int) : IntKind.u32.wrap a = a % 4294967296 := by simp [IntKind.wrap, IntKind.bits, IntKind.signed]
theorem wrap_u64 (a : Int) : IntKind.u64.wrap a = a % 18446744073709551616 := by simp [IntKind.wrap, IntKind.bits, IntKind.signed]
theorem wrap_u8 (a : Int) : IntKind.u8.wrap a = a % 256 := by simp [IntKind.wrap, IntKind.bits, IntKind.signed]
instance : StepC P (o_bin .add t q (.int .i64 a) (.int .i64 b)) (-9223372036854775808 ≤ a + b ∧ a + b < 9223372036854775808) (.int .i64 (a + b)) := ⟨fun h => by have := p_add (P := P) t q .i64 a b; rwa [wrap_in h] at this⟩
instance : StepC P (o_bin .sub t q (.int .i64 a) (.int .i64 b)) (-9223372036854775808 ≤ a - b ∧ a - b < 9223372036854775808) (.int .i64 (a - b)) := ⟨fun h => by have := p_sub (P := P) t q .i64 a b; rwa [wrap_in h] at this⟩
instance : StepC P (o_bin .mul t q (.int .i64 a) (.int .i64 b)) (-9223372036854775808 ≤ a * b ∧ a * b < 9223372036854775808) (.int .i64 (a * b)) := ⟨fun h => by have := p_mul (P := P) t q .i64 a b; rwa [wrap_in h] at this⟩
instance : StepC P (o_bin .add t q (.int .u32 a) (.int .u32 b)) True (.int .u32 ((a + b) % 4294967296)) := ⟨fun _ => by have := p_add (P := P) t q .u32 a b; rwa [wrap_u32] at this⟩
instance : StepC P (o_bin .sub t q (.int .u32 a) (.int .u32 b)) True (.int .u32 ((a - b) % 4294967296)) := ⟨fun _ => by have := p_sub (P := P) t q .u32 a b; rwa [wrap_u32] at this⟩
instance : StepC P (o_bin .add t q (.int .u64 a) (.int .u64 b)) True (.int .u64 ((a + b) % 18446744073709551616)) := ⟨fun _ => by have := p_add (P := P) t q .u64 a b; rwa [wrap_u64] at this⟩
instance : StepC P (o_bin .sub t q (.int .u64 a) (.int .u64 b)) True (.int .u64 ((a - b) % 18446744073709551616)) := ⟨fun _ => by have := p_sub (P := P) t q .u64 a b; rwa [wrap_u64] at this⟩
instance : StepC P (o_bin .mul t q (.int .u64 a) (.int .u64 b)) True (.int .u64 ((a * b) % 18446744073709551616)) := ⟨fun _ => by have := p_mul (P := P) t q .u64 a b; rwa [wrap_u64] at this⟩
instance : StepC P (o_bin .add t q (.int .u8 a) (.int .u8 b)) True (.int .u8 ((a + b) % 256)) := ⟨fun _ => by have := p_add (P := P) t q .u8 a b; rwa [wrap_u8] at this⟩
instance : StepC P (o_bin .sub t q (.int .u8 a) (.int .u8 b)) True (.int .u8 ((a - b) % 256)) := ⟨fun _ => by have := p_sub (P := P) t q .u8 a b; rwa [wrap_u8] at this⟩
instance : StepC P (o_bin .and t q (.int k a) (.int k b)) True (.int k (bits .and k a b)) := ⟨fun _ => p_and t q k a b⟩
instance : StepC P (o_bin .or t q (.int k a) (.int k b)) True (.int k (bits .or k a b)) := ⟨fun _ => p_or t q k a b⟩
instance : StepC P (o_bin .xor t q (.int k a) (.int k b)) True (.int k (bits .xor k a b)) := ⟨fun _ => p_xor t q k a b⟩
instance : StepC P (o_bin .lss t q (.int k a) (.int k b)) True (.bool (decide (a < b))) := ⟨fun _ => p_lss t q k a b⟩
instance : StepC P (o_bin .leq t q (.int k a) (.int k b)) True (.bool (decide (a ≤ b))) := ⟨fun _ => p_leq t q k a b⟩
instance : StepC P (o_bin .gtr t q (.int k a) (.int k b)) True (.bool (decide (b < a))) := ⟨fun _ => p_gtr t q k a b⟩
instance : StepC P (o_bin .geq t q (.int k a) (.int k b)) True (.bool (decide (b ≤ a))) := ⟨fun _ => p_geq t q k a b⟩
instance : StepC P (o_bin .eql t q (.int k a) (.int k b)) True (.bool (decide (a = b))) := ⟨fun _ => p_eql t q k a b⟩
instance : StepC P (o_bin .neq t q (.int k a) (.int k b)) True (.bool (decide (a ≠ b))) := ⟨fun _ => p_neq t q k a b⟩
instance : StepC P (o_bin .rem t q (.int k a) (.int k b)) (0 ≤ a ∧ 0 < b) (.int k (a % b)) := ⟨fun h => by have := p_rem (P := P) t q k a b (by omega); rwa [Int.tmod_eq_emod_of_nonneg h.1] at this⟩
instance : StepC P (o_bin .quo t q (.int .i64 a) (.int .i64 b)) (0 ≤ a ∧ 0 < b ∧ a < 9223372036854775808) (.int .i64 (a / b)) := ⟨fun h => by
  have := p_quo (P := P) t q .i64 a b (by omega)
  rw [Int.tdiv_eq_ediv_of_nonneg h.1, wrap_in] at this
  · exact this
  · have h1 : a / b ≤ a := Int.ediv_le_self _ h.1
    have h2 : 0 ≤ a / b := Int.ediv_nonneg h.1 (by omega)
    omega⟩
instance : StepC P (o_bin .shr t q (.int .u32 a) (.int k' b)) (0 ≤ b ∧ b < 32) (.int .u32 (a / 2 ^ b.toNat)) := ⟨fun h => p_shr t q .u32 k' a b h.1 h.2⟩
instance : StepC P (o_bin .shr t q (.int .u64 a) (.int k' b)) (0 ≤ b ∧ b < 64) (.int .u64 (a / 2 ^ b.toNat)) := ⟨fun h => p_shr t q .u64 k' a b h.1 h.2⟩
instance : StepC P (o_bin .shr t q (.int .i64 a) (.int k' b)) (0 ≤ b ∧ b < 64) (.int .i64 (a / 2 ^ b.toNat)) := ⟨fun h => p_shr t q .i64 k' a b h.1 h.2⟩
instance : StepC P (o_bin .shr t q (.int .u8 a) (.int k' b)) (0 ≤ b ∧ b < 8) (.int .u8 (a / 2 ^ b.toNat)) := ⟨fun h => p_shr t q .u8 k' a b h.1 h.2⟩
instance : StepC P (o_bin .shl t q (.int .u32 a) (.int k' b)) (0 ≤ b ∧ b < 32) (.int .u32 (a * 2 ^ b.toNat % 4294967296)) := ⟨fun h => by have := p_shl (P := P) t q .u32 k' a b h.1 h.2; rwa [wrap_u32] at this⟩
instance : StepC P (o_bin .shl t q (.int .u64 a) (.int k' b)) (0 ≤ b ∧ b < 64) (.int .u64 (a * 2 ^ b.toNat % 18446744073709551616)) := ⟨fun h => by have := p_shl (P := P) t q .u64 k' a b h.1 h.2; rwa [wrap_u64] at this⟩
instance : StepC P (o_bin .shl t q (.int .u8 a) (.int k' b)) (0 ≤ b ∧ b < 8) (.int .u8 (a * 2 ^ b.toNat % 256)) := ⟨fun h => by have := p_shl (P := P) t q .u8 k' a b h.1 h.2; rwa [wrap_u8] at this⟩
instance : StepC P (o_un .xor (.int .u32 a)) True (.int .u32 (bits .xor .u32 4294967295 a)) := ⟨fun _ => p_not .u32 a⟩
instance (x y : ByteArray) : StepC P (o_bin .add t q (.string x) (.string y)) (x.size + y.size ≤ 9223372036854775807) (.string (x ++ y)) := ⟨fun h => p_add_string t q x y h⟩
instance (x y : ByteArray) : StepC P (o_bin .eql t q (.string x) (.string y)) True (.bool (x.toList == y.toList)) := ⟨fun _ => p_eql_string t q x y⟩
end
end Go.Proofs.Ytopcnkejobomaaa
