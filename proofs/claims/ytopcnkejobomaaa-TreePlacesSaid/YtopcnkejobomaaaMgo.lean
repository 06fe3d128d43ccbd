/- Comparisons that are decided, guards, small steps: for the walk that goes by itself. No program is named here. -/
import Derived.Test.YtopcnkejobomaaaMeq
namespace Go.Proofs.Ytopcnkejobomaaa
open Go.RowKit

section
variable {P : Program} {s : Sem Next} {c p : Prop} [Decidable p] {v : Value} {w w' w0 : World} {K : Value → World → Prop} {X : List PanicEntry → World → Prop} {Kq : Value → Prop} {t : TypeId} {q : Bool}
theorem mop_cT [h : StepC P s c (.bool (decide p))] (hc : c) (hp : p) (hk : K (.bool true) w) : mop P s w K X := mop_c (h := h) hc (by rw [decide_eq_true hp]; exact hk)
theorem mop_cF [h : StepC P s c (.bool (decide p))] (hc : c) (hp : ¬ p) (hk : K (.bool false) w) : mop P s w K X := mop_c (h := h) hc (by rw [decide_eq_false hp]; exact hk)
theorem mop_cS [h : StepC P s c (.bool (decide p))] (hc : c) (ht : p → K (.bool true) w) (hf : ¬ p → K (.bool false) w) : mop P s w K X := mop_c (h := h) hc (by
  by_cases hp : p
  · rw [decide_eq_true hp]; exact ht hp
  · rw [decide_eq_false hp]; exact hf hp)
theorem dp_cT [h : StepC P s c (.bool (decide p))] (hc : c) (hp : p) (hk : Kq (.bool true)) : dp P s Kq := dp_c (h := h) hc (by rw [decide_eq_true hp]; exact hk)
theorem dp_cF [h : StepC P s c (.bool (decide p))] (hc : c) (hp : ¬ p) (hk : Kq (.bool false)) : dp P s Kq := dp_c (h := h) hc (by rw [decide_eq_false hp]; exact hk)
theorem dp_cS [h : StepC P s c (.bool (decide p))] (hc : c) (ht : p → Kq (.bool true)) (hf : ¬ p → Kq (.bool false)) : dp P s Kq := dp_c (h := h) hc (by
  by_cases hp : p
  · rw [decide_eq_true hp]; exact ht hp
  · rw [decide_eq_false hp]; exact hf hp)
theorem map_at {α β : Type} {f : α → β} {l : List α} {i : Nat} (h : i < l.length) : (l.map f)[i]? = some (f l[i]) := by simp [h]
theorem map_atI {α β : Type} {f : α → β} {l : List α} {i : Nat} (h : i < l.length) : (l.map f)[(i : Int).toNat]? = some (f l[i]) := by simp [h]
/-- The list without a block, a row. -/
class RmB (L : List Res) (g : Nat) (R : outParam (List Res)) : Prop where
  perm : ∃ r, L.Perm (r :: R)
instance (L : List Res) (g t : Nat) (fs : List Fd) : RmB (fb g t fs :: L) g L := ⟨⟨_, .refl _⟩⟩
instance (e sz g n cap : Nat) (ps : List (List Fd)) (L : List Res) : RmB (rowR e sz (some ⟨g, 0, none⟩) n cap ps :: L) g L := ⟨⟨_, .refl _⟩⟩
instance (priority := 900) (L R : List Res) (g : Nat) (x : Res) [h : RmB L g R] : RmB (x :: L) g (x :: R) := ⟨by
  obtain ⟨r, h⟩ := h.perm
  exact ⟨r, (h.cons x).trans (.swap ..)⟩⟩
theorem Mem.rm {H : Hp} {L R : List Res} (h : Mem H w0 L w) (g : Nat) [k : RmB L g R] : Mem H w0 R w := by
  obtain ⟨r, hp⟩ := k.perm
  exact (h.perm hp).drop
/-- A row, a block brought to the front. -/
class AtA (L : List Res) (A : Option Addr) (n cap e sz : outParam Nat) (ps : outParam (List (List Fd))) (R : outParam (List Res)) : Prop where
  perm : L.Perm (rowR e sz A n cap ps :: R)
instance (L : List Res) (A : Option Addr) (n cap e sz : Nat) (ps : List (List Fd)) : AtA (rowR e sz A n cap ps :: L) A n cap e sz ps L := ⟨.refl _⟩
instance (priority := 900) (L R : List Res) (A : Option Addr) (n cap e sz : Nat) (ps : List (List Fd)) (x : Res) [h : AtA L A n cap e sz ps R] : AtA (x :: L) A n cap e sz ps (x :: R) := ⟨(h.perm.cons x).trans (.swap ..)⟩
class AtF (L : List Res) (g : Nat) (t : outParam Nat) (fs : outParam (List Fd)) (R : outParam (List Res)) : Prop where
  perm : L.Perm (fb g t fs :: R)
instance (L : List Res) (g t : Nat) (fs : List Fd) : AtF (fb g t fs :: L) g t fs L := ⟨.refl _⟩
instance (priority := 900) (L R : List Res) (g t : Nat) (fs : List Fd) (x : Res) [h : AtF L g t fs R] : AtF (x :: L) g t fs (x :: R) := ⟨(h.perm.cons x).trans (.swap ..)⟩
theorem Mem.up {H : Hp} {L R : List Res} {n cap e sz : Nat} {ps : List (List Fd)} (h : Mem H w0 L w) (A : Option Addr) [k : AtA L A n cap e sz ps R] : Mem H w0 (rowR e sz A n cap ps :: R) w := h.perm k.perm
theorem Mem.upB {H : Hp} {L R : List Res} {t : Nat} {fs : List Fd} (h : Mem H w0 L w) (g : Nat) [k : AtF L g t fs R] : Mem H w0 (fb g t fs :: R) w := h.perm k.perm
theorem Mem.fz1 {H : Hp} {L R : List Res} {n cap e sz : Nat} {ps : List (List Fd)} (h : Mem H w0 L w) (A : Option Addr) [k : AtA L A n cap e sz ps R] : ∃ H', Le w0 H H' ∧ Mem H' w0 R w ∧ Sl H' sz A ps ∧ ps.length = n := h.freeze ⟨k.perm⟩
theorem Mem.neA {H : Hp} {L R R' : List Res} {n cap e sz tt k : Nat} {ps : List (List Fd)} {fs : List Fd} {A : Option Addr} (h : Mem H w0 L w) [a : AtA L A n cap e sz ps R] [b : AtF R k tt fs R'] : ¬ A = some ⟨k, 0, none⟩ :=
  Mem.ne (put := fun r => r :: R') (h.perm (a.perm.trans (b.perm.cons _))) (A := A) (n := n) (cap := cap) (e := e) (sz := sz) (ps := ps) (R := fb k tt fs :: R') ⟨.refl _⟩ ⟨⟨R', .refl _, fun _ => .refl _⟩⟩
theorem Mem.fz0 {H : Hp} {L : List Res} {n cap e sz : Nat} {ps : List (List Fd)} {A : Option Addr} (h : Mem H w0 (rowR e sz A n cap ps :: L) w) : ∃ H', Le w0 H H' ∧ Mem H' w0 L w ∧ Sl H' sz A ps ∧ ps.length = n := h.freeze ⟨.refl _⟩
/-- append(row, other...), the other one's own and kept. -/
theorem mm_appk {H : Hp} {L R R' : List Res} {n cap m capx e e' ex sz by_ t tx ty : Nat} {ps qs : List (List Fd)} {A B : Option Addr} {ks : List Bool} (h : Mem H w0 L w) [c : SliC P t e sz by_] [k : AtA L A n cap e sz ps R] [k' : AtA R B m capx ex sz qs R'] [cx : SliC P tx e' sz by_] (hb : n + m ≤ 9223372036854775807 ∧ (n + m) * by_ ≤ 140737488355328)
    (hk : ∀ A' cap' w', Mem H w0 (rowR e sz A' (n + m) cap' (ps ++ qs) :: R) w' → K (.slice A' (n + m) cap') w') : mop P (o_builtin .append #[t, tx] ty ks [.slice A n cap, .slice B m capx]) w K X := by
  have h2 := h.perm k.perm
  have kx : AtR (rowR e sz A n cap ps :: R) B m capx ex sz qs (rowR e sz A n cap ps :: R') := ⟨(k'.perm.cons _).trans (.swap ..)⟩
  obtain ⟨h3, _, _, h4⟩ := h2.rowLen kx
  exact mm_app h ⟨k.perm⟩ (h2.src kx cx.und capx) h4 h3 hb.1 hb.2 hk
/-! Callees that only read what is owned: for them all that there is is frozen. -/
theorem Mem.reads {H : Hp} {L R : List Res} {n cap e sz : Nat} {ps : List (List Fd)} {A : Option Addr} (h : Mem H w0 L w) [k : AtA L A n cap e sz ps R] : Sl (Hp.of w) sz A ps := by
  obtain ⟨B, ⟨B1, B2, rfl, ⟨h1, h2, h3⟩, _⟩, hs, _⟩ := (h.perm k.perm).own
  rcases h3 with ⟨_, hn, _, _⟩ | ⟨g, sp, rfl, rfl, _⟩
  · have : ps = [] := List.eq_nil_of_length_eq_zero (by omega)
    subst this
    exact Sl.nil _ _ _
  · obtain ⟨fr, hb, _⟩ := hs.own ⟨g, e, fls ps ++ sp, true⟩ (by simp)
    refine ⟨h1, .inr ⟨g, 0, (fls ps ++ sp).toArray, rfl, by simp [Hp.of, hb], fun j u hu => ?_⟩⟩
    rw [Nat.zero_add]
    simp only [List.getElem?_toArray]
    rw [List.getElem?_append_left (List.getElem?_eq_some_iff.1 hu).1]
    exact hu
def NewA (w : World) (A : Option Addr) : Prop := ∀ b o, A = some ⟨b, o, none⟩ → w.heap.size ≤ b
theorem Mem.ro {H H2 : Hp} {L : List Res} (h : Mem H w0 L w) (hm : Mem H2 w [] w') : ∃ H', Le w0 H H' ∧ Mem H' w0 L w' ∧ ∀ A ps sz, NewA w A → Sl H2 sz A ps → Sl H' sz A ps := by
  obtain ⟨B, hl, hs, hb⟩ := h.own
  refine ⟨fun b => if b < w.heap.size then H b else H2 b, ⟨fun b c hc => ?_, fun b hb1 hc => ?_⟩, ⟨⟨B, hl, hs.call0 hm.st, fun b hm' => ⟨(hb b hm').1, ?_⟩⟩, fun b c hc => ?_⟩, fun A ps sz hn hsl => ⟨hsl.els, ?_⟩⟩
  · show (if b < w.heap.size then H b else H2 b) = some c
    rw [if_pos (h.fz.lt hc)]
    exact hc
  · show (if b < w.heap.size then H b else H2 b) = none
    rw [if_pos (Nat.lt_of_lt_of_le hb1 h.ext.size)]
    exact hc
  · show (if b.g < w.heap.size then H b.g else H2 b.g) = none
    rw [if_pos (hs.own b hm').lt]
    exact (hb b hm').2
  · have hc : (if b < w.heap.size then H b else H2 b) = some c := hc
    split at hc
    · exact (h.fz.ext hm.ext) b c hc
    · exact hm.fz b c hc
  · rcases hsl.at_ with h | ⟨b, o, c, h1, h2, h3⟩
    · exact .inl h
    · refine .inr ⟨b, o, c, h1, ?_, h3⟩
      show (if b < w.heap.size then H b else H2 b) = some c
      rw [if_neg (by have := hn b o h1; omega)]
      exact h2
theorem Mem.newA {H : Hp} {L : List Res} {n cap e sz : Nat} {ps : List (List Fd)} {A : Option Addr} (h : Mem H w0 (rowR e sz A n cap ps :: L) w) : NewA w0 A := by
  rintro b o rfl
  obtain ⟨B, ⟨B1, B2, rfl, ⟨_, _, h3⟩, _⟩, hs, hb⟩ := h.own
  rcases h3 with ⟨hA, _⟩ | ⟨g, sp, hA, rfl, _⟩
  · cases hA
  · cases hA
    exact hs.new ⟨b, e, fls ps ++ sp, true⟩ (by simp) rfl
theorem dm_ownE {H : Hp} {L : List Res} {f : Nat} {args : List Value} {ext : Bool} {Q : Value → World → Prop} (h : Mem H w0 L w) [hf : FunC P f] (hc : ∀ w, Mem H w0 L w → Calls P f args.toArray w fun en w' => ∃ v, en = .returned v ∧ Ext w w' ∧ Q v w') (hk : ∀ v w', Ext w w' → Q v w' → K v w') : df P w (o_call (fv f) args) ext K :=
  df_mop fun w1 hd => mop_to (hc w1 (h.drawn hd)) fun en w' ⟨v, he, hx, hq⟩ => by
    subst he
    exact ⟨fun _ => hd.ext.trans hx, hk v w' (hd.ext.trans hx) hq⟩
theorem dm_eq {H : Hp} {L : List Res} {f : Nat} {args : List Value} {ext : Bool} {v : Value} (h : Mem H w0 L w) [hf : FunC P f] (hc : ∀ w, Mem H w0 L w → Calls P f args.toArray w fun en w' => en = .returned v ∧ w = w') (hk : ∀ w', Ext w w' → Mem H w0 L w' → K v w') : df P w (o_call (fv f) args) ext K :=
  df_mop fun w1 hd => mop_to (hc w1 (h.drawn hd)) fun en w' ⟨he, hw⟩ => by
    subst he; subst hw
    exact ⟨fun _ => hd.ext, hk w1 hd.ext (h.drawn hd)⟩
/-- Some of what is owned; the rest is forgotten. -/
class SubL (L L' : List Res) : Prop where
  ok : ∃ R, L.Perm (R ++ L')
instance (L : List Res) : SubL L [] := ⟨⟨L, by simp⟩⟩
instance (priority := 1100) (L : List Res) : SubL L L := ⟨⟨[], .refl _⟩⟩
instance (priority := 900) (L R L' : List Res) (r : Res) [h : AtX L r R] [k : SubL R L'] : SubL L (r :: L') := ⟨by
  obtain ⟨Q, hq⟩ := k.ok
  exact ⟨Q, h.perm.trans ((hq.cons r).trans List.perm_middle.symm)⟩⟩
theorem Mem.sub {H : Hp} {L L' : List Res} (h : Mem H w0 L w) [k : SubL L L'] : Mem H w0 L' w := by
  obtain ⟨R, hp⟩ := k.ok
  exact (h.perm hp).dropN
/-- A frozen block known by its fields. -/
structure FbF (H : Hp) (g : Nat) (fs : List Fd) : Prop where
  ok : FOk fs
  at_ : ∃ c : Array Value, H g = some c ∧ ∀ (j : Nat) (u : Value), (fl fs)[j]? = some u → c[j]? = some u
theorem Mem.readsB {H : Hp} {L R : List Res} {tt : Nat} {fs : List Fd} {g : Nat} (h : Mem H w0 L w) [k : AtF L g tt fs R] : FbF (Hp.of w) g fs := by
  obtain ⟨B, ⟨B1, B2, rfl, ⟨h1, rfl⟩, _⟩, hs, _⟩ := (h.perm k.perm).own
  obtain ⟨fr, hb, _⟩ := hs.own ⟨g, tt, fl fs, true⟩ (by simp)
  exact ⟨h1, (fl fs).toArray, by simp [Hp.of, hb], fun j u hu => by simpa using hu⟩
theorem FbF.mono {H H' : Hp} {g : Nat} {fs : List Fd} (h : FbF H g fs) (k : H.le H') : FbF H' g fs := by
  obtain ⟨c, h1, h2⟩ := h.at_
  exact ⟨h.ok, c, k g c h1, h2⟩
theorem FbF.load {H : Hp} {g i n : Nat} {fs gs : List Fd} {q : Bool} {v : Value} (h : FbF H g fs) (hf : Fz H w) (c : ShpC P t q n) (s : Sub fs i n gs) (f : Fv q gs v) : PurW P w (o_load t (.pointer (some ⟨g, i, none⟩))) v := by
  obtain ⟨c', h1, h2⟩ := h.at_
  obtain ⟨k1, k2, k3⟩ := s.cells h.ok
  exact pw_fields c.ok k1 (by rw [← k1.len]; exact k2) f fun j u hu => by rw [hf.cell h1]; exact h2 _ _ (k3 j u hu)
theorem mm_ldf {H : Hp} {L : List Res} {g i n : Nat} {fs gs : List Fd} {q : Bool} {v : Value} (hM : Mem H w0 L w) (h : FbF H g fs) [c : ShpC P t q n] [s : Sub fs i n gs] [f : Fv q gs v] (hk : K v w) : mop P (o_load t (.pointer (some ⟨g, i, none⟩))) w K X :=
  mop_purW (h.load hM.fz c s f) hk
theorem dm_ldf {H : Hp} {L : List Res} {g i n : Nat} {fs gs : List Fd} {q : Bool} {v : Value} (hM : Mem H w0 L w) (h : FbF H g fs) [c : ShpC P t q n] [s : Sub fs i n gs] [f : Fv q gs v] (hk : Kq v) : dq P w (o_load t (.pointer (some ⟨g, i, none⟩))) Kq :=
  dq_pur (fun _ hw => h.load (hM.fz.ext hw) c s f) hk
/-- The same told of another world. -/
abbrev Mem.now {H : Hp} {L : List Res} (_ : Mem H w0 L w) (w' : World) : Prop := Mem H w0 L w'
theorem mguard_n1 {run : (Value → World → Prop) → Prop} (h : K undef w) : mguard (.bool true) false run w K := mguard_no (by simp) h
theorem mguard_n2 {run : (Value → World → Prop) → Prop} (h : K undef w) : mguard (.bool false) true run w K := mguard_no (by simp) h
theorem qguard_n1 {run : (Value → Prop) → Prop} (h : Kq undef) : qguard (.bool true) false run Kq := qguard_no (by simp) h
theorem qguard_n2 {run : (Value → Prop) → Prop} (h : Kq undef) : qguard (.bool false) true run Kq := qguard_no (by simp) h
instance (b : Bool) : StepC P (o_un .not (.bool b)) True (.bool (!b)) := ⟨fun _ w => by simp [o_un, sv, go_sem]⟩
/-- Is the type of bools? -/
class IsBo (P : Program) (t : TypeId) : Prop where
  ok : P.underlying t = some .bool
instance (priority := 1100) (fs gs : List Fd) (ks : List CK) [h : EqF fs gs ks p] [k : KindC P t ks] : StepC P (o_bin .neq t q (.agg (fl fs).toArray) (.agg (fl gs).toArray)) True (.bool (decide (¬ p))) := ⟨fun _ => by
  have := p_neq_agg (P := P) (t := t) q h.ok.1 h.ok.2.1 h.ok.2.2
  rwa [show (!decide p) = decide (¬ p) by simp] at this⟩
instance (priority := 1100) (a b : H32) [k : KindC P t (List.replicate 32 (.int .u8))] : StepC P (o_bin .neq t q (.agg (u8s a.1).toArray) (.agg (u8s b.1).toArray)) True (.bool (decide (a ≠ b))) := ⟨fun _ => by
  have := p_neq_agg (P := P) (t := t) q (of_h32 a) (of_h32 b) h32_eq
  rwa [show (!decide (a = b)) = decide (a ≠ b) by simp] at this⟩
instance (a b : Value) : StepC P (o_extract (.tuple #[a, b]) 0) True a := ⟨fun _ => p_extract [a, b] 0 a rfl⟩
instance (a b : Value) : StepC P (o_extract (.tuple #[a, b]) 1) True b := ⟨fun _ => p_extract [a, b] 1 b rfl⟩
instance (a b c : Value) : StepC P (o_extract (.tuple #[a, b, c]) 0) True a := ⟨fun _ => p_extract [a, b, c] 0 a rfl⟩
instance (a b c : Value) : StepC P (o_extract (.tuple #[a, b, c]) 1) True b := ⟨fun _ => p_extract [a, b, c] 1 b rfl⟩
instance (a b c : Value) : StepC P (o_extract (.tuple #[a, b, c]) 2) True c := ⟨fun _ => p_extract [a, b, c] 2 c rfl⟩
/-- A byte of a hash set. -/
def hset (h : H32) (i : Nat) (a : Int) : H32 := ⟨h.1.set i (a % 256), by simp [h.2.1], fun x hx => by
  rcases List.mem_or_eq_of_mem_set hx with hx | rfl
  · exact h.2.2 x hx
  · omega⟩
theorem lay_set (h : H32) (i : Nat) (a : Int) (hi : i < 32) (ha : 0 ≤ a ∧ a < 256) : lay (u8s h.1) [.int .u8 a] i = u8s (hset h i a).1 := by
  have e : a % 256 = a := by omega
  unfold hset u8s lay
  simp only [e]
  rw [List.set_eq_take_append_cons_drop, if_pos (by simp [h.2.1, hi])]
  simp
/-- Bytes laid over a hash. -/
class HFill (P : Program) (t : TypeId) (h : H32) (ps : List (Nat × Value)) (c : outParam Prop) (h' : outParam H32) : Prop where
  ok : c → Instr.fill (fun i => some (i * 1, 1)) (u8s h.1).toArray ps = some (u8s h'.1).toArray
instance (h : H32) : HFill P t h [] True h := ⟨fun _ => rfl⟩
instance (h h' : H32) (i : Nat) (a : Int) (ps : List (Nat × Value)) (c : Prop) [k : HFill P t (hset h i a) ps c h'] : HFill P t h ((i, .int .u8 a) :: ps) ((i < 32 ∧ 0 ≤ a ∧ a < 256) ∧ c) h' := ⟨fun ⟨⟨h1, h2⟩, hc⟩ => by
  have hl : (u8s h.1).length = 32 := by simp [u8s, h.2.1]
  have := fill_lay (.int .u8 a) (i * 1) (u8s h.1) (by simp [Value.cells, hl]; omega)
  unfold Instr.fill
  simp only
  rw [if_neg (by simp [Value.cells, hl]; omega), this]
  have e : lay (u8s h.1) (Value.cells (.int .u8 a)).toList (i * 1) = u8s (hset h i a).1 := by rw [Nat.mul_one]; exact lay_set h i a h1 h2
  rw [e]
  exact k.ok hc⟩
/-- The type [32]byte. -/
class HshC (P : Program) (t : TypeId) : Prop where
  ok : ∃ e, P.underlying t = some (.array 32 e) ∧ (P.info? e).map (·.size) = some 1
  zer : zer P t = some (u8s hzero.1)
instance (priority := 1100) (ps : List (Nat × Value)) (c : Prop) (h' : H32) [k : HshC P t] [f : HFill P t hzero ps c h'] : StepC P (o_build t ps) c (.agg (u8s h'.1).toArray) := ⟨fun hc w => by
  obtain ⟨e, hu, hs⟩ := k.ok
  have hz := k.zer
  have hf := f.ok hc
  unfold Go.Proofs.Ytopcnkejobomaaa.zer at hz
  cases hi : P.info? t with
  | none => simp [hi] at hz
  | some x =>
    cases hzz : x.zero with
    | none => simp [hi, hzz] at hz
    | some z =>
      simp [hi, hzz] at hz
      have hz' : z.cells = (u8s hzero.1).toArray := by rw [← hz]
      have h1 : (zeroValue t).run P w = .ok z w := by simp [zeroValue, typeInfo, hi, hzz]
      have h2 : (sizeOf e).run P w = .ok 1 w := run_size hs w
      simp only [o_build, sv, Instr.build, Sem.run_bind, h1, Result.andThen_ok, run_underlying hu, hz', h2]
      rw [hf]
      rfl⟩
end
end Go.Proofs.Ytopcnkejobomaaa
