/- Part 2 of the proof. -/
import Derived.Test.YtopcnkejobomaaaPd1
import Derived.ProofKit
import Derived.OpenShut
import Derived.ShutString
import Derived.ChangeOld
import Derived.Below
import Derived.SliceStrings
import Derived.Deep.Slices
import Derived.Deep.Strs
import Derived.ChangeSame
import Derived.WideKeyArr2
import Derived.ChangeMaps5
import Derived.Test.YtopcnkejobomaaaProg
import Derived.KernelRfl
import Derived.LaidEql
namespace Go.Proofs.Ytopcnkejobomaaa
open Go.RowKit
def hzero : H32 := ⟨List.replicate 32 0, by simp, by intro x hx; rw [List.eq_of_mem_replicate hx]; omega⟩
class EqF (fs gs : List Fd) (ks : outParam (List CK)) (p : outParam Prop) : Prop where
  ok : Of (fl fs) ks ∧ Of (fl gs) ks ∧ (fl fs = fl gs ↔ p)
theorem one_app {a b : Value} {k : CK} {x y : List Value} {ks : List CK} {p q : Prop} (h : Of [a] [k] ∧ Of [b] [k] ∧ (a = b ↔ p)) (h' : Of x ks ∧ Of y ks ∧ (x = y ↔ q)) : Of ([a] ++ x) (k :: ks) ∧ Of ([b] ++ y) (k :: ks) ∧ ([a] ++ x = [b] ++ y ↔ p ∧ q) :=
  ⟨h.1.app h'.1, h.2.1.app h'.2.1, by rw [← h.2.2, ← h'.2.2]; simp⟩
theorem ok_int (k : IntKind) (a b : Int) : Of [.int k a] [.int k] ∧ Of [.int k b] [.int k] ∧ (Value.int k a = .int k b ↔ a = b) := ⟨rfl, rfl, by simp⟩
instance (k : IntKind) (a b : Int) (fs gs : List Fd) (ks : List CK) (p : Prop) [h : EqF fs gs ks p] : EqF (.one (.int k a) :: fs) (.one (.int k b) :: gs) (.int k :: ks) (a = b ∧ p) := ⟨one_app (ok_int k a b) h.ok⟩
theorem EqF.last {f g : Fd} {k : List CK} {p : Prop} (h : Of f.cells k ∧ Of g.cells k ∧ (f.cells = g.cells ↔ p)) : Of (fl [f]) k ∧ Of (fl [g]) k ∧ (fl [f] = fl [g] ↔ p) := by simpa [fl] using h
theorem of_h32 (h : H32) : Of (u8s h.1) (List.replicate 32 (.int .u8)) := by have := of_u8s h.1; rwa [h.2.1] at this
theorem h32_eq {a b : H32} : u8s a.1 = u8s b.1 ↔ a = b := by rw [u8s_inj]; exact Subtype.ext_iff.symm
instance (a b : H32) (fs gs : List Fd) (ks : List CK) (p : Prop) [h : EqF fs gs ks p] : EqF (.arr 32 (u8s a.1) :: fs) (.arr 32 (u8s b.1) :: gs) (List.replicate 32 (.int .u8) ++ ks) (a = b ∧ p) := ⟨by
  obtain ⟨h1, h2, h3⟩ := h.ok
  refine ⟨(of_h32 a).app h1, (of_h32 b).app h2, ?_⟩
  show u8s a.1 ++ fl fs = u8s b.1 ++ fl gs ↔ _
  rw [← h3, ← h32_eq]
  constructor
  · intro e
    exact List.append_inj e (by simp [u8s, a.2.1, b.2.1])
  · rintro ⟨e1, e2⟩
    rw [e1, e2]⟩
instance (priority := 1100) (a b : H32) : EqF [.arr 32 (u8s a.1)] [.arr 32 (u8s b.1)] (List.replicate 32 (.int .u8)) (a = b) := ⟨EqF.last ⟨of_h32 a, of_h32 b, h32_eq⟩⟩
section
variable {P : Program} {t : TypeId} {q : Bool}
instance (fs gs : List Fd) (ks : List CK) (p : Prop) [Decidable p] [h : EqF fs gs ks p] [k : KindC P t ks] : StepC P (o_bin .eql t q (.agg (fl fs).toArray) (.agg (fl gs).toArray)) True (.bool (decide p)) := ⟨fun _ => p_eql_agg q h.ok.1 h.ok.2.1 h.ok.2.2⟩
instance (a b : H32) [k : KindC P t (List.replicate 32 (.int .u8))] : StepC P (o_bin .eql t q (.agg (u8s a.1).toArray) (.agg (u8s b.1).toArray)) True (.bool (decide (a = b))) := ⟨fun _ => p_eql_agg q (of_h32 a) (of_h32 b) h32_eq⟩
class IsSl (P : Program) (t : TypeId) : Prop where
  ok : ∃ e, P.underlying t = some (.slice e)
class IsPt (P : Program) (t : TypeId) : Prop where
  ok : ∃ e, P.underlying t = some (.pointer e)
theorem isSl_of {P : Program} {t : TypeId} (h : (match P.underlying t with
    | some (.slice _) => true
    | _ => false) = true) : IsSl P t := ⟨by
  split at h
  · rename_i e hu; exact ⟨e, hu⟩
  · cases h⟩
theorem isPt_of {P : Program} {t : TypeId} (h : (match P.underlying t with
    | some (.pointer _) => true
    | _ => false) = true) : IsPt P t := ⟨by
  split at h
  · rename_i e hu; exact ⟨e, hu⟩
  · cases h⟩
instance (a : Option Addr) (n c : Nat) [h : IsSl P t] : StepC P (o_bin .eql t q (.slice a n c) (.slice none 0 0)) True (.bool a.isNone) := ⟨fun _ => by obtain ⟨e, he⟩ := h.ok; exact p_eq_nil t q a n c e he⟩
instance (a : Addr) [h : IsPt P t] : StepC P (o_bin .eql t q (.pointer (some a)) (.pointer none)) True (.bool false) := ⟨fun _ => by obtain ⟨e, he⟩ := h.ok; exact p_ptr_nil t q (some a) e he⟩
instance (a : Addr) [h : IsPt P t] : StepC P (o_bin .neq t q (.pointer (some a)) (.pointer none)) True (.bool true) := ⟨fun _ => by obtain ⟨e, he⟩ := h.ok; exact p_ptr_nnil t q (some a) e he⟩
end
end Go.Proofs.Ytopcnkejobomaaa
namespace Go.Proofs.Ytopcnkejobomaaa
open Go.RowKit
section
variable {P : Program} {s : Sem Next} {c p : Prop} [Decidable p] {v : Value} {w w' w0 : World} {K : Value → World → Prop} {X : List PanicEntry → World → Prop} {Kq : Value → Prop} {t : TypeId} {q : Bool}
theorem mop_cT [h : StepC P s c (.bool (decide p))] (hc : c) (hp : p) (hk : K (.bool true) w) : mop P s w K X := mop_c (h := h) hc (by rw [decide_eq_true hp]; exact hk)
theorem mop_cF [h : StepC P s c (.bool (decide p))] (hc : c) (hp : ¬ p) (hk : K (.bool false) w) : mop P s w K X := mop_c (h := h) hc (by rw [decide_eq_false hp]; exact hk)
theorem mop_cS [h : StepC P s c (.bool (decide p))] (hc : c) (ht : p → K (.bool true) w) (hf : ¬ p → K (.bool false) w) : mop P s w K X := mop_c (h := h) hc (by
  by_cases hp : p
  · rw [decide_eq_true hp]; exact ht hp
  · rw [decide_eq_false hp]; exact hf hp)
theorem dp_cF [h : StepC P s c (.bool (decide p))] (hc : c) (hp : ¬ p) (hk : Kq (.bool false)) : dp P s Kq := dp_c (h := h) hc (by rw [decide_eq_false hp]; exact hk)
theorem dp_cS [h : StepC P s c (.bool (decide p))] (hc : c) (ht : p → Kq (.bool true)) (hf : ¬ p → Kq (.bool false)) : dp P s Kq := dp_c (h := h) hc (by
  by_cases hp : p
  · rw [decide_eq_true hp]; exact ht hp
  · rw [decide_eq_false hp]; exact hf hp)
theorem map_at {α β : Type} {f : α → β} {l : List α} {i : Nat} (h : i < l.length) : (l.map f)[i]? = some (f l[i]) := by simp [h]
theorem map_atI {α β : Type} {f : α → β} {l : List α} {i : Nat} (h : i < l.length) : (l.map f)[(i : Int).toNat]? = some (f l[i]) := by simp [h]
class AtA (L : List Res) (A : Option Addr) (n cap e sz : outParam Nat) (ps : outParam (List (List Fd))) (R : outParam (List Res)) : Prop where
  perm : L.Perm (rowR e sz A n cap ps :: R)
instance (L : List Res) (A : Option Addr) (n cap e sz : Nat) (ps : List (List Fd)) : AtA (rowR e sz A n cap ps :: L) A n cap e sz ps L := ⟨.refl _⟩
instance (priority := 900) (L R : List Res) (A : Option Addr) (n cap e sz : Nat) (ps : List (List Fd)) (x : Res) [h : AtA L A n cap e sz ps R] : AtA (x :: L) A n cap e sz ps (x :: R) := ⟨(h.perm.cons x).trans (.swap ..)⟩
class AtF (L : List Res) (g : Nat) (t : outParam Nat) (fs : outParam (List Fd)) (R : outParam (List Res)) : Prop where
  perm : L.Perm (fb g t fs :: R)
instance (L : List Res) (g t : Nat) (fs : List Fd) : AtF (fb g t fs :: L) g t fs L := ⟨.refl _⟩
instance (priority := 900) (L R : List Res) (g t : Nat) (fs : List Fd) (x : Res) [h : AtF L g t fs R] : AtF (x :: L) g t fs (x :: R) := ⟨(h.perm.cons x).trans (.swap ..)⟩
theorem Mem.up {H : Hp} {L R : List Res} {n cap e sz : Nat} {ps : List (List Fd)} (h : Mem H w0 L w) (A : Option Addr) [k : AtA L A n cap e sz ps R] : Mem H w0 (rowR e sz A n cap ps :: R) w := h.perm k.perm
theorem Mem.upB {H : Hp} {L R : List Res} {t : Nat} {fs : List Fd} (h : Mem H w0 L w) (g : Nat) [k : AtF L g t fs R] : Mem H w0 (fb g t fs :: R) w := h.perm k.perm
theorem Mem.neA {H : Hp} {L R R' : List Res} {n cap e sz tt k : Nat} {ps : List (List Fd)} {fs : List Fd} {A : Option Addr} (h : Mem H w0 L w) [a : AtA L A n cap e sz ps R] [b : AtF R k tt fs R'] : ¬ A = some ⟨k, 0, none⟩ :=
  Mem.ne (put := fun r => r :: R') (h.perm (a.perm.trans (b.perm.cons _))) (A := A) (n := n) (cap := cap) (e := e) (sz := sz) (ps := ps) (R := fb k tt fs :: R') ⟨.refl _⟩ ⟨⟨R', .refl _, fun _ => .refl _⟩⟩
theorem Mem.fz0 {H : Hp} {L : List Res} {n cap e sz : Nat} {ps : List (List Fd)} {A : Option Addr} (h : Mem H w0 (rowR e sz A n cap ps :: L) w) : ∃ H', Le w0 H H' ∧ Mem H' w0 L w ∧ Sl H' sz A ps ∧ ps.length = n := h.freeze ⟨.refl _⟩
theorem Mem.reads {H : Hp} {L R : List Res} {n cap e sz : Nat} {ps : List (List Fd)} {A : Option Addr} (h : Mem H w0 L w) [k : AtA L A n cap e sz ps R] : Sl (Hp.of w) sz A ps := by
  obtain ⟨B, ⟨B1, B2, rfl, ⟨h1, h2, h3⟩, _⟩, hs, _⟩ := (h.perm k.perm).own
  rcases h3 with ⟨_, hn, _, _⟩ | ⟨g, sp, rfl, rfl, _⟩
  · have : ps = [] := List.eq_nil_of_length_eq_zero (by omega)
    subst this
    exact Sl.nil _ _ _
  · obtain ⟨fr, hb, _⟩ := hs.own ⟨g, e, fls ps ++ sp, true⟩ (by simp)
    refine ⟨h1, .inr ⟨g, 0, (fls ps ++ sp).toArray, rfl, by simp [Hp.of, hb], fun j u hu => ?_⟩⟩
    rw [Nat.zero_add]
    simp only [List.getElem?_toArray]
    rw [List.getElem?_append_left (List.getElem?_eq_some_iff.1 hu).1]
    exact hu
theorem dm_ownE {H : Hp} {L : List Res} {f : Nat} {args : List Value} {ext : Bool} {Q : Value → World → Prop} (h : Mem H w0 L w) [hf : FunC P f] (hc : ∀ w, Mem H w0 L w → Calls P f args.toArray w fun en w' => ∃ v, en = .returned v ∧ Ext w w' ∧ Q v w') (hk : ∀ v w', Ext w w' → Q v w' → K v w') : df P w (o_call (fv f) args) ext K :=
  df_mop fun w1 hd => mop_to (hc w1 (h.drawn hd)) fun en w' ⟨v, he, hx, hq⟩ => by
    subst he
    exact ⟨fun _ => hd.ext.trans hx, hk v w' (hd.ext.trans hx) hq⟩
class SubL (L L' : List Res) : Prop where
  ok : ∃ R, L.Perm (R ++ L')
instance (L : List Res) : SubL L [] := ⟨⟨L, by simp⟩⟩
instance (priority := 1100) (L : List Res) : SubL L L := ⟨⟨[], .refl _⟩⟩
instance (priority := 900) (L R L' : List Res) (r : Res) [h : AtX L r R] [k : SubL R L'] : SubL L (r :: L') := ⟨by
  obtain ⟨Q, hq⟩ := k.ok
  exact ⟨Q, h.perm.trans ((hq.cons r).trans List.perm_middle.symm)⟩⟩
theorem Mem.sub {H : Hp} {L L' : List Res} (h : Mem H w0 L w) [k : SubL L L'] : Mem H w0 L' w := by
  obtain ⟨R, hp⟩ := k.ok
  exact (h.perm hp).dropN
structure FbF (H : Hp) (g : Nat) (fs : List Fd) : Prop where
  ok : FOk fs
  at_ : ∃ c : Array Value, H g = some c ∧ ∀ (j : Nat) (u : Value), (fl fs)[j]? = some u → c[j]? = some u
theorem FbF.mono {H H' : Hp} {g : Nat} {fs : List Fd} (h : FbF H g fs) (k : H.le H') : FbF H' g fs := by
  obtain ⟨c, h1, h2⟩ := h.at_
  exact ⟨h.ok, c, k g c h1, h2⟩
theorem FbF.load {H : Hp} {g i n : Nat} {fs gs : List Fd} {q : Bool} {v : Value} (h : FbF H g fs) (hf : Fz H w) (c : ShpC P t q n) (s : Sub fs i n gs) (f : Fv q gs v) : PurW P w (o_load t (.pointer (some ⟨g, i, none⟩))) v := by
  obtain ⟨c', h1, h2⟩ := h.at_
  obtain ⟨k1, k2, k3⟩ := s.cells h.ok
  exact pw_fields c.ok k1 (by rw [← k1.len]; exact k2) f fun j u hu => by rw [hf.cell h1]; exact h2 _ _ (k3 j u hu)
abbrev Mem.now {H : Hp} {L : List Res} (_ : Mem H w0 L w) (w' : World) : Prop := Mem H w0 L w'
theorem mguard_n1 {run : (Value → World → Prop) → Prop} (h : K undef w) : mguard (.bool true) false run w K := mguard_no (by simp) h
theorem mguard_n2 {run : (Value → World → Prop) → Prop} (h : K undef w) : mguard (.bool false) true run w K := mguard_no (by simp) h
instance (b : Bool) : StepC P (o_un .not (.bool b)) True (.bool (!b)) := ⟨fun _ w => by simp [o_un, sv, go_sem]⟩
class IsBo (P : Program) (t : TypeId) : Prop where
  ok : P.underlying t = some .bool
instance (a b : Value) : StepC P (o_extract (.tuple #[a, b]) 0) True a := ⟨fun _ => p_extract [a, b] 0 a rfl⟩
instance (a b : Value) : StepC P (o_extract (.tuple #[a, b]) 1) True b := ⟨fun _ => p_extract [a, b] 1 b rfl⟩
instance (a b c : Value) : StepC P (o_extract (.tuple #[a, b, c]) 0) True a := ⟨fun _ => p_extract [a, b, c] 0 a rfl⟩
instance (a b c : Value) : StepC P (o_extract (.tuple #[a, b, c]) 1) True b := ⟨fun _ => p_extract [a, b, c] 1 b rfl⟩
instance (a b c : Value) : StepC P (o_extract (.tuple #[a, b, c]) 2) True c := ⟨fun _ => p_extract [a, b, c] 2 c rfl⟩
def hset (h : H32) (i : Nat) (a : Int) : H32 := ⟨h.1.set i (a % 256), by simp [h.2.1], fun x hx => by
  rcases List.mem_or_eq_of_mem_set hx with hx | rfl
  · exact h.2.2 x hx
  · omega⟩
theorem lay_set (h : H32) (i : Nat) (a : Int) (hi : i < 32) (ha : 0 ≤ a ∧ a < 256) : lay (u8s h.1) [.int .u8 a] i = u8s (hset h i a).1 := by
  have e : a % 256 = a := by omega
  unfold hset u8s lay
  simp only [e]
  rw [List.set_eq_take_append_cons_drop, if_pos (by simp [h.2.1, hi])]
  simp
class HFill (P : Program) (t : TypeId) (h : H32) (ps : List (Nat × Value)) (c : outParam Prop) (h' : outParam H32) : Prop where
  ok : c → Instr.fill (fun i => some (i * 1, 1)) (u8s h.1).toArray ps = some (u8s h'.1).toArray
instance (h : H32) : HFill P t h [] True h := ⟨fun _ => rfl⟩
instance (h h' : H32) (i : Nat) (a : Int) (ps : List (Nat × Value)) (c : Prop) [k : HFill P t (hset h i a) ps c h'] : HFill P t h ((i, .int .u8 a) :: ps) ((i < 32 ∧ 0 ≤ a ∧ a < 256) ∧ c) h' := ⟨fun ⟨⟨h1, h2⟩, hc⟩ => by
  have hl : (u8s h.1).length = 32 := by simp [u8s, h.2.1]
  have := fill_lay (.int .u8 a) (i * 1) (u8s h.1) (by simp [Value.cells, hl]; omega)
  unfold Instr.fill
  simp only
  rw [if_neg (by simp [Value.cells, hl]; omega), this]
  have e : lay (u8s h.1) (Value.cells (.int .u8 a)).toList (i * 1) = u8s (hset h i a).1 := by rw [Nat.mul_one]; exact lay_set h i a h1 h2
  rw [e]
  exact k.ok hc⟩
class HshC (P : Program) (t : TypeId) : Prop where
  ok : ∃ e, P.underlying t = some (.array 32 e) ∧ (P.info? e).map (·.size) = some 1
  zer : zer P t = some (u8s hzero.1)
instance (priority := 1100) (ps : List (Nat × Value)) (c : Prop) (h' : H32) [k : HshC P t] [f : HFill P t hzero ps c h'] : StepC P (o_build t ps) c (.agg (u8s h'.1).toArray) := ⟨fun hc w => by
  obtain ⟨e, hu, hs⟩ := k.ok
  have hz := k.zer
  have hf := f.ok hc
  unfold Go.Proofs.Ytopcnkejobomaaa.zer at hz
  cases hi : P.info? t with
  | none => simp [hi] at hz
  | some x =>
    cases hzz : x.zero with
    | none => simp [hi, hzz] at hz
    | some z =>
      simp [hi, hzz] at hz
      have hz' : z.cells = (u8s hzero.1).toArray := by rw [← hz]
      have h1 : (zeroValue t).run P w = .ok z w := by simp [zeroValue, typeInfo, hi, hzz]
      have h2 : (sizeOf e).run P w = .ok 1 w := run_size hs w
      simp only [o_build, sv, Instr.build, Sem.run_bind, h1, Result.andThen_ok, run_underlying hu, hz', h2]
      rw [hf]
      rfl⟩
end
end Go.Proofs.Ytopcnkejobomaaa
namespace Go.Proofs.Ytopcnkejobomaaa
open Go.RowKit
def byts (l : List Int) : List (List Fd) := l.map fun x => [.one (.int .u8 x)]
theorem byts_app (a b : List Int) : byts (a ++ b) = byts a ++ byts b := by simp [byts]
theorem byts_length (l : List Int) : (byts l).length = l.length := by simp [byts]
theorem fls_byts (l : List Int) : fls (byts l) = u8s l := by
  induction l with
  | nil => rfl
  | cons x l ih =>
    show fl [.one (.int .u8 x)] ++ fls (byts l) = _
    rw [ih]
    rfl
theorem els_byts (l : List Int) : Els 1 (byts l) := Els.map (f := fun x => [.one (.int .u8 x)]) l fun _ => ⟨inferInstance, rfl⟩
class StrC (P : Program) (s d : TypeId) : Prop where
  ok : (∃ e, P.underlying s = some (.slice e) ∧ P.underlying e = some (.int .u8)) ∧ P.underlying d = some .string
section
variable {P : Program} {H H' : Hp} {w0 w w' : World} {L R R' : List Res} {g i : Nat} {t t' tx ty : TypeId} {fs gs : List Fd} {put : Res → List Res} {n m c cap e e' sz by_ : Nat} {K : Value → World → Prop} {X : List PanicEntry → World → Prop} {Kq : Value → Prop} {A : Option Addr} {l l' : List Int} {ps : List (List Fd)} {ks : List Bool}
theorem pw_str {s d : TypeId} (h : StrC P s d) {b o : Nat} (hl : l.length = n) (hc : ∀ j u, (u8s l)[j]? = some u → w.cell? ⟨b, o + j, none⟩ = some u) : PurW P w (o_conv s d (.slice (some ⟨b, o, none⟩) n c)) (.string (strOfNums l)) := by
  obtain ⟨⟨e, h1, h2⟩, h3⟩ := h.ok
  exact pw_conv_bytes s d e b o n c l h1 h2 h3 hl fun j hj => hc j _ (u8s_at l j (by omega))
theorem Mem.bytesF (h : Mem H w0 L w) (k : AtB L g t' fs put) (s : Sub fs i n [.arr n (u8s l)]) : l.length = n ∧ ∀ j u, (u8s l)[j]? = some u → w.cell? ⟨g, i + j, none⟩ = some u := by
  obtain ⟨h1, h2, h3⟩ := h.field k s
  have := (h1.ok _ (List.mem_singleton.2 rfl)).len
  refine ⟨by simpa [Fd.cells, Fd.size, u8s] using this, fun j u hu => h3 j u (by simpa [fl, Fd.cells] using hu)⟩
theorem dm_cvb {s d : TypeId} (h : Mem H w0 L w) [st : StrC P s d] [k : AtB L g t' fs put] [q : Sub fs i n [.arr n (u8s l)]] (hk : Kq (.string (strOfNums l))) : dq P w (o_conv s d (.slice (some ⟨g, i, none⟩) n c)) Kq := by
  obtain ⟨h1, h2⟩ := h.bytesF k q
  exact dq_pur (fun _ hw => pw_str st h1 fun j u hu => hw.cell (h2 j u hu)) hk
theorem Mem.rd (h : Mem H w0 L w) (k : AtA L A n cap e sz ps R) : Rd w A (fls ps) := by
  rcases Nat.eq_zero_or_pos n with hn | hn
  · have := (h.rowLen (A := A) (n := n) ⟨k.perm⟩).1
    have : ps = [] := List.eq_nil_of_length_eq_zero (by omega)
    subst this
    exact .inl rfl
  · obtain ⟨g, rfl⟩ := h.rowAt (n := n) ⟨k.perm⟩ hn
    have hc := (h.perm k.perm).rowCells (put := fun r => r :: R) ⟨⟨R, .refl _, fun _ => .refl _⟩⟩
    have hlt : g < w.heap.size := by
      obtain ⟨B, ⟨B1, B2, rfl, ⟨_, _, h3⟩, _⟩, hs, _⟩ := (h.perm k.perm).own
      rcases h3 with ⟨hA, _⟩ | ⟨g', sp, hA, rfl, _⟩
      · cases hA
      · cases hA
        exact (hs.own ⟨g, e, fls ps ++ sp, true⟩ (by simp)).lt
    exact .inr ⟨g, 0, rfl, hlt, fun j u hu => by rw [Nat.zero_add]; exact hc.2.2 j u hu⟩
theorem mm_cvr {s d : TypeId} {k : Nat} (h : Mem H w0 L w) [st : StrC P s d] [a : AtA L A n cap e 1 (byts l) R] (hk' : k ≤ l.length) (hk : K (.string (strOfNums (l.take k))) w) : mop P (o_conv s d (.slice A k c)) w K X := by
  have hr := h.rd a
  rw [fls_byts] at hr
  rcases Nat.eq_zero_or_pos k with h0 | h0
  · subst h0
    obtain ⟨⟨e, h1, h2⟩, h3⟩ := st.ok
    refine mop_purW ?_ hk
    cases A with
    | none =>
      have : (convert s d (.slice none 0 c)).run P w = .ok (.string (strOfNums [])) w := by
        rw [run_convert_bytes_string w s d e none 0 c h1 h2 h3]
        rfl
      simp only [PurW, o_conv, sv, Sem.run_bind, this, Result.andThen_ok]
      rfl
    | some a' =>
      have := run_convert_bytes_back (P := P) w s d e a' c [] h1 h2 h3 (fun j hj => by simp at hj)
      simp only [PurW, o_conv, sv, Sem.run_bind]
      rw [show ([] : List UInt8).length = 0 from rfl] at this
      rw [this]
      rfl
  · rcases hr with hr | ⟨b, o, rfl, _, hc⟩
    · have : l = [] := by simpa [u8s] using hr
      subst this
      simp at hk'
      omega
    · refine mop_purW (pw_str st (by simp; omega) fun j u hu => hc j u ?_) hk
      have hj : j < k := by have := (List.getElem?_eq_some_iff.1 hu).1; simp [u8s] at this; omega
      rw [show u8s (l.take k) = (u8s l).take k by simp [u8s, List.map_take], List.getElem?_take] at hu
      simpa [hj] using hu
class SubA (fs : List Fd) (o : Nat) (n : outParam Nat) (ls : outParam (List Value)) (put : outParam (List Value → List Fd)) : Prop where
  ok : ∃ a b, fs = a ++ [.arr n ls] ++ b ∧ fsz a = o ∧ ∀ l', put l' = a ++ [.arr n l'] ++ b
instance (fs : List Fd) (n : Nat) (ls : List Value) : SubA (.arr n ls :: fs) 0 n ls (fun l' => .arr n l' :: fs) := ⟨⟨[], fs, rfl, rfl, fun _ => rfl⟩⟩
theorem SubA.cell {fs : List Fd} {o : Nat} {ls : List Value} {putA : List Value → List Fd} (s : SubA fs o n ls putA) (hf : FOk fs) {j : Nat} {v : Value} (hv : ls[j]? = some v) : (fl fs)[o + j]? = some v := by
  obtain ⟨a, b, rfl, rfl, _⟩ := s.ok
  have h1 := hf.left.left.len
  rw [fl_append, fl_append, List.append_assoc, List.getElem?_append_right (by omega), h1, show fsz a + j - fsz a = j by omega]
  rw [List.getElem?_append_left (by have := (List.getElem?_eq_some_iff.1 hv).1; simpa [fl, Fd.cells] using this)]
  simpa [fl, Fd.cells] using hv
theorem mm_lda {o j : Nat} {ls : List Value} {v : Value} {putA : List Value → List Fd} (h : Mem H w0 L w) [cc : ShpC P t false 1] [k : AtB L g t' fs put] [s : SubA fs o n ls putA] (hv : ls[j]? = some v) (hk : K v w) : mop P (o_load t (.pointer (some ⟨g, o + j, none⟩))) w K X := by
  obtain ⟨hb, hf⟩ := h.blf k
  exact mop_purW (pw_load1 cc.ok (by rw [hb.cell]; exact s.cell hf hv)) hk
theorem dm_lda {o j : Nat} {ls : List Value} {v : Value} {putA : List Value → List Fd} (h : Mem H w0 L w) [cc : ShpC P t false 1] [k : AtB L g t' fs put] [s : SubA fs o n ls putA] (hv : ls[j]? = some v) (hk : Kq v) : dq P w (o_load t (.pointer (some ⟨g, o + j, none⟩))) Kq := by
  obtain ⟨hb, hf⟩ := h.blf k
  exact dq_pur (fun _ hw => pw_load1 cc.ok (hw.cell (by rw [hb.cell]; exact s.cell hf hv))) hk
theorem mm_appb (h : Mem H w0 L w) [cc : SliC P t e 1 by_] [k : AtR L A n cap e 1 (byts l) R] [cx : SliC P tx e' 1 by_] [b : AtB L g t' fs put] [q : Sub fs i m [.arr m (u8s l')]] (hb : n + m ≤ 9223372036854775807 ∧ (n + m) * by_ ≤ 140737488355328)
    (hk : ∀ A' cap' w', Mem H w0 (rowR e 1 A' (n + m) cap' (byts (l ++ l')) :: R) w' → K (.slice A' (n + m) cap') w') : mop P (o_builtin .append #[t, tx] ty ks [.slice A n cap, .slice (some ⟨g, i, none⟩) m c]) w K X := by
  obtain ⟨h1, h2⟩ := h.bytesF b q
  have hs : Src P 1 tx (.slice (some ⟨g, i, none⟩) m c) m (fls (byts l')) w := by
    rw [fls_byts]
    exact Src.ofSlice w cx.und ⟨g, i, none⟩ m c (u8s l') (by simp [u8s, h1]) (fun j u hu => by rw [Addr.add_lit]; exact h2 j u hu) (u8s_one l')
  refine mm_app h k hs (els_byts l') (by rw [byts_length, h1]) hb.1 hb.2 fun A' cap' w' h3 => hk A' cap' w' (by rwa [byts_app])
theorem addr_add0 (a : Option Addr) : a.map (·.add 0) = a := by
  cases a with
  | none => rfl
  | some a => obtain ⟨b, o, s⟩ := a; rfl
instance (a : Option Addr) (n cap : Nat) (kk : IntKind) (hh : Int) [cs : SliS P t sz] : StepC P (o_slice t (.slice a n cap) none (some (.int kk hh)) none) (0 ≤ hh ∧ hh ≤ cap) (.slice a hh.toNat cap) := ⟨fun ⟨h0, h1⟩ w => by
  have h2 := run_slice_h (P := P) w t a n cap cs.ok.1 kk hh h0 h1
  have h3 : (sizeOf (P.elem t)).run P w = .ok sz w := run_size cs.ok.2 w
  simp only [o_slice, sv, Sem.run_bind, run_sliceAt_slice w t _ _ _ _ cs.ok.1, h2, h3, Result.andThen_ok, sliced, Nat.zero_mul, addr_add0, ite_self, Nat.sub_zero]
  rfl⟩
instance (b o n cap : Nat) (kk : IntKind) (ll : Int) [cs : SliS P t sz] : StepC P (o_slice t (.slice (some ⟨b, o, none⟩) n cap) (some (.int kk ll)) none none) (0 ≤ ll ∧ ll ≤ n ∧ ll < cap) (.slice (some ⟨b, o + ll.toNat * sz, none⟩) (n - ll.toNat) (cap - ll.toNat)) := ⟨fun ⟨h0, h1, h4⟩ w => by
  have h2 := run_slice_l (P := P) w t (some ⟨b, o, none⟩) n cap cs.ok.1 kk ll h0 h1
  have h3 : (sizeOf (P.elem t)).run P w = .ok sz w := run_size cs.ok.2 w
  have h5 : ¬ cap = ll.toNat := by omega
  simp only [o_slice, sv, Sem.run_bind, run_sliceAt_slice w t _ _ _ _ cs.ok.1, h2, h3, Result.andThen_ok, sliced, if_neg h5, Option.map_some, Addr.add_lit]
  rfl⟩
end
end Go.Proofs.Ytopcnkejobomaaa
namespace Go.Proofs.Ytopcnkejobomaaa
open Go.RowKit Go.ChangeShapes Go.WideShapes
end Go.Proofs.Ytopcnkejobomaaa
namespace Go.Proofs.Ytopcnkejobomaaa
open Go.RowKit Go.ChangeShapes Go.WideShapes Go.Deep
end Go.Proofs.Ytopcnkejobomaaa
namespace Go.Proofs.Ytopcnkejobomaaa
open Go.RowKit Go.ChangeShapes Go.WideShapes
end Go.Proofs.Ytopcnkejobomaaa
namespace Go.Proofs.Ytopcnkejobomaaa
open Go.RowKit Go.ChangeShapes Go.WideShapes Go.Deep
structure Rdr (P : Program) (t : TypeId) (sz : Nat) {α : Type} (rel : Hp → List Fd → α → Prop) : Prop where
  size : P.cellsOf t = sz
  read : ∀ {H : Type} (enc : TypeId × Value → H) (w : World) (base : Nat) (spare : Nat → Bool) (held : Bool) (n : Nat) (cs : List Value) (y : DataW H × List MemPlace), DataW.trod enc P w base spare held n t cs = some y → ∃ fs x, cs = fl fs ∧ FOk fs ∧ fsz fs = sz ∧ rel (Hp.of w) fs x
section
variable {P : Program} {t e : TypeId} {sz : Nat} {α β : Type} {rel : Hp → List Fd → α → Prop}
theorem Rdr.map (h : Rdr P t sz rel) {rel' : Hp → List Fd → β → Prop} (hm : ∀ H fs x, FOk fs → rel H fs x → ∃ y, rel' H fs y) : Rdr P t sz rel' :=
  ⟨h.size, fun enc w base spare held n cs y hy => by
    obtain ⟨fs, x, h1, h2, h3, h4⟩ := h.read enc w base spare held n cs y hy
    obtain ⟨z, hz⟩ := hm _ _ _ h2 h4
    exact ⟨fs, z, h1, h2, h3, hz⟩⟩
theorem rdr_int {k : IntKind} (ht : P.underlying t = some (.int k)) (hc : P.cellsOf t = 1) : Rdr P t 1 (fun _ fs (x : Int) => fs = [.one (.int k x)] ∧ (Lit.int k x).wf = true) :=
  ⟨hc, fun enc w base spare held n cs y hy => by
    obtain ⟨a, rfl, _, hw⟩ := DataW.trod_int ht hy
    exact ⟨[.one (.int k a)], a, rfl, inferInstance, rfl, rfl, hw⟩⟩
structure Rdf (P : Program) (fds : List Field) (off sz : Nat) {α : Type} (rel : Hp → List Fd → α → Prop) : Prop where
  read : ∀ {H : Type} (enc : TypeId × Value → H) (w : World) (base : Nat) (spare : Nat → Bool) (held : Bool) (n : Nat) (cs : List Value), cs.length = off + sz → (∀ f ∈ fds, ∃ y, DataW.trod enc P w base spare held n f.type ((cs.drop f.offset).take (P.cellsOf f.type)) = some y) → ∃ fs x, cs.drop off = fl fs ∧ FOk fs ∧ fsz fs = sz ∧ rel (Hp.of w) fs x
theorem Rdf.nil (off : Nat) : Rdf P [] off 0 (fun _ fs (_ : Unit) => fs = []) := ⟨fun enc w base spare held n cs hl _ => ⟨[], (), by rw [List.drop_eq_nil_of_le (by omega)]; rfl, inferInstance, rfl, rfl⟩⟩
theorem Rdf.cons {f : Field} {fds : List Field} {off a b s ty : Nat} {rel' : Hp → List Fd → β → Prop} (h : Rdr P ty a rel) (hty : f.type = ty) (ho : f.offset = off) (hs : s = b + a) (k : Rdf P fds (off + a) b rel') : Rdf P (f :: fds) off s (fun H fs (x : α × β) => ∃ gs hs, fs = gs ++ hs ∧ FOk gs ∧ rel H gs x.1 ∧ rel' H hs x.2) :=
  ⟨fun enc w base spare held n cs hl hf => by
    subst hs; subst hty
    obtain ⟨y, hy⟩ := hf f (List.mem_cons_self ..)
    obtain ⟨gs, x, h1, h2, h3, h4⟩ := h.read enc w base spare held n _ y hy
    obtain ⟨hs, z, k1, k2, k3, k4⟩ := k.read enc w base spare held n cs (by omega) fun g hg => hf g (List.mem_cons_of_mem _ hg)
    refine ⟨gs ++ hs, (x, z), ?_, h2.app k2, by rw [fsz_append, h3, k3]; omega, gs, hs, rfl, h2, h4, k4⟩
    rw [fl_append, ← h1, ← k1, h.size, ho, ← List.drop_drop, List.take_append_drop]⟩
theorem rdr_struct {fds : Array Field} (ht : P.underlying t = some (.struct fds)) (hc : P.cellsOf t = sz) (k : Rdf P fds.toList 0 sz rel) : Rdr P t sz rel :=
  ⟨hc, fun enc w base spare held n cs y hy => by
    obtain ⟨xs, m, _, _, hl, hlen, hf⟩ := DataW.trod_struct ht hy
    have := k.read enc w base spare held m cs (by omega) fun f hm => by
      obtain ⟨i, hi, rfl⟩ := List.mem_iff_getElem.1 hm
      have hi' : i < fds.size := by simpa using hi
      have := hf i fds[i] (by simp [hi'])
      rw [List.getElem?_eq_getElem (by omega)] at this
      simp only [Array.getElem_toList]
      exact ⟨_, this⟩
    simpa using this⟩
def All2 (r : List Fd → α → Prop) : List (List Fd) → List α → Prop
  | [], [] => True
  | p :: ps, x :: xs => r p x ∧ All2 r ps xs
  | _, _ => False
theorem All2.len {r : List Fd → α → Prop} : ∀ {ps : List (List Fd)} {xs : List α}, All2 r ps xs → ps.length = xs.length
  | [], [], _ => rfl
  | _ :: _, _ :: _, h => by simp [All2.len h.2]
  | [], _ :: _, h => h.elim
  | _ :: _, [], h => h.elim
theorem All2.eq_map {f : α → List Fd} {good : α → Prop} : ∀ {ps : List (List Fd)} {xs : List α}, All2 (fun p x => p = f x ∧ good x) ps xs → ps = xs.map f ∧ ∀ x ∈ xs, good x
  | [], [], _ => ⟨rfl, fun _ h => by cases h⟩
  | p :: ps, x :: xs, h => by
    obtain ⟨⟨rfl, hg⟩, h2⟩ := h
    obtain ⟨rfl, h4⟩ := All2.eq_map h2
    exact ⟨rfl, fun y hy => by
      cases hy with
      | head => exact hg
      | tail _ hy => exact h4 y hy⟩
  | [], _ :: _, h => h.elim
  | _ :: _, [], h => h.elim
theorem rdr_slice (ht : P.underlying t = some (.slice e)) (hc : P.cellsOf t = 1) (hsz : 0 < sz) (k : Rdr P e sz rel) : Rdr P t 1 (fun H fs (xs : List α) => ∃ A cap ps, fs = [.one (.slice A xs.length cap)] ∧ xs.length ≤ maxLen ∧ Sl H sz A ps ∧ All2 (rel H) ps xs) :=
  ⟨hc, fun enc w base spare held n cs y hy => by
    rcases DataW.trod_slice ht hy with ⟨rfl, _⟩ | ⟨a, len, cap, elems, rest, m, _, rfl, _, hb, hlc, hcm, hel, hat, _⟩
    · exact ⟨[.one (.slice none 0 0)], [], rfl, inferInstance, rfl, none, 0, [], rfl, by simp, Sl.nil _ _ _, trivial⟩
    · have key : ∀ j, j ≤ len → ∃ (ps : List (List Fd)) (xs : List α), ps.length = j ∧ Els sz ps ∧ All2 (rel (Hp.of w)) ps xs ∧ ∀ i u, (fls ps)[i]? = some u → w.cell? (a.add i) = some u := by
        intro j
        induction j with
        | zero => exact fun _ => ⟨[], [], rfl, Els.nil sz, trivial, fun i u h => by simp [fls] at h⟩
        | succ j ih =>
          intro hj
          obtain ⟨ps, xs, h1, h2, h3, h4⟩ := ih (by omega)
          have := hat j (by omega)
          rw [List.getElem?_eq_getElem (by omega)] at this
          obtain ⟨cs, hcs, htr⟩ := Option.bind_eq_some_iff.1 this
          obtain ⟨_, hcl, hcat⟩ := World.cells?_some hcs
          obtain ⟨fs, x, e1, e2, e3, e4⟩ := k.read enc w base spare held m cs _ htr
          have app : ∀ {ps : List (List Fd)} {xs : List α}, All2 (rel (Hp.of w)) ps xs → All2 (rel (Hp.of w)) (ps ++ [fs]) (xs ++ [x]) := by
            intro ps
            induction ps with
            | nil => intro xs h; cases xs with
              | nil => exact ⟨e4, trivial⟩
              | cons _ _ => exact h.elim
            | cons p ps ih => intro xs h; cases xs with
              | nil => exact h.elim
              | cons y xs => exact ⟨h.1, ih h.2⟩
          refine ⟨ps ++ [fs], xs ++ [x], by simp [h1], h2.app (Els.cons e2 e3 (Els.nil sz)), app h3, fun i u hu => ?_⟩
          rw [fls_app] at hu
          rcases Nat.lt_or_ge i (fls ps).length with hlt | hge
          · rw [List.getElem?_append_left hlt] at hu
            exact h4 i u hu
          · rw [List.getElem?_append_right hge] at hu
            have hl := h2.len
            simp only [fls, List.map_cons, List.map_nil, List.flatten_cons, List.flatten_nil, List.append_nil] at hu
            have hu2 : cs[i - (ps.map fl).flatten.length]? = some u := by rw [e1]; exact hu
            obtain ⟨hj1, hj2⟩ := List.getElem?_eq_some_iff.1 hu2
            have hq := hcat (i - (ps.map fl).flatten.length) (by rw [hcl] at hj1; exact hj1)
            rw [hu2, Go.Deep.add_add, k.size] at hq
            have hl2 : (ps.map fl).flatten.length = j * sz := by rw [← h1]; exact hl
            have hge2 : j * sz ≤ i := by rw [← hl2]; exact hge
            rw [hl2, show j * sz + (i - j * sz) = i by omega] at hq
            exact hq
      obtain ⟨ps, xs, h1, h2, h3, h4⟩ := key len (Nat.le_refl _)
      have hxl : xs.length = len := by rw [← h3.len, h1]
      refine ⟨[.one (.slice (some a) len cap)], xs, rfl, inferInstance, rfl, some a, cap, ps, by rw [hxl], by rw [hxl]; omega, ⟨h2, ?_⟩, h3⟩
      rcases Nat.eq_zero_or_pos (fls ps).length with h0 | h0
      · left
        rw [h2.len] at h0
        rcases Nat.mul_eq_zero.1 h0 with h | h
        · exact List.eq_nil_of_length_eq_zero h
        · omega
      · obtain ⟨u, hu⟩ : ∃ u, (fls ps)[0]? = some u := ⟨_, List.getElem?_eq_getElem h0⟩
        have hc0 := h4 0 u hu
        obtain ⟨b, off, spot⟩ := a
        have hs : spot = none := by simpa [Addr.add] using World.cell?_spot hc0
        subst hs
        have hcell : ∃ c t' fr, w.heap[b]? = some (.cells c t' fr) := by
          rw [Addr.add_lit] at hc0
          unfold World.cell? at hc0
          split at hc0
          · rename_i c t' fr hh
            exact ⟨c, t', fr, hh⟩
          · cases hc0
        obtain ⟨c, t', fr, hh⟩ := hcell
        refine .inr ⟨b, off, c, rfl, by simp [Hp.of, hh], fun j v hv => ?_⟩
        have := h4 j v hv
        rw [Addr.add_lit, cell_of_row w b (off + j) c t' fr hh] at this
        exact this⟩
theorem arg_one {w : World} {r : Reach} {b : Nat} {v u : Value} (hd : (match P.underlying t with
    | some .bool | some (.int _) | some .string | some (.slice _) => true
    | _ => false) = true) (hv : Value.okWide P w r b t v) (h : v.cells.toList = fl [.one u]) : v = u := by
  have key : ∀ cs, v ≠ .agg cs := by
    rintro cs rfl
    unfold Value.okWide Cell.okWide Cell.ok at hv
    split at hd
    all_goals first
      | (cases hd; done)
      | (rename_i hu; simp only [hu] at hv)
  cases v <;> first
    | (exact absurd rfl (key _))
    | (simpa [Value.cells, fl, Fd.cells] using h)
end
end Go.Proofs.Ytopcnkejobomaaa
namespace Go.Proofs.Ytopcnkejobomaaa
open Go.RowKit
def lev : Nat → Int → Int
  | 0, _ => 0
  | f + 1, x => if x % 2 = 1 then lev f (x / 2) + 1 else 0
def level (x : Int) : Int := lev 8 x
def thr (n x : Int) : Prop := (1 ≤ n ∧ n ≤ 64) ∧ 0 ≤ x ∧ x ≤ 2 * n - 2
instance (n x : Int) : Decidable (thr n x) := by unfold thr; infer_instance
def pw (k : Int) : Int := 2 ^ k.toNat
def rtN (n : Int) : Int := if n ≤ 1 then 1 else if n ≤ 2 then 2 else if n ≤ 4 then 4 else if n ≤ 8 then 8 else if n ≤ 16 then 16 else if n ≤ 32 then 32 else 64
def root (n : Int) : Int := if thr n 0 then rtN n - 1 else -1
def pLeft (n x : Int) : Int := if thr n x ∧ level x ≠ 0 then x - pw (level x - 1) else -1
def rg : Nat → Int → Int → Int
  | 0, _, x => x
  | f + 1, n, x => if thr n x then x else rg f n (x - pw (level x - 1))
def okr : Nat → Int → Int → Bool
  | 0, _, _ => false
  | f + 1, n, x => decide (0 ≤ x ∧ x < 128) && (decide (thr n x) || (decide (1 ≤ level x) && okr f n (x - pw (level x - 1))))
def pRight (n x : Int) : Int := if thr n x ∧ level x ≠ 0 then rg 8 n (x + pw (level x - 1)) else -1
def up1 (x : Int) : Int := x - x / pw (level x + 1) % 2 * pw (level x + 1) + pw (level x)
def ug : Nat → Int → Int → Int
  | 0, _, x => x
  | f + 1, n, x => if thr n (up1 x) then up1 x else ug f n (up1 x)
def oku : Nat → Int → Int → Bool
  | 0, _, _ => false
  | f + 1, n, x => decide (0 ≤ x ∧ x < 128) && (decide (thr n (up1 x)) || oku f n (up1 x))
def pAbove (n x : Int) : Int := if thr n x ∧ x ≠ root n then ug 8 n x else -1
def pBeside (n x : Int) : Int := if pAbove n x < 0 then -1 else if x < pAbove n x then pRight n (pAbove n x) else pLeft n (pAbove n x)
def pFrom (n x : Int) : Int := if thr n x then (x + 1 - pw (level x)) / 2 else 0
def pTo (n x : Int) : Int := if thr n x then min ((x + 1 + pw (level x)) / 2) n else 0
def halfI (n : Int) : Int := if n ≤ 2 then 1 else if n ≤ 4 then 2 else if n ≤ 8 then 4 else if n ≤ 16 then 8 else if n ≤ 32 then 16 else 32
def rootI (a n : Int) : Int := if n = 1 then 2 * a else 2 * (a + halfI n) - 1
def fnd : Nat → Int → Int → Int → Int → Int → Int × Int × Int × Int
  | 0, a, n, _, p, b => (a, n, p, b)
  | f + 1, a, n, x, p, b => if rootI a n = x then (a, n, p, b) else if x < rootI a n then fnd f a (halfI n) x (rootI a n) (rootI (a + halfI n) (n - halfI n)) else fnd f (a + halfI n) (n - halfI n) x (rootI a n) (rootI a (halfI n))
def fd (n x : Int) : Int × Int × Int × Int := fnd 7 0 n x (-1) (-1)
def rRoot (n : Int) : Int := if thr n 0 then rootI 0 n else -1
def lf (n x : Int) : Int := if thr n x then (if (fd n x).2.1 = 1 then -1 else rootI (fd n x).1 (halfI (fd n x).2.1)) else -1
def rt (n x : Int) : Int := if thr n x then (if (fd n x).2.1 = 1 then -1 else rootI ((fd n x).1 + halfI (fd n x).2.1) ((fd n x).2.1 - halfI (fd n x).2.1)) else -1
def ab (n x : Int) : Int := if thr n x then (fd n x).2.2.1 else -1
def bs (n x : Int) : Int := if thr n x then (fd n x).2.2.2 else -1
def fro (n x : Int) : Int := if thr n x then (fd n x).1 else 0
def til (n x : Int) : Int := if thr n x then (fd n x).1 + (fd n x).2.1 else 0
def hld (n x p : Int) : Prop := fro n x ≤ p ∧ p < til n x
instance (n x p : Int) : Decidable (hld n x p) := by unfold hld; infer_instance
def dirF : Nat → Int → Int → List Int
  | 0, _, _ => []
  | f + 1, n, x => if ab n x < 0 then [] else ab n x :: dirF f n (ab n x)
def dirL (n l : Int) : List Int := if 0 ≤ l ∧ l < n then dirF 8 n (2 * l) else []
set_option maxRecDepth 100000 in
theorem bough_fin : ∀ n : Fin 65, ∀ x : Fin 127, thr (n.val : Int) (x.val : Int) →
    pLeft n.val x.val = lf n.val x.val ∧ pRight n.val x.val = rt n.val x.val ∧ pAbove n.val x.val = ab n.val x.val ∧ pBeside n.val x.val = bs n.val x.val ∧ pFrom n.val x.val = fro n.val x.val ∧ pTo n.val x.val = til n.val x.val ∧
    (level x.val ≠ 0 → okr 8 n.val (x.val + pw (level x.val - 1)) = true) ∧ ((x.val : Int) ≠ root n.val → oku 8 n.val x.val = true) ∧ root n.val = rRoot n.val := by decide +kernel
end Go.Proofs.Ytopcnkejobomaaa
namespace Go.Proofs.Ytopcnkejobomaaa
def pX (R : Ending → World → Prop) : List PanicEntry → World → Prop := fun c w => R (.panicked c) w
abbrev m (R : Ending → World → Prop) (s : Sem Next) (w : World) (K : Value → World → Prop) : Prop := mop Try.prog s w K (pX R)
theorem mixed : Try.prog.follows .mixedOrders = true := by kernel_rfl
abbrev ml1 (a0 : Value) (w : World) (F : Value → Env → World → (Value → World → Prop) → Prop) : Prop :=
  ∃ (I : Value → World → Prop) (μ : Value → World → Nat), I a0 w ∧ ∀ (x0 : Value) (u : Env) (w : World), I x0 w → F x0 u w (fun y0 w2 => I y0 w2 ∧ μ y0 w2 < μ x0 w)
abbrev ml2 (a0 a1 : Value) (w : World) (F : Value → Value → Env → World → (Value → Value → World → Prop) → Prop) : Prop :=
  ∃ (I : Value → Value → World → Prop) (μ : Value → Value → World → Nat), I a0 a1 w ∧ ∀ (x0 x1 : Value) (u : Env) (w : World), I x0 x1 w → F x0 x1 u w (fun y0 y1 w2 => I y0 y1 w2 ∧ μ y0 y1 w2 < μ x0 x1 w)
abbrev ml9 (a0 a1 a2 a3 a4 a5 a6 a7 a8 : Value) (w : World) (F : Value → Value → Value → Value → Value → Value → Value → Value → Value → Env → World → (Value → Value → Value → Value → Value → Value → Value → Value → Value → World → Prop) → Prop) : Prop :=
  ∃ (I : Value → Value → Value → Value → Value → Value → Value → Value → Value → World → Prop) (μ : Value → Value → Value → Value → Value → Value → Value → Value → Value → World → Nat), I a0 a1 a2 a3 a4 a5 a6 a7 a8 w ∧ ∀ (x0 x1 x2 x3 x4 x5 x6 x7 x8 : Value) (u : Env) (w : World), I x0 x1 x2 x3 x4 x5 x6 x7 x8 w → F x0 x1 x2 x3 x4 x5 x6 x7 x8 u w (fun y0 y1 y2 y3 y4 y5 y6 y7 y8 w2 => I y0 y1 y2 y3 y4 y5 y6 y7 y8 w2 ∧ μ y0 y1 y2 y3 y4 y5 y6 y7 y8 w2 < μ x0 x1 x2 x3 x4 x5 x6 x7 x8 w)
abbrev mj0 (F : (World → Prop) → Prop) (G : Env → World → Prop) : Prop :=
  ∃ J : World → Prop, F J ∧ ∀ (u : Env) (w : World), J w → G u w
abbrev mj1 (F : (Value → World → Prop) → Prop) (G : Value → Env → World → Prop) : Prop :=
  ∃ J : Value → World → Prop, F J ∧ ∀ (x0 : Value) (u : Env) (w : World), J x0 w → G x0 u w
instance : FunC Try.prog 13 := ⟨by kernel_rfl⟩
instance (ty : TypeId) (cs : List Bool) (a : Option Addr) (n c : Nat) : StepC Try.prog (o_builtin .len #[22] ty cs [.slice a n c]) True (.int .i64 n) := ⟨fun _ => p_len_slice 22 ty 53 cs a n c (by kernel_rfl)⟩
instance : ZerF Try.prog 27 [.one (.slice none 0 0), .one (.slice none 0 0)] := ⟨by kernel_rfl, inferInstance⟩
instance : ShpC Try.prog 27 true 2 := ⟨by kernel_rfl⟩
instance (priority := 1100) (b : Nat) : StepC Try.prog (o_fieldAddr 27 (.pointer (some ⟨b, 0, none⟩)) 0) True (.pointer (some ⟨b, 0, none⟩)) := ⟨fun _ => p_fieldAddr 27 b 0 0 0 1 (by kernel_rfl) (by decide)⟩
instance : ShpC Try.prog 24 false 1 := ⟨by kernel_rfl⟩
instance (ty : TypeId) (cs : List Bool) (a : Option Addr) (n c : Nat) : StepC Try.prog (o_builtin .len #[24] ty cs [.slice a n c]) True (.int .i64 n) := ⟨fun _ => p_len_slice 24 ty 36 cs a n c (by kernel_rfl)⟩
instance (ty : TypeId) (cs : List Bool) (a : Option Addr) (n c : Nat) : StepC Try.prog (o_builtin .len #[29] ty cs [.slice a n c]) True (.int .i64 n) := ⟨fun _ => p_len_slice 29 ty 3 cs a n c (by kernel_rfl)⟩
instance : SliS Try.prog 29 1 := ⟨by kernel_rfl, by kernel_rfl⟩
instance : ShpC Try.prog 3 false 1 := ⟨by kernel_rfl⟩
instance : SliS Try.prog 24 97 := ⟨by kernel_rfl, by kernel_rfl⟩
instance (priority := 1100) (b : Nat) : StepC Try.prog (o_fieldAddr 36 (.pointer (some ⟨b, 0, none⟩)) 0) True (.pointer (some ⟨b, 0, none⟩)) := ⟨fun _ => p_fieldAddr 36 b 0 0 0 1 (by kernel_rfl) (by decide)⟩
instance (b o : Nat) : StepC Try.prog (o_fieldAddr 36 (.pointer (some ⟨b, o, none⟩)) 0) True (.pointer (some ⟨b, o + 0, none⟩)) := ⟨fun _ => p_fieldAddr 36 b o 0 0 1 (by kernel_rfl) (by decide)⟩
instance : KindC Try.prog 34 (List.replicate 32 (.int .u8)) := ⟨by kernel_rfl, by kernel_rfl, by kernel_rfl⟩
instance : ShpC Try.prog 34 true 32 := ⟨by kernel_rfl⟩
instance : FunC Try.prog 22 := ⟨by kernel_rfl⟩
instance : FunC Try.prog 23 := ⟨by kernel_rfl⟩
instance : BltC Try.prog 27 := ⟨by kernel_rfl⟩
instance : SliS Try.prog 22 4 := ⟨by kernel_rfl, by kernel_rfl⟩
instance : ShpC Try.prog 53 true 4 := ⟨by kernel_rfl⟩
instance : FunC Try.prog 27 := ⟨by kernel_rfl⟩
instance : ShpC Try.prog 36 true 97 := ⟨by kernel_rfl⟩
instance (ty : TypeId) (cs : List Bool) (a : Option Addr) (n c : Nat) : StepC Try.prog (o_builtin .len #[41] ty cs [.slice a n c]) True (.int .i64 n) := ⟨fun _ => p_len_slice 41 ty 34 cs a n c (by kernel_rfl)⟩
instance : FunC Try.prog 28 := ⟨by kernel_rfl⟩
instance (priority := 1100) (b : Nat) : StepC Try.prog (o_fieldAddr 36 (.pointer (some ⟨b, 0, none⟩)) 1) True (.pointer (some ⟨b, 1, none⟩)) := ⟨fun _ => p_fieldAddr 36 b 0 1 1 32 (by kernel_rfl) (by decide)⟩
instance (b o : Nat) : StepC Try.prog (o_fieldAddr 36 (.pointer (some ⟨b, o, none⟩)) 1) True (.pointer (some ⟨b, o + 1, none⟩)) := ⟨fun _ => p_fieldAddr 36 b o 1 1 32 (by kernel_rfl) (by decide)⟩
instance : FunC Try.prog 29 := ⟨by kernel_rfl⟩
instance : FunC Try.prog 30 := ⟨by kernel_rfl⟩
instance : FunC Try.prog 34 := ⟨by kernel_rfl⟩
instance : FunC Try.prog 37 := ⟨by kernel_rfl⟩
instance : ZerF Try.prog 67 [.arr 65 (List.replicate 65 (.bool false))] := ⟨by kernel_rfl, inferInstance⟩
instance : ZerF Try.prog 53 [.one (.int .u8 0), .one (.int .i64 0), .one (.int .i64 0), .one (.int .u8 0)] := ⟨by kernel_rfl, inferInstance⟩
instance : FunC Try.prog 39 := ⟨by kernel_rfl⟩
instance (priority := 1100) (b : Nat) : StepC Try.prog (o_fieldAddr 53 (.pointer (some ⟨b, 0, none⟩)) 0) True (.pointer (some ⟨b, 0, none⟩)) := ⟨fun _ => p_fieldAddr 53 b 0 0 0 1 (by kernel_rfl) (by decide)⟩
instance : ShpC Try.prog 5 false 1 := ⟨by kernel_rfl⟩
instance (priority := 1100) (b : Nat) : StepC Try.prog (o_fieldAddr 53 (.pointer (some ⟨b, 0, none⟩)) 1) True (.pointer (some ⟨b, 1, none⟩)) := ⟨fun _ => p_fieldAddr 53 b 0 1 1 1 (by kernel_rfl) (by decide)⟩
instance : ZerF Try.prog 36 [.one (.int .i64 0), .arr 32 (u8s hzero.1), .arr 32 (u8s hzero.1), .arr 32 (u8s hzero.1)] := ⟨by kernel_rfl, inferInstance⟩
instance : BltC Try.prog 36 := ⟨by kernel_rfl⟩
instance : PlC Try.prog 36 0 0 1 := ⟨by kernel_rfl⟩
instance (b o : Nat) (k : IntKind) (i : Int) : StepC Try.prog (o_indexAddr 67 (.pointer (some ⟨b, o, none⟩)) (.int k i)) (0 ≤ i ∧ i < 65) (.pointer (some ⟨b, o + i.toNat, none⟩)) := ⟨fun h => by have := p_indexAddr_array (P := Try.prog) 67 b o 65 k i 1 (by kernel_rfl) (by kernel_rfl) (by kernel_rfl) h.1 h.2; rwa [Nat.mul_one] at this⟩
instance : ShpC Try.prog 4 false 1 := ⟨by kernel_rfl⟩
instance (priority := 1100) (b : Nat) : StepC Try.prog (o_fieldAddr 53 (.pointer (some ⟨b, 0, none⟩)) 3) True (.pointer (some ⟨b, 3, none⟩)) := ⟨fun _ => p_fieldAddr 53 b 0 3 3 1 (by kernel_rfl) (by decide)⟩
instance : ZerF Try.prog 34 [.arr 32 (u8s hzero.1)] := ⟨by kernel_rfl, inferInstance⟩
instance : HshC Try.prog 34 := ⟨⟨5, by kernel_rfl, by kernel_rfl⟩, by kernel_rfl⟩
instance : IsBo Try.prog 4 := ⟨by kernel_rfl⟩
instance : ZerF Try.prog 92 [.one (.int .i64 0), .one (.int .i64 0), .one (.int .i64 0)] := ⟨by kernel_rfl, inferInstance⟩
instance : BltC Try.prog 92 := ⟨by kernel_rfl⟩
instance : PlC Try.prog 92 0 0 1 := ⟨by kernel_rfl⟩
instance : PlC Try.prog 92 1 1 1 := ⟨by kernel_rfl⟩
instance : PlC Try.prog 92 2 2 1 := ⟨by kernel_rfl⟩
instance : FunC Try.prog 46 := ⟨by kernel_rfl⟩
instance : ShpC Try.prog 29 false 1 := ⟨by kernel_rfl⟩
instance : FunC Try.prog 50 := ⟨by kernel_rfl⟩
instance : FunC Try.prog 51 := ⟨by kernel_rfl⟩
instance (priority := 1100) (b : Nat) : StepC Try.prog (o_fieldAddr 27 (.pointer (some ⟨b, 0, none⟩)) 1) True (.pointer (some ⟨b, 1, none⟩)) := ⟨fun _ => p_fieldAddr 27 b 0 1 1 1 (by kernel_rfl) (by decide)⟩
instance : ShpC Try.prog 25 false 1 := ⟨by kernel_rfl⟩
instance (ty : TypeId) (cs : List Bool) (a : Option Addr) (n c : Nat) : StepC Try.prog (o_builtin .len #[25] ty cs [.slice a n c]) True (.int .i64 n) := ⟨fun _ => p_len_slice 25 ty 96 cs a n c (by kernel_rfl)⟩
instance : SliS Try.prog 25 66 := ⟨by kernel_rfl, by kernel_rfl⟩
instance (priority := 1100) (b : Nat) : StepC Try.prog (o_fieldAddr 96 (.pointer (some ⟨b, 0, none⟩)) 3) True (.pointer (some ⟨b, 65, none⟩)) := ⟨fun _ => p_fieldAddr 96 b 0 3 65 1 (by kernel_rfl) (by decide)⟩
instance (b o : Nat) : StepC Try.prog (o_fieldAddr 96 (.pointer (some ⟨b, o, none⟩)) 3) True (.pointer (some ⟨b, o + 65, none⟩)) := ⟨fun _ => p_fieldAddr 96 b o 3 65 1 (by kernel_rfl) (by decide)⟩
instance : KindC Try.prog 36 ((.int .i64) :: (List.replicate 32 (.int .u8) ++ (List.replicate 32 (.int .u8) ++ (List.replicate 32 (.int .u8))))) := ⟨by kernel_rfl, by kernel_rfl, by kernel_rfl⟩
instance : ShpC Try.prog 96 true 66 := ⟨by kernel_rfl⟩
instance : ZerF Try.prog 96 [.one (.bool false), .arr 32 (u8s hzero.1), .arr 32 (u8s hzero.1), .one (.slice none 0 0)] := ⟨by kernel_rfl, inferInstance⟩
instance (priority := 1100) (b : Nat) : StepC Try.prog (o_fieldAddr 96 (.pointer (some ⟨b, 0, none⟩)) 0) True (.pointer (some ⟨b, 0, none⟩)) := ⟨fun _ => p_fieldAddr 96 b 0 0 0 1 (by kernel_rfl) (by decide)⟩
instance (b o : Nat) : StepC Try.prog (o_fieldAddr 96 (.pointer (some ⟨b, o, none⟩)) 0) True (.pointer (some ⟨b, o + 0, none⟩)) := ⟨fun _ => p_fieldAddr 96 b o 0 0 1 (by kernel_rfl) (by decide)⟩
instance (priority := 1100) (b : Nat) : StepC Try.prog (o_fieldAddr 96 (.pointer (some ⟨b, 0, none⟩)) 1) True (.pointer (some ⟨b, 1, none⟩)) := ⟨fun _ => p_fieldAddr 96 b 0 1 1 32 (by kernel_rfl) (by decide)⟩
instance (priority := 1100) (b : Nat) : StepC Try.prog (o_fieldAddr 96 (.pointer (some ⟨b, 0, none⟩)) 2) True (.pointer (some ⟨b, 33, none⟩)) := ⟨fun _ => p_fieldAddr 96 b 0 2 33 32 (by kernel_rfl) (by decide)⟩
instance : ZerC Try.prog 34 (List.replicate 32 (.int .u8 0)) := ⟨by kernel_rfl⟩
instance : FunC Try.prog 53 := ⟨by kernel_rfl⟩
instance : FunC Try.prog 55 := ⟨by kernel_rfl⟩
instance : FunC Try.prog 54 := ⟨by kernel_rfl⟩
instance : FunC Try.prog 58 := ⟨by kernel_rfl⟩
instance (a : Int) : StepC Try.prog (o_conv 3 5 (.int .i64 a)) True (.int .u8 (a % 256)) := ⟨fun _ => by have := p_conv_int (P := Try.prog) 3 5 .i64 .u8 a (by kernel_rfl) (by kernel_rfl); rwa [show IntKind.wrap .u8 a = a % 256 by simp [IntKind.wrap, IntKind.bits, IntKind.signed]] at this⟩
instance : FunC Try.prog 59 := ⟨by kernel_rfl⟩
instance : FunC Try.prog 60 := ⟨by kernel_rfl⟩
instance : FunC Try.prog 61 := ⟨by kernel_rfl⟩
instance : SliS Try.prog 41 32 := ⟨by kernel_rfl, by kernel_rfl⟩
instance : BltC Try.prog 96 := ⟨by kernel_rfl⟩
instance : PlC Try.prog 96 0 0 1 := ⟨by kernel_rfl⟩
instance : PlC Try.prog 96 1 1 32 := ⟨by kernel_rfl⟩
instance : PlC Try.prog 96 2 33 32 := ⟨by kernel_rfl⟩
instance : FunC Try.prog 63 := ⟨by kernel_rfl⟩
instance : FunC Try.prog 62 := ⟨by kernel_rfl⟩
instance (b o : Nat) : StepC Try.prog (o_slice 34 (.pointer (some ⟨b, o, none⟩)) none none none) True (.slice (some ⟨b, o, none⟩) 32 32) := ⟨fun _ => p_slice_array_all (P := Try.prog) 34 b o 32 1 (by kernel_rfl) (by kernel_rfl) (by kernel_rfl)⟩
instance : StrC Try.prog 106 9 := ⟨⟨5, by kernel_rfl, by kernel_rfl⟩, by kernel_rfl⟩
instance (priority := 1100) (b : Nat) : StepC Try.prog (o_fieldAddr 36 (.pointer (some ⟨b, 0, none⟩)) 3) True (.pointer (some ⟨b, 65, none⟩)) := ⟨fun _ => p_fieldAddr 36 b 0 3 65 32 (by kernel_rfl) (by decide)⟩
instance (b o : Nat) : StepC Try.prog (o_fieldAddr 36 (.pointer (some ⟨b, o, none⟩)) 3) True (.pointer (some ⟨b, o + 65, none⟩)) := ⟨fun _ => p_fieldAddr 36 b o 3 65 32 (by kernel_rfl) (by decide)⟩
instance : FunC Try.prog 67 := ⟨by kernel_rfl⟩
instance : FunC Try.prog 68 := ⟨by kernel_rfl⟩
instance : FunC Try.prog 69 := ⟨by kernel_rfl⟩
instance : FunC Try.prog 70 := ⟨by kernel_rfl⟩
instance : FunC Try.prog 71 := ⟨by kernel_rfl⟩
instance : FunC Try.prog 72 := ⟨by kernel_rfl⟩
instance : FdC Try.prog 27 0 0 1 false := ⟨by kernel_rfl⟩
instance : FunC Try.prog 76 := ⟨by kernel_rfl⟩
instance : FunC Try.prog 75 := ⟨by kernel_rfl⟩
instance : FunC Try.prog 77 := ⟨by kernel_rfl⟩
instance (priority := 1100) (b : Nat) : StepC Try.prog (o_fieldAddr 53 (.pointer (some ⟨b, 0, none⟩)) 2) True (.pointer (some ⟨b, 2, none⟩)) := ⟨fun _ => p_fieldAddr 53 b 0 2 2 1 (by kernel_rfl) (by decide)⟩
instance (a : Int) : StepC Try.prog (o_conv 3 120 (.int .i64 a)) True (.int .u64 (a % 18446744073709551616)) := ⟨fun _ => by have := p_conv_int (P := Try.prog) 3 120 .i64 .u64 a (by kernel_rfl) (by kernel_rfl); rwa [show IntKind.wrap .u64 a = a % 18446744073709551616 by simp [IntKind.wrap, IntKind.bits, IntKind.signed]] at this⟩
instance (a : Int) : StepC Try.prog (o_conv 120 3 (.int .u64 a)) ((-9223372036854775808) ≤ a ∧ a < 9223372036854775808) (.int .i64 a) := ⟨fun h => by have := p_conv_int (P := Try.prog) 120 3 .u64 .i64 a (by kernel_rfl) (by kernel_rfl); rwa [show IntKind.wrap .i64 a = a by simp [IntKind.wrap, IntKind.bits, IntKind.signed]; omega] at this⟩
instance : FunC Try.prog 83 := ⟨by kernel_rfl⟩
instance : FunC Try.prog 84 := ⟨by kernel_rfl⟩
instance : FunC Try.prog 85 := ⟨by kernel_rfl⟩
instance (priority := 1100) (b : Nat) : StepC Try.prog (o_fieldAddr 36 (.pointer (some ⟨b, 0, none⟩)) 2) True (.pointer (some ⟨b, 33, none⟩)) := ⟨fun _ => p_fieldAddr 36 b 0 2 33 32 (by kernel_rfl) (by decide)⟩
instance : FunC Try.prog 48 := ⟨by kernel_rfl⟩
instance : FunC Try.prog 49 := ⟨by kernel_rfl⟩
instance : FunC Try.prog 89 := ⟨by kernel_rfl⟩
instance : FunC Try.prog 90 := ⟨by kernel_rfl⟩
instance : FunC Try.prog 91 := ⟨by kernel_rfl⟩
instance : FunC Try.prog 92 := ⟨by kernel_rfl⟩
instance : FunC Try.prog 93 := ⟨by kernel_rfl⟩
instance (ty : TypeId) (cs : List Bool) (a : Option Addr) (n c : Nat) : StepC Try.prog (o_builtin .len #[137] ty cs [.slice a n c]) True (.int .i64 n) := ⟨fun _ => p_len_slice 137 ty 9 cs a n c (by kernel_rfl)⟩
instance (b o n c : Nat) (k : IntKind) (i : Int) : StepC Try.prog (o_indexAddr 137 (.slice (some ⟨b, o, none⟩) n c) (.int k i)) (0 ≤ i ∧ i < n) (.pointer (some ⟨b, o + i.toNat, none⟩)) := ⟨fun h => by have := p_indexAddr_slice (P := Try.prog) 137 b o n c k i 1 (by kernel_rfl) (by kernel_rfl) h.1 h.2; rwa [Nat.mul_one] at this⟩
instance : ShpC Try.prog 9 false 1 := ⟨by kernel_rfl⟩
instance : FunC Try.prog 94 := ⟨by kernel_rfl⟩
instance : ZerC Try.prog 147 (List.replicate 72 (.int .u8 0)) := ⟨by kernel_rfl⟩
instance (b o : Nat) (k : IntKind) (i : Int) : StepC Try.prog (o_indexAddr 147 (.pointer (some ⟨b, o, none⟩)) (.int k i)) (0 ≤ i ∧ i < 72) (.pointer (some ⟨b, o + i.toNat, none⟩)) := ⟨fun h => by have := p_indexAddr_array (P := Try.prog) 147 b o 72 k i 1 (by kernel_rfl) (by kernel_rfl) (by kernel_rfl) h.1 h.2; rwa [Nat.mul_one] at this⟩
instance (priority := 1100) (b : Nat) : StepC Try.prog (o_fieldAddr 145 (.pointer (some ⟨b, 0, none⟩)) 2) True (.pointer (some ⟨b, 72, none⟩)) := ⟨fun _ => p_fieldAddr 145 b 0 2 72 1 (by kernel_rfl) (by decide)⟩
instance (a : Int) : StepC Try.prog (o_conv 3 148 (.int .i64 a)) True (.int .u64 (a % 18446744073709551616)) := ⟨fun _ => by have := p_conv_int (P := Try.prog) 3 148 .i64 .u64 a (by kernel_rfl) (by kernel_rfl); rwa [show IntKind.wrap .u64 a = a % 18446744073709551616 by simp [IntKind.wrap, IntKind.bits, IntKind.signed]] at this⟩
instance (a : Int) : StepC Try.prog (o_conv 148 5 (.int .u64 a)) True (.int .u8 (a % 256)) := ⟨fun _ => by have := p_conv_int (P := Try.prog) 148 5 .u64 .u8 a (by kernel_rfl) (by kernel_rfl); rwa [show IntKind.wrap .u8 a = a % 256 by simp [IntKind.wrap, IntKind.bits, IntKind.signed]] at this⟩
instance (b o : Nat) (k : IntKind) (l : Int) : StepC Try.prog (o_slice 147 (.pointer (some ⟨b, o, none⟩)) none (some (.int k l)) none) (0 ≤ l ∧ l ≤ 72) (.slice (some ⟨b, o, none⟩) l.toNat 72) := ⟨fun h => p_slice_array_h (P := Try.prog) 147 b o 72 k l 1 (by kernel_rfl) (by kernel_rfl) (by kernel_rfl) h.1 h.2⟩
instance (priority := 1100) (b : Nat) : StepC Try.prog (o_fieldAddr 145 (.pointer (some ⟨b, 0, none⟩)) 0) True (.pointer (some ⟨b, 0, none⟩)) := ⟨fun _ => p_fieldAddr 145 b 0 0 0 8 (by kernel_rfl) (by decide)⟩
instance (priority := 1200) (b : Nat) (k : IntKind) : StepC Try.prog (o_indexAddr 140 (.pointer (some ⟨b, 0, none⟩)) (.int k 0)) True (.pointer (some ⟨b, 0, none⟩)) := ⟨fun _ => by have := p_indexAddr_array (P := Try.prog) 140 b 0 8 k 0 1 (by kernel_rfl) (by kernel_rfl) (by kernel_rfl) (by omega) (by omega); exact this⟩
instance (priority := 1200) (b : Nat) (k : IntKind) : StepC Try.prog (o_indexAddr 140 (.pointer (some ⟨b, 0, none⟩)) (.int k 1)) True (.pointer (some ⟨b, 1, none⟩)) := ⟨fun _ => by have := p_indexAddr_array (P := Try.prog) 140 b 0 8 k 1 1 (by kernel_rfl) (by kernel_rfl) (by kernel_rfl) (by omega) (by omega); exact this⟩
instance (priority := 1200) (b : Nat) (k : IntKind) : StepC Try.prog (o_indexAddr 140 (.pointer (some ⟨b, 0, none⟩)) (.int k 2)) True (.pointer (some ⟨b, 2, none⟩)) := ⟨fun _ => by have := p_indexAddr_array (P := Try.prog) 140 b 0 8 k 2 1 (by kernel_rfl) (by kernel_rfl) (by kernel_rfl) (by omega) (by omega); exact this⟩
instance (priority := 1200) (b : Nat) (k : IntKind) : StepC Try.prog (o_indexAddr 140 (.pointer (some ⟨b, 0, none⟩)) (.int k 3)) True (.pointer (some ⟨b, 3, none⟩)) := ⟨fun _ => by have := p_indexAddr_array (P := Try.prog) 140 b 0 8 k 3 1 (by kernel_rfl) (by kernel_rfl) (by kernel_rfl) (by omega) (by omega); exact this⟩
instance (priority := 1200) (b : Nat) (k : IntKind) : StepC Try.prog (o_indexAddr 140 (.pointer (some ⟨b, 0, none⟩)) (.int k 4)) True (.pointer (some ⟨b, 4, none⟩)) := ⟨fun _ => by have := p_indexAddr_array (P := Try.prog) 140 b 0 8 k 4 1 (by kernel_rfl) (by kernel_rfl) (by kernel_rfl) (by omega) (by omega); exact this⟩
instance (priority := 1200) (b : Nat) (k : IntKind) : StepC Try.prog (o_indexAddr 140 (.pointer (some ⟨b, 0, none⟩)) (.int k 5)) True (.pointer (some ⟨b, 5, none⟩)) := ⟨fun _ => by have := p_indexAddr_array (P := Try.prog) 140 b 0 8 k 5 1 (by kernel_rfl) (by kernel_rfl) (by kernel_rfl) (by omega) (by omega); exact this⟩
instance (priority := 1200) (b : Nat) (k : IntKind) : StepC Try.prog (o_indexAddr 140 (.pointer (some ⟨b, 0, none⟩)) (.int k 6)) True (.pointer (some ⟨b, 6, none⟩)) := ⟨fun _ => by have := p_indexAddr_array (P := Try.prog) 140 b 0 8 k 6 1 (by kernel_rfl) (by kernel_rfl) (by kernel_rfl) (by omega) (by omega); exact this⟩
instance (priority := 1200) (b : Nat) (k : IntKind) : StepC Try.prog (o_indexAddr 140 (.pointer (some ⟨b, 0, none⟩)) (.int k 7)) True (.pointer (some ⟨b, 7, none⟩)) := ⟨fun _ => by have := p_indexAddr_array (P := Try.prog) 140 b 0 8 k 7 1 (by kernel_rfl) (by kernel_rfl) (by kernel_rfl) (by omega) (by omega); exact this⟩
instance (b o : Nat) (k : IntKind) (i : Int) : StepC Try.prog (o_indexAddr 140 (.pointer (some ⟨b, o, none⟩)) (.int k i)) (0 ≤ i ∧ i < 8) (.pointer (some ⟨b, o + i.toNat, none⟩)) := ⟨fun h => by have := p_indexAddr_array (P := Try.prog) 140 b o 8 k i 1 (by kernel_rfl) (by kernel_rfl) (by kernel_rfl) h.1 h.2; rwa [Nat.mul_one] at this⟩
instance : ShpC Try.prog 139 false 1 := ⟨by kernel_rfl⟩
instance (a : Int) : StepC Try.prog (o_conv 139 5 (.int .u32 a)) True (.int .u8 (a % 256)) := ⟨fun _ => by have := p_conv_int (P := Try.prog) 139 5 .u32 .u8 a (by kernel_rfl) (by kernel_rfl); rwa [show IntKind.wrap .u8 a = a % 256 by simp [IntKind.wrap, IntKind.bits, IntKind.signed]] at this⟩
instance (b o : Nat) (k : IntKind) (i : Int) : StepC Try.prog (o_indexAddr 34 (.pointer (some ⟨b, o, none⟩)) (.int k i)) (0 ≤ i ∧ i < 32) (.pointer (some ⟨b, o + i.toNat, none⟩)) := ⟨fun h => by have := p_indexAddr_array (P := Try.prog) 34 b o 32 k i 1 (by kernel_rfl) (by kernel_rfl) (by kernel_rfl) h.1 h.2; rwa [Nat.mul_one] at this⟩
instance : FunC Try.prog 95 := ⟨by kernel_rfl⟩
instance : FunC Try.prog 96 := ⟨by kernel_rfl⟩
instance : FunC Try.prog 97 := ⟨by kernel_rfl⟩
instance : FunC Try.prog 98 := ⟨by kernel_rfl⟩
instance : FunC Try.prog 99 := ⟨by kernel_rfl⟩
instance : ZerC Try.prog 141 (List.replicate 64 (.int .u32 0)) := ⟨by kernel_rfl⟩
instance : ShpC Try.prog 141 true 64 := ⟨by kernel_rfl⟩
instance (ty : TypeId) (cs : List Bool) (s : ByteArray) : StepC Try.prog (o_builtin .len #[9] ty cs [.string s]) True (.int .i64 s.size) := ⟨fun _ => p_len_string 9 ty cs s (by kernel_rfl)⟩
instance (b o : Nat) (k : IntKind) (i : Int) : StepC Try.prog (o_indexAddr 141 (.pointer (some ⟨b, o, none⟩)) (.int k i)) (0 ≤ i ∧ i < 64) (.pointer (some ⟨b, o + i.toNat, none⟩)) := ⟨fun h => by have := p_indexAddr_array (P := Try.prog) 141 b o 64 k i 1 (by kernel_rfl) (by kernel_rfl) (by kernel_rfl) h.1 h.2; rwa [Nat.mul_one] at this⟩
instance : FunC Try.prog 107 := ⟨by kernel_rfl⟩
instance : PlC Try.prog 27 0 0 1 := ⟨by kernel_rfl⟩
instance : PlC Try.prog 27 1 1 1 := ⟨by kernel_rfl⟩
instance : FunC Try.prog 109 := ⟨by kernel_rfl⟩
instance : FunC Try.prog 111 := ⟨by kernel_rfl⟩
instance : FunC Try.prog 112 := ⟨by kernel_rfl⟩
instance : FunC Try.prog 113 := ⟨by kernel_rfl⟩
instance : IsSl Try.prog 24 := isSl_of (by kernel_rfl)
instance : IsSl Try.prog 25 := isSl_of (by kernel_rfl)
instance : IsSl Try.prog 29 := isSl_of (by kernel_rfl)
instance (priority := 1100) (b : Nat) : StepC Try.prog (o_fieldAddr 145 (.pointer (some ⟨b, 0, none⟩)) 1) True (.pointer (some ⟨b, 8, none⟩)) := ⟨fun _ => p_fieldAddr 145 b 0 1 8 64 (by kernel_rfl) (by decide)⟩
instance (b o : Nat) (k : IntKind) (l : Int) : StepC Try.prog (o_slice 143 (.pointer (some ⟨b, o, none⟩)) (some (.int k l)) none none) (0 ≤ l ∧ l < 64) (.slice (some ⟨b, o + l.toNat, none⟩) (64 - l.toNat) (64 - l.toNat)) := ⟨fun h => by have := p_slice_array_l (P := Try.prog) 143 b o 64 k l 1 (by kernel_rfl) (by kernel_rfl) (by kernel_rfl) h.1 h.2; rwa [Nat.mul_one] at this⟩
instance (s : ByteArray) (k : IntKind) (l : Int) : StepC Try.prog (o_slice 9 (.string s) (some (.int k l)) none none) (0 ≤ l ∧ l ≤ s.size) (.string (s.extract l.toNat s.size)) := ⟨fun h => p_slice_string_l (P := Try.prog) 9 s k l (by kernel_rfl) h.1 h.2⟩
instance : FunC Try.prog 127 := ⟨by kernel_rfl⟩
instance : ZerF Try.prog 173 [.one (.slice none 0 0), .one (.bool false)] := ⟨by kernel_rfl, inferInstance⟩
instance : BltC Try.prog 173 := ⟨by kernel_rfl⟩
instance : ShpC Try.prog 173 true 2 := ⟨by kernel_rfl⟩
instance : FunC Try.prog 128 := ⟨by kernel_rfl⟩
instance : FunC Try.prog 129 := ⟨by kernel_rfl⟩
instance : IsPt Try.prog 149 := isPt_of (by kernel_rfl)
instance (priority := 1100) (b : Nat) : StepC Try.prog (o_fieldAddr 173 (.pointer (some ⟨b, 0, none⟩)) 1) True (.pointer (some ⟨b, 1, none⟩)) := ⟨fun _ => p_fieldAddr 173 b 0 1 1 1 (by kernel_rfl) (by decide)⟩
instance (priority := 1100) (b : Nat) : StepC Try.prog (o_fieldAddr 173 (.pointer (some ⟨b, 0, none⟩)) 0) True (.pointer (some ⟨b, 0, none⟩)) := ⟨fun _ => p_fieldAddr 173 b 0 0 0 1 (by kernel_rfl) (by decide)⟩
instance : ShpC Try.prog 106 false 1 := ⟨by kernel_rfl⟩
instance (b o n c : Nat) (k : IntKind) (i : Int) : StepC Try.prog (o_indexAddr 106 (.slice (some ⟨b, o, none⟩) n c) (.int k i)) (0 ≤ i ∧ i < n) (.pointer (some ⟨b, o + i.toNat, none⟩)) := ⟨fun h => by have := p_indexAddr_slice (P := Try.prog) 106 b o n c k i 1 (by kernel_rfl) (by kernel_rfl) h.1 h.2; rwa [Nat.mul_one] at this⟩
instance (a : Int) : StepC Try.prog (o_conv 5 139 (.int .u8 a)) (0 ≤ a ∧ a < 256) (.int .u32 a) := ⟨fun h => by have := p_conv_int (P := Try.prog) 5 139 .u8 .u32 a (by kernel_rfl) (by kernel_rfl); rwa [show IntKind.wrap .u32 a = a by simp [IntKind.wrap, IntKind.bits, IntKind.signed]; omega] at this⟩
instance : FunC Try.prog 133 := ⟨by kernel_rfl⟩
instance : FunC Try.prog 151 := ⟨by kernel_rfl⟩
instance (priority := 1100) (b : Nat) : StepC Try.prog (o_fieldAddr 145 (.pointer (some ⟨b, 0, none⟩)) 3) True (.pointer (some ⟨b, 73, none⟩)) := ⟨fun _ => p_fieldAddr 145 b 0 3 73 64 (by kernel_rfl) (by decide)⟩
instance : FunC Try.prog 152 := ⟨by kernel_rfl⟩
instance : ZerF Try.prog 189 [.one (.int .i64 0), .one (.int .i64 0), .one (.int .i64 0), .one (.int .i64 0)] := ⟨by kernel_rfl, inferInstance⟩
instance : BltC Try.prog 189 := ⟨by kernel_rfl⟩
instance : PlC Try.prog 189 0 0 1 := ⟨by kernel_rfl⟩
instance : PlC Try.prog 189 1 1 1 := ⟨by kernel_rfl⟩
instance : PlC Try.prog 189 2 2 1 := ⟨by kernel_rfl⟩
instance : PlC Try.prog 189 3 3 1 := ⟨by kernel_rfl⟩
instance : ShpC Try.prog 189 true 4 := ⟨by kernel_rfl⟩
instance : SliC Try.prog 137 9 1 16 := ⟨by kernel_rfl⟩
instance : SliC Try.prog 41 34 32 32 := ⟨by kernel_rfl⟩
instance : SliC Try.prog 25 96 66 96 := ⟨by kernel_rfl⟩
instance : SliC Try.prog 24 36 97 104 := ⟨by kernel_rfl⟩
instance : SliC Try.prog 29 3 1 8 := ⟨by kernel_rfl⟩
instance : SliC Try.prog 106 5 1 1 := ⟨by kernel_rfl⟩
end Go.Proofs.Ytopcnkejobomaaa
set_option linter.unusedVariables false
namespace Go.Proofs.Ytopcnkejobomaaa
def F_bevylaw08_TreeNames (x0 : Value) (w : World) (R : Ending → World → Prop) : Prop :=
 mj1 (fun j2 =>
 m R (o_call (fv 13) []) w fun x13 w1 =>
 m R (o_un .not x13) w1 fun x14 w2 =>
 mguard x14 false (fun k => m R (o_move x0) w2 k) w2 fun x16 w3 =>
 mguard x14 false (fun k => m R (o_builtin .len #[22] 3 [false] [x16]) w3 k) w3 fun x17 w4 =>
 mguard x14 false (fun k => m R (o_bin .gtr 3 true x17 (.int .i64 100)) w4 k) w4 fun x18 w5 =>
 m R (o_pick x14 (.bool true) x18) w5 fun x19 w6 =>
 j2 x19 w6) fun x19 u2 w7 =>
 mif x19 (
 m R (o_call (fv 13) []) w7 fun x20 w8 =>
 R (.returned x20) w8) (
 m R (o_build 27 []) w7 fun x21 w9 =>
 m R (o_alloc 27) w9 fun x3 w10 =>
 m R (o_store 27 x3 x21) w10 fun _ w11 =>
 m R (o_alloc 67) w11 fun x4 w12 =>
 ml1 (.int .i64 0) w12 fun x5 u6 w13 next6 =>
 m R (o_builtin .len #[22] 3 [false] [x0]) w13 fun x24 w14 =>
 m R (o_bin .lss 3 false x5 x24) w14 fun x25 w15 =>
 mif x25 (
 m R (o_indexAddr 22 x0 x5) w15 fun x30 w16 =>
 m R (o_load 53 x30) w16 fun x31 w17 =>
 m R (o_alloc 53) w17 fun x6 w18 =>
 m R (o_store 53 x6 x31) w18 fun _ w19 =>
 m R (o_load 27 x3) w19 fun x32 w20 =>
 m R (o_load 53 x6) w20 fun x33 w21 =>
 m R (o_call (fv 39) [x32, x33]) w21 fun x34 w22 =>
 mj1 (fun j13 =>
 m R (o_fieldAddr 27 x3 0) w22 fun x36 w23 =>
 m R (o_load 24 x36) w23 fun x37 w24 =>
 m R (o_builtin .len #[24] 3 [false] [x37]) w24 fun x38 w25 =>
 m R (o_bin .lss 3 false x34 x38) w25 fun x39 w26 =>
 mif x39 (
 m R (o_fieldAddr 27 x3 0) w26 fun x40 w27 =>
 m R (o_load 24 x40) w27 fun x41 w28 =>
 m R (o_indexAddr 24 x41 x34) w28 fun x43 w29 =>
 m R (o_fieldAddr 36 x43 0) w29 fun x44 w30 =>
 m R (o_load 3 x44) w30 fun x45 w31 =>
 j13 x45 w31) (
 j13 (.int .i64 0) w26)) fun x8 u13 w32 =>
 m R (o_load 27 x3) w32 fun x46 w33 =>
 m R (o_alloc 27) w33 fun x9 w34 =>
 m R (o_store 27 x9 x46) w34 fun _ w35 =>
 mj1 (fun j27 =>
 m R (o_fieldAddr 53 x6 0) w35 fun x47 w36 =>
 m R (o_load 5 x47) w36 fun x48 w37 =>
 m R (o_bin .rem 5 true x48 (.int .u8 4)) w37 fun x49 w38 =>
 m R (o_bin .eql 5 true x49 (.int .u8 0)) w38 fun x51 w39 =>
 mif x51 (
 m R (o_load 27 x3) w39 fun x53 w40 =>
 m R (o_fieldAddr 53 x6 1) w40 fun x54 w41 =>
 m R (o_load 3 x54) w41 fun x55 w42 =>
 m R (o_build 36 [(0, x55)]) w42 fun x56 w43 =>
 m R (o_call (fv 28) [x53, x56]) w43 fun x57 w44 =>
 m R (o_extract x57 0) w44 fun x58 w45 =>
 m R (o_extract x57 1) w45 fun x59 w46 =>
 m R (o_extract x57 2) w46 fun x60 w47 =>
 m R (o_store 27 x9 x58) w47 fun _ w48 =>
 m R (o_bin .eql 43 true x60 (.int .i64 0)) w48 fun x62 w49 =>
 mif x62 (
 m R (o_fieldAddr 53 x6 1) w49 fun x63 w50 =>
 m R (o_load 3 x63) w50 fun x64 w51 =>
 m R (o_indexAddr 67 x4 x64) w51 fun x65 w52 =>
 m R (o_store 4 x65 (.bool true)) w52 fun _ w53 =>
 j27 x60 w53) (
 j27 x60 w49)) (
 m R (o_bin .eql 5 true x49 (.int .u8 1)) w39 fun x67 w54 =>
 mif x67 (
 m R (o_load 27 x3) w54 fun x69 w55 =>
 m R (o_fieldAddr 53 x6 3) w55 fun x71 w56 =>
 m R (o_load 5 x71) w56 fun x72 w57 =>
 m R (o_build 34 [(0, x72)]) w57 fun x73 w58 =>
 m R (o_call (fv 29) [x69, x34, x73]) w58 fun x74 w59 =>
 m R (o_extract x74 0) w59 fun x75 w60 =>
 m R (o_extract x74 1) w60 fun x76 w61 =>
 m R (o_store 27 x9 x75) w61 fun _ w62 =>
 j27 x76 w62) (
 m R (o_bin .eql 5 true x49 (.int .u8 2)) w54 fun x78 w63 =>
 mif x78 (
 m R (o_load 27 x3) w63 fun x80 w64 =>
 m R (o_call (fv 30) [x80, x34]) w64 fun x82 w65 =>
 m R (o_extract x82 0) w65 fun x83 w66 =>
 m R (o_extract x82 1) w66 fun x84 w67 =>
 m R (o_store 27 x9 x83) w67 fun _ w68 =>
 m R (o_bin .eql 43 true x84 (.int .i64 0)) w68 fun x86 w69 =>
 mif x86 (
 m R (o_indexAddr 67 x4 x8) w69 fun x88 w70 =>
 m R (o_store 4 x88 (.bool false)) w70 fun _ w71 =>
 j27 x84 w71) (
 j27 x84 w69)) (
 m R (o_bin .eql 5 true x49 (.int .u8 3)) w63 fun x90 w72 =>
 mif x90 (
 dq Try.prog w72 (o_load 27 x3) fun x92 =>
 dp Try.prog (o_fieldAddr 53 x6 3) fun x94 =>
 dq Try.prog w72 (o_load 5 x94) fun x95 =>
 dp Try.prog (o_build 34 [(0, x95)]) fun x96 =>
 dq Try.prog w72 (o_load 27 x3) fun x97 =>
 dp Try.prog (o_fieldAddr 53 x6 3) fun x99 =>
 dq Try.prog w72 (o_load 5 x99) fun x100 =>
 df Try.prog w72 (o_call (fv 22) [x97, x34, x100]) true fun x101 w73 =>
 df Try.prog w73 (o_call (fv 23) [x92, x34, x96, x101]) false fun x102 w74 =>
 dp Try.prog (o_extract x102 0) fun x103 =>
 dp Try.prog (o_extract x102 1) fun x104 =>
 df Try.prog w74 (o_store 27 x9 x103) false fun _ w75 =>
 dend w75 fun w76 =>
 j27 x104 w76) (
 j27 (.int .i64 0) w72))))) fun x10 u27 w77 =>
 mj0 (fun j29 =>
 m R (o_bin .eql 43 true x10 (.int .i64 0)) w77 fun x106 w78 =>
 mif x106 (
 m R (o_load 27 x9) w78 fun x107 w79 =>
 m R (o_store 27 x3 x107) w79 fun _ w80 =>
 j29 w80) (
 j29 w78)) fun u29 w81 =>
 ml2 (.int .i64 0) (.int .i64 1) w81 fun x11 x12 u31 w82 next31 =>
 m R (o_bin .leq 3 true x12 (.int .i64 64)) w82 fun x109 w83 =>
 mif x109 (
 mj1 (fun j32 =>
 dp Try.prog (o_indexAddr 67 x4 x12) fun x113 =>
 dq Try.prog w83 (o_load 4 x113) fun x114 =>
 dq Try.prog w83 (o_load 27 x3) fun x115 =>
 df Try.prog w83 (o_call (fv 34) [x115, x12]) true fun x117 w84 =>
 dp Try.prog (o_bin .geq 3 true x117 (.int .i64 0)) fun x118 =>
 dp Try.prog (o_bin .neq 4 false x114 x118) fun x119 =>
 dend w84 fun w85 =>
 mif x119 (
 R (.returned (.bool false)) w85) (
 m R (o_indexAddr 67 x4 x12) w85 fun x121 w86 =>
 m R (o_load 4 x121) w86 fun x122 w87 =>
 mif x122 (
 m R (o_bin .add 3 true x11 (.int .i64 1)) w87 fun x124 w88 =>
 j32 x124 w88) (
 j32 x11 w87))) fun x11 u32 w89 =>
 m R (o_bin .add 3 true x12 (.int .i64 1)) w89 fun x111 w90 =>
 next31 x11 x111 w90) (
 m R (o_load 27 x3) w83 fun x125 w91 =>
 m R (o_call (fv 37) [x125]) w91 fun x126 w92 =>
 m R (o_builtin .len #[29] 3 [false] [x126]) w92 fun x127 w93 =>
 m R (o_bin .neq 3 false x127 x11) w93 fun x129 w94 =>
 mif x129 (
 R (.returned (.bool false)) w94) (
 m R (o_bin .add 3 true x5 (.int .i64 1)) w94 fun x27 w95 =>
 next6 x27 w95))) (
 R (.returned (.bool true)) w15))
def A_bevylaw08_TreeNames : Ann := ⟨[(6, [5], 1361129467683753853853498429727068659684), (31, [11, 12], 42534971346563649506195042772950456324)], [(2, [19], 1040384), (13, [8], 70334384439552), (27, [10], 40564819207303340707157014217728), (29, [], 283953734451123385935261518004224), (32, [11], 42530103568258773105293295432641808388)], [(26, [⟨0, .q (some 0), 8, 0, 4951760157141521099596496896⟩, ⟨1, .q none, 128, 0, 9903520314283042199192993792⟩, ⟨2, .q none, 64, 0, 19807040628566084398385987584⟩, ⟨3, .q (some 0), 19807040628566084398385987584, 4, 39614081257132168796771975168⟩, ⟨4, .q none, 39614081257132168796771975168, 12, 79228162514264337593543950336⟩, ⟨5, .q (some 0), 8, 0, 158456325028528675187087900672⟩, ⟨6, .q none, 128, 0, 316912650057057350374175801344⟩, ⟨7, .q none, 64, 0, 633825300114114700748351602688⟩, ⟨8, .q (some 0), 633825300114114700748351602688, 128, 1267650600228229401496703205376⟩, ⟨9, .f 0 true, 1743019575313815427057966907392, 480, 2535301200456458802993406410752⟩, ⟨10, .f 1 false, 2629384643442147703885739851776, 1023, 5070602400912917605986812821504⟩, ⟨11, .q none, 5070602400912917605986812821504, 2047, 2475880078570760549798248448⟩, ⟨12, .q none, 2475880078570760549798248448, 4095, 10141204801825835211973625643008⟩, ⟨13, .q none, 2475880078570760549798248448, 4095, 20282409603651670423947251286016⟩, ⟨14, .f 2 false, 10141204801825835211973625643520, 8191, 0⟩, ⟨15, .q none, 20282409603651670423947251286016, 32767, 1024⟩]), (33, [⟨0, .q none, 4096, 0, 5192296858534827628530496329220096⟩, ⟨1, .q none, 5192296858534827628530496329220112, 1, 10384593717069655257060992658440192⟩, ⟨2, .q (some 0), 10384593717069655257060992658440192, 3, 20769187434139310514121985316880384⟩, ⟨3, .q (some 0), 8, 0, 41538374868278621028243970633760768⟩, ⟨4, .q none, 4096, 0, 83076749736557242056487941267521536⟩, ⟨5, .f 0 true, 124615124604835863084731911901282304, 24, 166153499473114484112975882535043072⟩, ⟨6, .q none, 166153499473114484112975882535043072, 56, 332306998946228968225951765070086144⟩, ⟨7, .q none, 353076186380368278740073750386966528, 127, 664613997892457936451903530140172288⟩])], [], []⟩
theorem E_bevylaw08_TreeNames (x0 : Value) (w : World) (R : Ending → World → Prop) : cwp Try.prog A_bevylaw08_TreeNames (Try.f9.body.getD .skip) (retPost Try.prog Try.f9.results.toList R) (argE [x0]) w = F_bevylaw08_TreeNames x0 w R := by kernel_rfl
theorem C_bevylaw08_TreeNames {x0 : Value} {w : World} {R : Ending → World → Prop} (h : F_bevylaw08_TreeNames x0 w R) : Calls Try.prog 9 #[x0] w R :=
 calls_cwp (A := A_bevylaw08_TreeNames) (args := [x0]) mixed Try.func9 (c := Try.f9.body.getD .skip) (by kernel_rfl) (by kernel_rfl) (by kernel_rfl) ((E_bevylaw08_TreeNames x0 w R).mpr h)
def F_bevylaw08_awake (w : World) (R : Ending → World → Prop) : Prop :=
 m R (o_alloc 27) w fun x1 w1 =>
 m R (o_build 92 [(0, (.int .i64 5)), (1, (.int .i64 2)), (2, (.int .i64 9))]) w1 fun x11 w2 =>
 ml1 (.int .i64 0) w2 fun x12 u4 w3 next4 =>
 m R (o_bin .lss 3 true x12 (.int .i64 3)) w3 fun x13 w4 =>
 mif x13 (
 m R (o_index 92 x11 x12) w4 fun x15 w5 =>
 m R (o_load 27 x1) w5 fun x17 w6 =>
 m R (o_build 36 [(0, x15)]) w6 fun x19 w7 =>
 m R (o_call (fv 28) [x17, x19]) w7 fun x20 w8 =>
 m R (o_extract x20 0) w8 fun x21 w9 =>
 m R (o_extract x20 1) w9 fun x22 w10 =>
 m R (o_extract x20 2) w10 fun x23 w11 =>
 m R (o_store 27 x1 x21) w11 fun _ w12 =>
 mj1 (fun j9 =>
 m R (o_bin .neq 43 true x23 (.int .i64 0)) w12 fun x25 w13 =>
 mguard x25 false (fun k => m R (o_move x22) w13 k) w13 fun x27 w14 =>
 mguard x25 false (fun k => m R (o_move x12) w14 k) w14 fun x28 w15 =>
 mguard x25 false (fun k => m R (o_bin .neq 3 false x27 x28) w15 k) w15 fun x29 w16 =>
 m R (o_pick x25 (.bool true) x29) w16 fun x30 w17 =>
 j9 x30 w17) fun x30 u9 w18 =>
 mif x30 (
 R (.returned (.bool false)) w18) (
 m R (o_bin .add 3 true x12 (.int .i64 1)) w18 fun x31 w19 =>
 next4 x31 w19)) (
 m R (o_load 27 x1) w4 fun x33 w20 =>
 m R (o_call (fv 30) [x33, (.int .i64 1)]) w20 fun x34 w21 =>
 m R (o_extract x34 0) w21 fun x35 w22 =>
 m R (o_extract x34 1) w22 fun x36 w23 =>
 m R (o_store 27 x1 x35) w23 fun _ w24 =>
 m R (o_load 27 x1) w24 fun x38 w25 =>
 m R (o_build 36 [(0, (.int .i64 7))]) w25 fun x39 w26 =>
 m R (o_call (fv 28) [x38, x39]) w26 fun x40 w27 =>
 m R (o_extract x40 0) w27 fun x41 w28 =>
 m R (o_extract x40 1) w28 fun x42 w29 =>
 m R (o_extract x40 2) w29 fun x43 w30 =>
 m R (o_alloc 27) w30 fun x6 w31 =>
 m R (o_store 27 x6 x41) w31 fun _ w32 =>
 m R (o_load 27 x6) w32 fun x45 w33 =>
 m R (o_call (fv 30) [x45, (.int .i64 2)]) w33 fun x46 w34 =>
 m R (o_extract x46 0) w34 fun x47 w35 =>
 m R (o_extract x46 1) w35 fun x48 w36 =>
 m R (o_alloc 27) w36 fun x9 w37 =>
 m R (o_store 27 x9 x47) w37 fun _ w38 =>
 m R (o_bin .eql 43 true x36 (.int .i64 0)) w38 fun x50 w39 =>
 mguard x50 true (fun k => m R (o_move x43) w39 k) w39 fun x52 w40 =>
 mguard x50 true (fun k => m R (o_bin .eql 43 true x52 (.int .i64 0)) w40 k) w40 fun x53 w41 =>
 m R (o_pick x50 x53 (.bool false)) w41 fun x54 w42 =>
 mguard x54 true (fun k => m R (o_move x42) w42 k) w42 fun x56 w43 =>
 mguard x54 true (fun k => m R (o_bin .eql 3 true x56 (.int .i64 1)) w43 k) w43 fun x57 w44 =>
 m R (o_pick x54 x57 (.bool false)) w44 fun x58 w45 =>
 mguard x58 true (fun k => m R (o_move x48) w45 k) w45 fun x60 w46 =>
 mguard x58 true (fun k => m R (o_bin .eql 43 true x60 (.int .i64 0)) w46 k) w46 fun x61 w47 =>
 m R (o_pick x58 x61 (.bool false)) w47 fun x62 w48 =>
 mguard x62 true (fun k => m R (o_fieldAddr 27 x9 0) w48 k) w48 fun x64 w49 =>
 mguard x62 true (fun k => m R (o_load 24 x64) w49 k) w49 fun x65 w50 =>
 mguard x62 true (fun k => m R (o_builtin .len #[24] 3 [false] [x65]) w50 k) w50 fun x66 w51 =>
 mguard x62 true (fun k => m R (o_bin .eql 3 true x66 (.int .i64 2)) w51 k) w51 fun x67 w52 =>
 m R (o_pick x62 x67 (.bool false)) w52 fun x68 w53 =>
 mguard x68 true (fun k => m R (o_load 27 x9) w53 k) w53 fun x70 w54 =>
 mguard x68 true (fun k => m R (o_call (fv 27) [x70]) w54 k) w54 fun x71 w55 =>
 m R (o_pick x68 x71 (.bool false)) w55 fun x72 w56 =>
 R (.returned x72) w56)
def A_bevylaw08_awake : Ann := ⟨[(4, [12], 4294963261)], [(9, [30], 2130706432)], [], [], []⟩
theorem E_bevylaw08_awake (w : World) (R : Ending → World → Prop) : cwp Try.prog A_bevylaw08_awake (Try.f13.body.getD .skip) (retPost Try.prog Try.f13.results.toList R) (argE []) w = F_bevylaw08_awake w R := by kernel_rfl
theorem C_bevylaw08_awake {w : World} {R : Ending → World → Prop} (h : F_bevylaw08_awake w R) : Calls Try.prog 13 #[] w R :=
 calls_cwp (A := A_bevylaw08_awake) (args := []) mixed Try.func13 (c := Try.f13.body.getD .skip) (by kernel_rfl) (by kernel_rfl) (by kernel_rfl) ((E_bevylaw08_awake w R).mpr h)
def F_bevylaw08_keys (x0 x1 x2 : Value) (w : World) (R : Ending → World → Prop) : Prop :=
 m R (o_box 27 x0) w fun x3 w1 =>
 ml2 (.slice none 0 0) (.int .i64 0) w1 fun x7 x8 u3 w2 next3 =>
 m R (o_fieldAddr 27 x3 0) w2 fun x10 w3 =>
 m R (o_load 24 x10) w3 fun x11 w4 =>
 m R (o_builtin .len #[24] 3 [false] [x11]) w4 fun x12 w5 =>
 m R (o_call (fv 58) [x12, x1]) w5 fun x14 w6 =>
 m R (o_builtin .len #[29] 3 [false] [x14]) w6 fun x15 w7 =>
 m R (o_bin .lss 3 false x8 x15) w7 fun x16 w8 =>
 mif x16 (
 m R (o_conv 3 5 x8) w8 fun x22 w9 =>
 m R (o_build 34 [(0, x2), (1, x22)]) w9 fun x23 w10 =>
 m R (o_buildSlice 41 1 [(0, x23)]) w10 fun x24 w11 =>
 m R (o_builtin .append #[41, 41] 41 [false, false] [x7, x24]) w11 fun x25 w12 =>
 m R (o_bin .add 3 true x8 (.int .i64 1)) w12 fun x18 w13 =>
 next3 x25 x18 w13) (
 mj1 (fun j8 =>
 m R (o_bin .geq 5 true x2 (.int .u8 200)) w8 fun x27 w14 =>
 mif x27 (
 m R (o_build 34 [(0, x2)]) w14 fun x30 w15 =>
 m R (o_buildSlice 41 1 [(0, x30)]) w15 fun x31 w16 =>
 m R (o_builtin .append #[41, 41] 41 [false, false] [x7, x31]) w16 fun x32 w17 =>
 j8 x32 w17) (
 j8 x7 w14)) fun x7 u8 w18 =>
 R (.returned x7) w18)
def A_bevylaw08_keys : Ann := ⟨[(3, [7, 8], 67108736)], [(8, [7], 8522825856)], [], [], []⟩
theorem E_bevylaw08_keys (x0 x1 x2 : Value) (w : World) (R : Ending → World → Prop) : cwp Try.prog A_bevylaw08_keys (Try.f22.body.getD .skip) (retPost Try.prog Try.f22.results.toList R) (argE [x0, x1, x2]) w = F_bevylaw08_keys x0 x1 x2 w R := by kernel_rfl
theorem C_bevylaw08_keys {x0 x1 x2 : Value} {w : World} {R : Ending → World → Prop} (h : F_bevylaw08_keys x0 x1 x2 w R) : Calls Try.prog 22 #[x0, x1, x2] w R :=
 calls_cwp (A := A_bevylaw08_keys) (args := [x0, x1, x2]) mixed Try.func22 (c := Try.f22.body.getD .skip) (by kernel_rfl) (by kernel_rfl) (by kernel_rfl) ((E_bevylaw08_keys x0 x1 x2 w R).mpr h)
def F_tree_Path (x0 x1 x2 x3 : Value) (w : World) (R : Ending → World → Prop) : Prop :=
 m R (o_box 27 x0) w fun x4 w1 =>
 m R (o_box 34 x2) w1 fun x6 w2 =>
 m R (o_alloc 27) w2 fun x8 w3 =>
 m R (o_load 27 x4) w3 fun x17 w4 =>
 m R (o_call (fv 27) [x17]) w4 fun x18 w5 =>
 m R (o_un .not x18) w5 fun x19 w6 =>
 mif x19 (
 m R (o_build 27 []) w6 fun x20 w7 =>
 m R (o_store 27 x8 x20) w7 fun _ w8 =>
 rcell Try.prog 27 x8 w8 fun r8 =>
 R (.returned (.tuple #[r8, (.int .i64 1)])) w8) (
 m R (o_load 27 x4) w6 fun x22 w9 =>
 m R (o_call (fv 59) [x22, x1]) w9 fun x24 w10 =>
 mif x24 (
 m R (o_build 27 []) w10 fun x25 w11 =>
 m R (o_store 27 x8 x25) w11 fun _ w12 =>
 rcell Try.prog 27 x8 w12 fun r8 =>
 R (.returned (.tuple #[r8, (.int .i64 7)])) w12) (
 m R (o_fieldAddr 27 x4 0) w10 fun x26 w13 =>
 m R (o_load 24 x26) w13 fun x27 w14 =>
 m R (o_builtin .len #[24] 3 [false] [x27]) w14 fun x28 w15 =>
 m R (o_call (fv 60) [x28, x1]) w15 fun x31 w16 =>
 m R (o_builtin .len #[29] 3 [false] [x31]) w16 fun x33 w17 =>
 m R (o_builtin .len #[41] 3 [false] [x3]) w17 fun x35 w18 =>
 m R (o_bin .neq 3 false x33 x35) w18 fun x36 w19 =>
 mif x36 (
 m R (o_build 27 []) w19 fun x37 w20 =>
 m R (o_store 27 x8 x37) w20 fun _ w21 =>
 rcell Try.prog 27 x8 w21 fun r8 =>
 R (.returned (.tuple #[r8, (.int .i64 16)])) w21) (
 m R (o_load 27 x4) w19 fun x38 w22 =>
 m R (o_call (fv 61) [x38]) w22 fun x39 w23 =>
 m R (o_store 27 x4 x39) w23 fun _ w24 =>
 m R (o_build 34 []) w24 fun x40 w25 =>
 m R (o_alloc 34) w25 fun x12 w26 =>
 m R (o_store 34 x12 x40) w26 fun _ w27 =>
 m R (o_builtin .len #[29] 3 [false] [x31]) w27 fun x42 w28 =>
 m R (o_bin .sub 3 true x42 (.int .i64 1)) w28 fun x43 w29 =>
 ml1 x43 w29 fun x13 u12 w30 next12 =>
 m R (o_bin .geq 3 true x13 (.int .i64 0)) w30 fun x45 w31 =>
 mif x45 (
 dp Try.prog (o_fieldAddr 27 x4 1) fun x48 =>
 dq Try.prog w31 (o_load 25 x48) fun x49 =>
 dp Try.prog (o_indexAddr 29 x31 x13) fun x52 =>
 dq Try.prog w31 (o_load 3 x52) fun x53 =>
 dp Try.prog (o_bin .quo 3 true x53 (.int .i64 2)) fun x54 =>
 dp Try.prog (o_indexAddr 41 x3 x13) fun x57 =>
 dq Try.prog w31 (o_load 34 x57) fun x58 =>
 dq Try.prog w31 (o_load 34 x12) fun x59 =>
 dp Try.prog (o_build 96 [(0, (.bool true)), (1, x58), (2, x59)]) fun x60 =>
 dp Try.prog (o_indexAddr 25 x49 x54) fun x61 =>
 df Try.prog w31 (o_store 96 x61 x60) false fun _ w32 =>
 dend w32 fun w33 =>
 m R (o_bin .mul 3 true (.int .i64 2) x1) w33 fun x63 w34 =>
 mj1 (fun j18 =>
 m R (o_bin .gtr 3 true x13 (.int .i64 0)) w34 fun x65 w35 =>
 mif x65 (
 m R (o_bin .sub 3 true x13 (.int .i64 1)) w35 fun x68 w36 =>
 m R (o_indexAddr 29 x31 x68) w36 fun x69 w37 =>
 m R (o_load 3 x69) w37 fun x70 w38 =>
 j18 x70 w38) (
 j18 x63 w35)) fun x14 u18 w39 =>
 mj1 (fun j19 =>
 ((
 dq Try.prog w39 (o_load 27 x4) fun x71 =>
 df Try.prog w39 (o_call (fv 63) [x28, x14]) true fun x74 w40 =>
 df Try.prog w40 (o_call (fv 62) [x71, x74]) false fun x75 w41 =>
 df Try.prog w41 (o_alloc 34) true fun x15 w42 =>
 df Try.prog w42 (o_store 34 x15 x75) false fun _ w43 =>
 dend w43 fun w44 =>
 j19 x15 w44) ∧ (
 dq Try.prog w39 (o_load 27 x4) fun x71 =>
 df Try.prog w39 (o_call (fv 63) [x28, x14]) true fun x74 w45 =>
 df Try.prog w45 (o_alloc 34) true fun x15 w46 =>
 df Try.prog w46 (o_call (fv 62) [x71, x74]) false fun x75 w47 =>
 df Try.prog w47 (o_store 34 x15 x75) false fun _ w48 =>
 dend w48 fun w49 =>
 j19 x15 w49) ∧ (
 dq Try.prog w39 (o_load 27 x4) fun x71 =>
 df Try.prog w39 (o_alloc 34) true fun x15 w50 =>
 df Try.prog w50 (o_call (fv 63) [x28, x14]) true fun x74 w51 =>
 df Try.prog w51 (o_call (fv 62) [x71, x74]) false fun x75 w52 =>
 df Try.prog w52 (o_store 34 x15 x75) false fun _ w53 =>
 dend w53 fun w54 =>
 j19 x15 w54))) fun x15 u19 w55 =>
 dp Try.prog (o_indexAddr 41 x3 x13) fun x78 =>
 dp Try.prog (o_slice 34 x78 none none none) fun x79 =>
 dq Try.prog w55 (o_conv 106 9 x79) fun x80 =>
 dp Try.prog (o_slice 34 x12 none none none) fun x81 =>
 dq Try.prog w55 (o_conv 106 9 x81) fun x82 =>
 dp Try.prog (o_slice 34 x15 none none none) fun x83 =>
 dq Try.prog w55 (o_conv 106 9 x83) fun x84 =>
 df Try.prog w55 (o_buildSlice 137 4 [(0, (.string (ByteArray.mk #[97, 98, 111, 118, 101]))), (1, x80), (2, x82), (3, x84)]) false fun x85 w56 =>
 df Try.prog w56 (o_call (fv 53) [x85]) false fun x86 w57 =>
 df Try.prog w57 (o_store 34 x12 x86) false fun _ w58 =>
 dend w58 fun w59 =>
 m R (o_bin .sub 3 true x13 (.int .i64 1)) w59 fun x47 w60 =>
 next12 x47 w60) (
 ∃ S : Rl,
 dp Try.prog (o_fieldAddr 27 x4 0) fun x87 =>
 dqS Try.prog S w31 (o_load 24 x87) fun x88 =>
 dp Try.prog (o_fieldAddr 27 x4 0) fun x90 =>
 dqS Try.prog S w31 (o_load 24 x90) fun x91 =>
 dqS Try.prog S w31 (o_load 34 x6) fun x93 =>
 dqS Try.prog S w31 (o_load 34 x12) fun x94 =>
 dp Try.prog (o_indexAddr 24 x88 x1) fun x95 =>
 dp Try.prog (o_fieldAddr 36 x95 1) fun x96 =>
 dfS Try.prog S w31 (o_store 34 x96 x93) true fun _ w61 =>
 dp Try.prog (o_indexAddr 24 x91 x1) fun x97 =>
 dp Try.prog (o_fieldAddr 36 x97 3) fun x98 =>
 dfS Try.prog S w61 (o_store 34 x98 x94) false fun _ w62 =>
 dend w62 fun w63 =>
 m R (o_load 27 x4) w63 fun x99 w64 =>
 m R (o_store 27 x8 x99) w64 fun _ w65 =>
 rcell Try.prog 27 x8 w65 fun r8 =>
 R (.returned (.tuple #[r8, (.int .i64 0)])) w65))))
def A_tree_Path : Ann := ⟨[(12, [13], 154742504910654942176403456)], [(18, [14], 2342736497361113071616), (19, [15], 73196680484479500845056)], [(14, [⟨0, .q none, 16, 0, 281474976710656⟩, ⟨1, .q (some 0), 281474976710656, 1, 562949953421312⟩, ⟨2, .q none, 2048, 0, 1125899906842624⟩, ⟨3, .q none, 8192, 0, 2251799813685248⟩, ⟨4, .q none, 3377699720527872, 12, 4503599627370496⟩, ⟨5, .q (some 0), 4503599627370496, 28, 9007199254740992⟩, ⟨6, .q none, 9007199254740992, 60, 18014398509481984⟩, ⟨7, .q none, 8, 0, 36028797018963968⟩, ⟨8, .q none, 8192, 0, 72057594037927936⟩, ⟨9, .q none, 108086391056891904, 384, 144115188075855872⟩, ⟨10, .q (some 0), 144115188075855872, 896, 288230376151711744⟩, ⟨11, .q (some 0), 4096, 0, 576460752303423488⟩, ⟨12, .q none, 864691128455135232, 3968, 1152921504606846976⟩, ⟨13, .q none, 18577348462903296, 8191, 2305843009213693952⟩, ⟨14, .f 0 false, 3458764513820540928, 16383, 0⟩]), (19, [⟨0, .q none, 8, 0, 75557863725914323419136⟩, ⟨1, .q none, 8192, 0, 151115727451828646838272⟩, ⟨2, .q none, 226673591177742970257408, 3, 302231454903657293676544⟩, ⟨3, .q none, 302231454903657293676544, 7, 604462909807314587353088⟩, ⟨4, .q (some 0), 604462909807314587353088, 15, 1208925819614629174706176⟩, ⟨5, .q none, 4096, 0, 2417851639229258349412352⟩, ⟨6, .q (some 0), 2417851639229258349412352, 32, 4835703278458516698824704⟩, ⟨7, .q none, 32768, 0, 9671406556917033397649408⟩, ⟨8, .q (some 0), 9671406556917033397649408, 128, 19342813113834066795298816⟩, ⟨9, .f 0 false, 25387442211907212668829696, 511, 38685626227668133590597632⟩, ⟨10, .f 1 false, 38685626227668133590597632, 1023, 77371252455336267181195264⟩, ⟨11, .f 2 false, 77371252455336267181199360, 2047, 0⟩]), (20, [⟨0, .q none, 16, 0, 154742504910672534362390528⟩, ⟨1, .q (some 0), 154742504910672534362390528, 1, 309485009821345068724781056⟩, ⟨2, .q none, 2, 0, 618970019642690137449562112⟩, ⟨3, .q none, 16, 0, 1237940039285380274899124224⟩, ⟨4, .q (some 0), 1237940039285380274899124224, 8, 2475880078570760549798248448⟩, ⟨5, .q none, 2, 0, 4951760157141521099596496896⟩, ⟨6, .q (some 0), 64, 0, 9903520314283042199192993792⟩, ⟨7, .q (some 0), 4096, 0, 19807040628566084398385987584⟩, ⟨8, .q none, 928455029464035206174343168, 199, 39614081257132168796771975168⟩, ⟨9, .q none, 39614081257132168796771975168, 455, 79228162514264337593543950336⟩, ⟨10, .f 0 true, 89131682828547379792736944128, 967, 0⟩, ⟨11, .q none, 7427640235712281649394745344, 2047, 158456325028528675187087900672⟩, ⟨12, .q none, 158456325028528675187087900672, 4095, 316912650057057350374175801344⟩, ⟨13, .f 1 false, 336719690685623434772561788928, 8191, 0⟩])], [(18, [⟨[0, 1, 2, 3, 4, 5, 6], [⟨0, .q (some 0), 16, 0, 2361183241434822606848⟩, ⟨1, .q none, 1024, 0, 4722366482869645213696⟩, ⟨2, .q none, 16384, 0, 9444732965739290427392⟩, ⟨3, .f 0 true, 14167099448608935641088, 6, 18889465931478580854784⟩, ⟨4, .f 1 false, 21250649172913403461632, 15, 37778931862957161709568⟩, ⟨5, .f 2 true, 0, 0, 32768⟩, ⟨6, .f 3 false, 37778931862957161742336, 63, 0⟩]⟩, ⟨[0, 1, 2, 3, 5, 4, 6], [⟨0, .q (some 0), 16, 0, 2361183241434822606848⟩, ⟨1, .q none, 1024, 0, 4722366482869645213696⟩, ⟨2, .q none, 16384, 0, 9444732965739290427392⟩, ⟨3, .f 0 true, 14167099448608935641088, 6, 18889465931478580854784⟩, ⟨4, .f 2 false, 21250649172913403461632, 15, 37778931862957161709568⟩, ⟨5, .f 1 true, 0, 0, 32768⟩, ⟨6, .f 3 false, 37778931862957161742336, 63, 0⟩]⟩, ⟨[0, 1, 2, 5, 3, 4, 6], [⟨0, .q (some 0), 16, 0, 2361183241434822606848⟩, ⟨1, .q none, 1024, 0, 4722366482869645213696⟩, ⟨2, .q none, 16384, 0, 9444732965739290427392⟩, ⟨3, .f 1 true, 14167099448608935641088, 6, 18889465931478580854784⟩, ⟨4, .f 2 false, 21250649172913403461632, 15, 37778931862957161709568⟩, ⟨5, .f 0 true, 0, 0, 32768⟩, ⟨6, .f 3 false, 37778931862957161742336, 63, 0⟩]⟩])], [20]⟩
theorem E_tree_Path (x0 x1 x2 x3 : Value) (w : World) (R : Ending → World → Prop) : cwp Try.prog A_tree_Path (Try.f23.body.getD .skip) (retPost Try.prog Try.f23.results.toList R) (argE [x0, x1, x2, x3]) w = F_tree_Path x0 x1 x2 x3 w R := by kernel_rfl
theorem C_tree_Path {x0 x1 x2 x3 : Value} {w : World} {R : Ending → World → Prop} (h : F_tree_Path x0 x1 x2 x3 w R) : Calls Try.prog 23 #[x0, x1, x2, x3] w R :=
 calls_cwp (A := A_tree_Path) (args := [x0, x1, x2, x3]) mixed Try.func23 (c := Try.f23.body.getD .skip) (by kernel_rfl) (by kernel_rfl) (by kernel_rfl) ((E_tree_Path x0 x1 x2 x3 w R).mpr h)
def F_tree_Right (x0 : Value) (w : World) (R : Ending → World → Prop) : Prop :=
 m R (o_box 27 x0) w fun x1 w1 =>
 m R (o_fieldAddr 27 x1 0) w1 fun x11 w2 =>
 m R (o_load 24 x11) w2 fun x12 w3 =>
 m R (o_builtin .len #[24] 3 [false] [x12]) w3 fun x13 w4 =>
 mj1 (fun j3 =>
 m R (o_bin .gtr 3 true x13 (.int .i64 64)) w4 fun x15 w5 =>
 mguard x15 false (fun k => m R (o_fieldAddr 27 x1 1) w5 k) w5 fun x17 w6 =>
 mguard x15 false (fun k => m R (o_load 25 x17) w6 k) w6 fun x18 w7 =>
 mguard x15 false (fun k => m R (o_builtin .len #[25] 3 [false] [x18]) w7 k) w7 fun x19 w8 =>
 mguard x15 false (fun k => m R (o_move x13) w8 k) w8 fun x20 w9 =>
 mguard x15 false (fun k => m R (o_bin .sub 3 true x20 (.int .i64 1)) w9 k) w9 fun x21 w10 =>
 mguard x15 false (fun k => m R (o_builtin .max #[3, 3] 3 [false, true] [x21, (.int .i64 0)]) w10 k) w10 fun x22 w11 =>
 mguard x15 false (fun k => m R (o_bin .neq 3 false x19 x22) w11 k) w11 fun x23 w12 =>
 m R (o_pick x15 (.bool true) x23) w12 fun x24 w13 =>
 j3 x24 w13) fun x24 u3 w14 =>
 mif x24 (
 R (.returned (.bool false)) w14) (
 m R (o_alloc 67) w14 fun x4 w15 =>
 m R (o_fieldAddr 27 x1 0) w15 fun x25 w16 =>
 m R (o_load 24 x25) w16 fun x26 w17 =>
 m R (o_builtin .len #[24] 3 [false] [x26]) w17 fun x27 w18 =>
 ml1 (.int .i64 0) w18 fun x28 u6 w19 next6 =>
 m R (o_bin .lss 3 false x28 x27) w19 fun x29 w20 =>
 mif x29 (
 mj0 (fun j12 =>
 m R (o_indexAddr 24 x26 x28) w20 fun x30 w21 =>
 m R (o_load 36 x30) w21 fun x31 w22 =>
 m R (o_alloc 36) w22 fun x6 w23 =>
 m R (o_store 36 x6 x31) w23 fun _ w24 =>
 m R (o_load 36 x6) w24 fun x33 w25 =>
 m R (o_build 36 []) w25 fun x34 w26 =>
 m R (o_bin .eql 36 false x33 x34) w26 fun x35 w27 =>
 mif x35 (
 j12 w27) (
 mj1 (fun j10 =>
 m R (o_fieldAddr 36 x6 0) w27 fun x37 w28 =>
 m R (o_load 3 x37) w28 fun x38 w29 =>
 m R (o_bin .lss 3 true x38 (.int .i64 1)) w29 fun x39 w30 =>
 mguard x39 false (fun k => m R (o_fieldAddr 36 x6 0) w30 k) w30 fun x41 w31 =>
 mguard x39 false (fun k => m R (o_load 3 x41) w31 k) w31 fun x42 w32 =>
 mguard x39 false (fun k => m R (o_bin .gtr 3 true x42 (.int .i64 64)) w32 k) w32 fun x43 w33 =>
 m R (o_pick x39 (.bool true) x43) w33 fun x44 w34 =>
 mguard x44 false (fun k => m R (o_fieldAddr 36 x6 0) w34 k) w34 fun x46 w35 =>
 mguard x44 false (fun k => m R (o_load 3 x46) w35 k) w35 fun x47 w36 =>
 mguard x44 false (fun k => m R (o_indexAddr 67 x4 x47) w36 k) w36 fun x48 w37 =>
 mguard x44 false (fun k => m R (o_load 4 x48) w37 k) w37 fun x49 w38 =>
 m R (o_pick x44 (.bool true) x49) w38 fun x50 w39 =>
 j10 x50 w39) fun x36 u10 w40 =>
 mif x36 (
 R (.returned (.bool false)) w40) (
 m R (o_fieldAddr 36 x6 0) w40 fun x51 w41 =>
 m R (o_load 3 x51) w41 fun x52 w42 =>
 m R (o_indexAddr 67 x4 x52) w42 fun x53 w43 =>
 m R (o_store 4 x53 (.bool true)) w43 fun _ w44 =>
 j12 w44))) fun u12 w45 =>
 m R (o_bin .add 3 true x28 (.int .i64 1)) w45 fun x54 w46 =>
 next6 x54 w46) (
 m R (o_fieldAddr 27 x1 1) w20 fun x55 w47 =>
 m R (o_load 25 x55) w47 fun x56 w48 =>
 m R (o_builtin .len #[25] 3 [false] [x56]) w48 fun x57 w49 =>
 ml1 (.int .i64 0) w49 fun x58 u14 w50 next14 =>
 m R (o_bin .lss 3 false x58 x57) w50 fun x59 w51 =>
 mif x59 (
 m R (o_indexAddr 25 x56 x58) w51 fun x61 w52 =>
 m R (o_load 96 x61) w52 fun x62 w53 =>
 m R (o_alloc 96) w53 fun x8 w54 =>
 m R (o_store 96 x8 x62) w54 fun _ w55 =>
 mj1 (fun j17 =>
 m R (o_fieldAddr 96 x8 0) w55 fun x63 w56 =>
 m R (o_load 4 x63) w56 fun x64 w57 =>
 m R (o_un .not x64) w57 fun x65 w58 =>
 mguard x65 true (fun k => m R (o_load 96 x8) w58 k) w58 fun x67 w59 =>
 mguard x65 true (fun k => m R (o_call (fv 67) [x67]) w59 k) w59 fun x68 w60 =>
 mguard x65 true (fun k => m R (o_un .not x68) w60 k) w60 fun x69 w61 =>
 m R (o_pick x65 x69 (.bool false)) w61 fun x70 w62 =>
 j17 x70 w62) fun x70 u17 w63 =>
 mif x70 (
 R (.returned (.bool false)) w63) (
 m R (o_fieldAddr 96 x8 3) w63 fun x71 w64 =>
 m R (o_load 29 x71) w64 fun x72 w65 =>
 m R (o_builtin .len #[29] 3 [false] [x72]) w65 fun x73 w66 =>
 ml1 (.int .i64 0) w66 fun x74 u19 w67 next19 =>
 m R (o_bin .lss 3 false x74 x73) w67 fun x75 w68 =>
 mif x75 (
 m R (o_indexAddr 29 x72 x74) w68 fun x77 w69 =>
 m R (o_load 3 x77) w69 fun x78 w70 =>
 mj1 (fun j22 =>
 m R (o_bin .mul 3 true (.int .i64 2) x58) w70 fun x81 w71 =>
 m R (o_bin .add 3 true x81 (.int .i64 1)) w71 fun x82 w72 =>
 m R (o_call (fv 68) [x13, x82, x78]) w72 fun x84 w73 =>
 m R (o_un .not x84) w73 fun x85 w74 =>
 mguard x85 false (fun k => m R (o_fieldAddr 27 x1 0) w74 k) w74 fun x87 w75 =>
 mguard x85 false (fun k => m R (o_load 24 x87) w75 k) w75 fun x88 w76 =>
 mguard x85 false (fun k => m R (o_move x78) w76 k) w76 fun x89 w77 =>
 mguard x85 false (fun k => m R (o_indexAddr 24 x88 x89) w77 k) w77 fun x90 w78 =>
 mguard x85 false (fun k => m R (o_fieldAddr 36 x90 0) w78 k) w78 fun x91 w79 =>
 mguard x85 false (fun k => m R (o_load 3 x91) w79 k) w79 fun x92 w80 =>
 mguard x85 false (fun k => m R (o_bin .eql 3 true x92 (.int .i64 0)) w80 k) w80 fun x93 w81 =>
 m R (o_pick x85 (.bool true) x93) w81 fun x94 w82 =>
 mguard x94 false (fun k => m R (o_move x74) w82 k) w82 fun x96 w83 =>
 mguard x94 false (fun k => m R (o_bin .gtr 3 true x96 (.int .i64 0)) w83 k) w83 fun x97 w84 =>
 mguard x94 false (fun k => m R (o_move x97) w84 k) w84 fun x98 w85 =>
 mguard x98 true (fun k => m R (o_move x78) w85 k) w85 fun x99 w86 =>
 mguard x98 true (fun k => m R (o_fieldAddr 96 x8 3) w86 k) w86 fun x100 w87 =>
 mguard x98 true (fun k => m R (o_load 29 x100) w87 k) w87 fun x101 w88 =>
 mguard x98 true (fun k => m R (o_move x74) w88 k) w88 fun x102 w89 =>
 mguard x98 true (fun k => m R (o_bin .sub 3 true x102 (.int .i64 1)) w89 k) w89 fun x103 w90 =>
 mguard x98 true (fun k => m R (o_indexAddr 29 x101 x103) w90 k) w90 fun x104 w91 =>
 mguard x98 true (fun k => m R (o_load 3 x104) w91 k) w91 fun x105 w92 =>
 mguard x98 true (fun k => m R (o_bin .leq 3 false x99 x105) w92 k) w92 fun x106 w93 =>
 mguard x94 false (fun k => m R (o_pick x98 x106 (.bool false)) w93 k) w93 fun x107 w94 =>
 m R (o_pick x94 (.bool true) x107) w94 fun x108 w95 =>
 j22 x108 w95) fun x108 u22 w96 =>
 mif x108 (
 R (.returned (.bool false)) w96) (
 m R (o_bin .add 3 true x74 (.int .i64 1)) w96 fun x109 w97 =>
 next19 x109 w97)) (
 m R (o_bin .add 3 true x58 (.int .i64 1)) w68 fun x110 w98 =>
 next14 x110 w98))) (
 m R (o_bin .eql 3 true x13 (.int .i64 0)) w51 fun x112 w99 =>
 mguard x112 false (fun k => m R (o_fieldAddr 27 x1 0) w99 k) w99 fun x114 w100 =>
 mguard x112 false (fun k => m R (o_load 24 x114) w100 k) w100 fun x115 w101 =>
 mguard x112 false (fun k => m R (o_move x13) w101 k) w101 fun x116 w102 =>
 mguard x112 false (fun k => m R (o_bin .sub 3 true x116 (.int .i64 1)) w102 k) w102 fun x117 w103 =>
 mguard x112 false (fun k => m R (o_indexAddr 24 x115 x117) w103 k) w103 fun x118 w104 =>
 mguard x112 false (fun k => m R (o_fieldAddr 36 x118 0) w104 k) w104 fun x119 w105 =>
 mguard x112 false (fun k => m R (o_load 3 x119) w105 k) w105 fun x120 w106 =>
 mguard x112 false (fun k => m R (o_bin .gtr 3 true x120 (.int .i64 0)) w106 k) w106 fun x121 w107 =>
 m R (o_pick x112 (.bool true) x121) w107 fun x122 w108 =>
 R (.returned x122) w108)))
def A_tree_Right : Ann := ⟨[(6, [28], 36028796750528580), (14, [58], 2596148429267413526034872012900228), (19, [74], 1298074214614817441201145501451780)], [(3, [24], 33538048), (12, [], 18014397435740228), (10, [36], 2251731094208512), (17, [70], 2351959869397967831040), (22, [108], 649037106712390543758997453799424)], [], [], []⟩
theorem E_tree_Right (x0 : Value) (w : World) (R : Ending → World → Prop) : cwp Try.prog A_tree_Right (Try.f27.body.getD .skip) (retPost Try.prog Try.f27.results.toList R) (argE [x0]) w = F_tree_Right x0 w R := by kernel_rfl
theorem C_tree_Right {x0 : Value} {w : World} {R : Ending → World → Prop} (h : F_tree_Right x0 w R) : Calls Try.prog 27 #[x0] w R :=
 calls_cwp (A := A_tree_Right) (args := [x0]) mixed Try.func27 (c := Try.f27.body.getD .skip) (by kernel_rfl) (by kernel_rfl) (by kernel_rfl) ((E_tree_Right x0 w R).mpr h)
def F_tree_Add (x0 x1 : Value) (w : World) (R : Ending → World → Prop) : Prop :=
 m R (o_box 27 x0) w fun x2 w1 =>
 m R (o_box 36 x1) w1 fun x3 w2 =>
 m R (o_alloc 27) w2 fun x4 w3 =>
 mj1 (fun j2 =>
 m R (o_load 27 x2) w3 fun x14 w4 =>
 m R (o_call (fv 27) [x14]) w4 fun x15 w5 =>
 m R (o_un .not x15) w5 fun x16 w6 =>
 mguard x16 false (fun k => m R (o_fieldAddr 36 x3 0) w6 k) w6 fun x18 w7 =>
 mguard x16 false (fun k => m R (o_load 3 x18) w7 k) w7 fun x19 w8 =>
 mguard x16 false (fun k => m R (o_bin .lss 3 true x19 (.int .i64 1)) w8 k) w8 fun x20 w9 =>
 m R (o_pick x16 (.bool true) x20) w9 fun x21 w10 =>
 mguard x21 false (fun k => m R (o_fieldAddr 36 x3 0) w10 k) w10 fun x23 w11 =>
 mguard x21 false (fun k => m R (o_load 3 x23) w11 k) w11 fun x24 w12 =>
 mguard x21 false (fun k => m R (o_bin .gtr 3 true x24 (.int .i64 64)) w12 k) w12 fun x25 w13 =>
 m R (o_pick x21 (.bool true) x25) w13 fun x26 w14 =>
 j2 x26 w14) fun x13 u2 w15 =>
 mif x13 (
 m R (o_build 27 []) w15 fun x27 w16 =>
 m R (o_store 27 x4 x27) w16 fun _ w17 =>
 rcell Try.prog 27 x4 w17 fun r4 =>
 R (.returned (.tuple #[r4, (.int .i64 0), (.int .i64 1)])) w17) (
 m R (o_load 27 x2) w15 fun x29 w18 =>
 m R (o_fieldAddr 36 x3 0) w18 fun x30 w19 =>
 m R (o_load 3 x30) w19 fun x31 w20 =>
 m R (o_call (fv 34) [x29, x31]) w20 fun x32 w21 =>
 m R (o_bin .geq 3 true x32 (.int .i64 0)) w21 fun x33 w22 =>
 mif x33 (
 m R (o_build 27 []) w22 fun x34 w23 =>
 m R (o_store 27 x4 x34) w23 fun _ w24 =>
 rcell Try.prog 27 x4 w24 fun r4 =>
 R (.returned (.tuple #[r4, (.int .i64 0), (.int .i64 8)])) w24) (
 m R (o_load 27 x2) w22 fun x35 w25 =>
 m R (o_call (fv 61) [x35]) w25 fun x36 w26 =>
 m R (o_store 27 x2 x36) w26 fun _ w27 =>
 m R (o_fieldAddr 27 x2 0) w27 fun x37 w28 =>
 m R (o_load 24 x37) w28 fun x38 w29 =>
 m R (o_build 36 []) w29 fun x39 w30 =>
 m R (o_call (fv 69) [x38, x39]) w30 fun x40 w31 =>
 mj1 (fun j14 =>
 m R (o_bin .lss 3 true x40 (.int .i64 0)) w31 fun x42 w32 =>
 mif x42 (
 m R (o_fieldAddr 27 x2 0) w32 fun x43 w33 =>
 m R (o_load 24 x43) w33 fun x44 w34 =>
 m R (o_builtin .len #[24] 3 [false] [x44]) w34 fun x45 w35 =>
 m R (o_bin .eql 3 true x45 (.int .i64 64)) w35 fun x47 w36 =>
 mif x47 (
 m R (o_build 27 []) w36 fun x48 w37 =>
 m R (o_store 27 x4 x48) w37 fun _ w38 =>
 rcell Try.prog 27 x4 w38 fun r4 =>
 R (.returned (.tuple #[r4, (.int .i64 0), (.int .i64 9)])) w38) (
 mj0 (fun j13 =>
 m R (o_bin .gtr 3 true x45 (.int .i64 0)) w36 fun x50 w39 =>
 mif x50 (
 m R (o_fieldAddr 27 x2 1) w39 fun x51 w40 =>
 m R (o_load 25 x51) w40 fun x52 w41 =>
 m R (o_build 96 []) w41 fun x53 w42 =>
 m R (o_buildSlice 25 1 [(0, x53)]) w42 fun x54 w43 =>
 m R (o_builtin .append #[25, 25] 25 [false, false] [x52, x54]) w43 fun x55 w44 =>
 m R (o_fieldAddr 27 x2 1) w44 fun x56 w45 =>
 m R (o_store 25 x56 x55) w45 fun _ w46 =>
 j13 w46) (
 j13 w39)) fun u13 w47 =>
 m R (o_fieldAddr 27 x2 0) w47 fun x57 w48 =>
 m R (o_load 24 x57) w48 fun x58 w49 =>
 m R (o_build 36 []) w49 fun x59 w50 =>
 m R (o_buildSlice 24 1 [(0, x59)]) w50 fun x60 w51 =>
 m R (o_builtin .append #[24, 24] 24 [false, false] [x58, x60]) w51 fun x61 w52 =>
 m R (o_fieldAddr 27 x2 0) w52 fun x62 w53 =>
 m R (o_store 24 x62 x61) w53 fun _ w54 =>
 j14 x45 w54)) (
 j14 x40 w32)) fun x7 u14 w55 =>
 m R (o_fieldAddr 27 x2 0) w55 fun x63 w56 =>
 m R (o_load 24 x63) w56 fun x64 w57 =>
 m R (o_load 36 x3) w57 fun x66 w58 =>
 m R (o_indexAddr 24 x64 x7) w58 fun x67 w59 =>
 m R (o_store 36 x67 x66) w59 fun _ w60 =>
 m R (o_fieldAddr 27 x2 0) w60 fun x68 w61 =>
 m R (o_load 24 x68) w61 fun x69 w62 =>
 m R (o_builtin .len #[24] 3 [false] [x69]) w62 fun x70 w63 =>
 m R (o_call (fv 60) [x70, x7]) w63 fun x72 w64 =>
 m R (o_builtin .len #[29] 3 [false] [x72]) w64 fun x73 w65 =>
 ml1 (.int .i64 0) w65 fun x74 u16 w66 next16 =>
 m R (o_bin .lss 3 false x74 x73) w66 fun x75 w67 =>
 mif x75 (
 mj0 (fun j22 =>
 m R (o_indexAddr 29 x72 x74) w67 fun x76 w68 =>
 m R (o_load 3 x76) w68 fun x77 w69 =>
 m R (o_fieldAddr 27 x2 1) w69 fun x78 w70 =>
 m R (o_load 25 x78) w70 fun x79 w71 =>
 m R (o_bin .quo 3 true x77 (.int .i64 2)) w71 fun x81 w72 =>
 m R (o_indexAddr 25 x79 x81) w72 fun x82 w73 =>
 m R (o_nilCheck x82) w73 fun x84 w74 =>
 m R (o_fieldAddr 96 x84 0) w74 fun x85 w75 =>
 m R (o_load 4 x85) w75 fun x86 w76 =>
 mif x86 (
 m R (o_nilCheck x82) w76 fun x89 w77 =>
 m R (o_fieldAddr 96 x89 3) w77 fun x90 w78 =>
 m R (o_load 29 x90) w78 fun x91 w79 =>
 m R (o_call (fv 70) [x91, x7]) w79 fun x93 w80 =>
 m R (o_extract x93 0) w80 fun x94 w81 =>
 m R (o_extract x93 1) w81 fun x95 w82 =>
 m R (o_nilCheck x82) w82 fun x98 w83 =>
 m R (o_fieldAddr 96 x98 3) w83 fun x99 w84 =>
 m R (o_load 29 x99) w84 fun x100 w85 =>
 m R (o_buildSlice 29 1 [(0, x7)]) w85 fun x103 w86 =>
 m R (o_call (fv 71) [x100, x94, x103]) w86 fun x104 w87 =>
 m R (o_nilCheck x82) w87 fun x105 w88 =>
 m R (o_fieldAddr 96 x105 3) w88 fun x106 w89 =>
 m R (o_store 29 x106 x104) w89 fun _ w90 =>
 j22 w90) (
 j22 w76)) fun u22 w91 =>
 m R (o_bin .add 3 true x74 (.int .i64 1)) w91 fun x107 w92 =>
 next16 x107 w92) (
 m R (o_load 27 x2) w67 fun x108 w93 =>
 m R (o_store 27 x4 x108) w93 fun _ w94 =>
 rcell Try.prog 27 x4 w94 fun r4 =>
 R (.returned (.tuple #[r4, x7, (.int .i64 0)])) w94)))
def A_tree_Add : Ann := ⟨[(16, [74], 324518553639537260851677439729152)], [(2, [13], 134209536), (14, [7], 9223369837831520480), (13, [], 143552238122434560), (22, [], 162259276753655499665663686876672)], [], [], []⟩
theorem E_tree_Add (x0 x1 : Value) (w : World) (R : Ending → World → Prop) : cwp Try.prog A_tree_Add (Try.f28.body.getD .skip) (retPost Try.prog Try.f28.results.toList R) (argE [x0, x1]) w = F_tree_Add x0 x1 w R := by kernel_rfl
theorem C_tree_Add {x0 x1 : Value} {w : World} {R : Ending → World → Prop} (h : F_tree_Add x0 x1 w R) : Calls Try.prog 28 #[x0, x1] w R :=
 calls_cwp (A := A_tree_Add) (args := [x0, x1]) mixed Try.func28 (c := Try.f28.body.getD .skip) (by kernel_rfl) (by kernel_rfl) (by kernel_rfl) ((E_tree_Add x0 x1 w R).mpr h)
def F_tree_Renew (x0 x1 x2 : Value) (w : World) (R : Ending → World → Prop) : Prop :=
 m R (o_box 27 x0) w fun x3 w1 =>
 m R (o_box 34 x2) w1 fun x5 w2 =>
 m R (o_alloc 27) w2 fun x6 w3 =>
 m R (o_load 27 x3) w3 fun x9 w4 =>
 m R (o_call (fv 27) [x9]) w4 fun x10 w5 =>
 m R (o_un .not x10) w5 fun x11 w6 =>
 mif x11 (
 m R (o_build 27 []) w6 fun x12 w7 =>
 m R (o_store 27 x6 x12) w7 fun _ w8 =>
 rcell Try.prog 27 x6 w8 fun r6 =>
 R (.returned (.tuple #[r6, (.int .i64 1)])) w8) (
 m R (o_load 27 x3) w6 fun x14 w9 =>
 m R (o_call (fv 59) [x14, x1]) w9 fun x16 w10 =>
 mif x16 (
 m R (o_build 27 []) w10 fun x17 w11 =>
 m R (o_store 27 x6 x17) w11 fun _ w12 =>
 rcell Try.prog 27 x6 w12 fun r6 =>
 R (.returned (.tuple #[r6, (.int .i64 7)])) w12) (
 m R (o_load 27 x3) w10 fun x18 w13 =>
 m R (o_call (fv 61) [x18]) w13 fun x19 w14 =>
 m R (o_store 27 x3 x19) w14 fun _ w15 =>
 m R (o_fieldAddr 27 x3 0) w15 fun x20 w16 =>
 m R (o_load 24 x20) w16 fun x21 w17 =>
 m R (o_load 34 x5) w17 fun x23 w18 =>
 m R (o_indexAddr 24 x21 x1) w18 fun x24 w19 =>
 m R (o_fieldAddr 36 x24 1) w19 fun x25 w20 =>
 m R (o_store 34 x25 x23) w20 fun _ w21 =>
 m R (o_fieldAddr 27 x3 0) w21 fun x26 w22 =>
 m R (o_load 24 x26) w22 fun x27 w23 =>
 m R (o_build 34 []) w23 fun x29 w24 =>
 m R (o_indexAddr 24 x27 x1) w24 fun x30 w25 =>
 m R (o_fieldAddr 36 x30 3) w25 fun x31 w26 =>
 m R (o_store 34 x31 x29) w26 fun _ w27 =>
 m R (o_load 27 x3) w27 fun x32 w28 =>
 m R (o_call (fv 72) [x32, x1]) w28 fun x34 w29 =>
 m R (o_load 27 x3) w29 fun x35 w30 =>
 m R (o_store 27 x6 x35) w30 fun _ w31 =>
 rcell Try.prog 27 x6 w31 fun r6 =>
 R (.returned (.tuple #[r6, (.int .i64 0)])) w31))
def A_tree_Renew : Ann := ⟨[], [], [], [], []⟩
theorem E_tree_Renew (x0 x1 x2 : Value) (w : World) (R : Ending → World → Prop) : cwp Try.prog A_tree_Renew (Try.f29.body.getD .skip) (retPost Try.prog Try.f29.results.toList R) (argE [x0, x1, x2]) w = F_tree_Renew x0 x1 x2 w R := by kernel_rfl
theorem C_tree_Renew {x0 x1 x2 : Value} {w : World} {R : Ending → World → Prop} (h : F_tree_Renew x0 x1 x2 w R) : Calls Try.prog 29 #[x0, x1, x2] w R :=
 calls_cwp (A := A_tree_Renew) (args := [x0, x1, x2]) mixed Try.func29 (c := Try.f29.body.getD .skip) (by kernel_rfl) (by kernel_rfl) (by kernel_rfl) ((E_tree_Renew x0 x1 x2 w R).mpr h)
def F_tree_Remove (x0 x1 : Value) (w : World) (R : Ending → World → Prop) : Prop :=
 m R (o_box 27 x0) w fun x2 w1 =>
 m R (o_alloc 27) w1 fun x4 w2 =>
 m R (o_load 27 x2) w2 fun x8 w3 =>
 m R (o_call (fv 27) [x8]) w3 fun x9 w4 =>
 m R (o_un .not x9) w4 fun x10 w5 =>
 mif x10 (
 m R (o_build 27 []) w5 fun x11 w6 =>
 m R (o_store 27 x4 x11) w6 fun _ w7 =>
 rcell Try.prog 27 x4 w7 fun r4 =>
 R (.returned (.tuple #[r4, (.int .i64 1)])) w7) (
 m R (o_load 27 x2) w5 fun x13 w8 =>
 m R (o_call (fv 59) [x13, x1]) w8 fun x15 w9 =>
 mif x15 (
 m R (o_build 27 []) w9 fun x16 w10 =>
 m R (o_store 27 x4 x16) w10 fun _ w11 =>
 rcell Try.prog 27 x4 w11 fun r4 =>
 R (.returned (.tuple #[r4, (.int .i64 7)])) w11) (
 m R (o_load 27 x2) w9 fun x17 w12 =>
 m R (o_call (fv 61) [x17]) w12 fun x18 w13 =>
 m R (o_store 27 x2 x18) w13 fun _ w14 =>
 m R (o_fieldAddr 27 x2 0) w14 fun x19 w15 =>
 m R (o_load 24 x19) w15 fun x20 w16 =>
 m R (o_build 36 []) w16 fun x22 w17 =>
 m R (o_indexAddr 24 x20 x1) w17 fun x23 w18 =>
 m R (o_store 36 x23 x22) w18 fun _ w19 =>
 m R (o_load 27 x2) w19 fun x24 w20 =>
 m R (o_call (fv 72) [x24, x1]) w20 fun x26 w21 =>
 m R (o_fieldAddr 27 x2 0) w21 fun x27 w22 =>
 m R (o_load 24 x27) w22 fun x28 w23 =>
 m R (o_builtin .len #[24] 3 [false] [x28]) w23 fun x29 w24 =>
 ml1 x29 w24 fun x6 u9 w25 next9 =>
 mj0 (fun j10 =>
 m R (o_bin .gtr 3 true x6 (.int .i64 0)) w25 fun x31 w26 =>
 mguard x31 true (fun k => m R (o_fieldAddr 27 x2 0) w26 k) w26 fun x33 w27 =>
 mguard x31 true (fun k => m R (o_load 24 x33) w27 k) w27 fun x34 w28 =>
 mguard x31 true (fun k => m R (o_move x6) w28 k) w28 fun x35 w29 =>
 mguard x31 true (fun k => m R (o_bin .sub 3 true x35 (.int .i64 1)) w29 k) w29 fun x36 w30 =>
 mguard x31 true (fun k => m R (o_indexAddr 24 x34 x36) w30 k) w30 fun x37 w31 =>
 mguard x31 true (fun k => m R (o_fieldAddr 36 x37 0) w31 k) w31 fun x38 w32 =>
 mguard x31 true (fun k => m R (o_load 3 x38) w32 k) w32 fun x39 w33 =>
 mguard x31 true (fun k => m R (o_bin .eql 3 true x39 (.int .i64 0)) w33 k) w33 fun x40 w34 =>
 m R (o_pick x31 x40 (.bool false)) w34 fun x41 w35 =>
 mif x41 (
 j10 w35) (
 dp Try.prog (o_fieldAddr 27 x2 0) fun x44 =>
 dq Try.prog w35 (o_load 24 x44) fun x45 =>
 dp Try.prog (o_slice 24 x45 none (some x6) none) fun x47 =>
 dp Try.prog (o_fieldAddr 27 x2 1) fun x48 =>
 dq Try.prog w35 (o_load 25 x48) fun x49 =>
 dp Try.prog (o_bin .sub 3 true x6 (.int .i64 1)) fun x51 =>
 dp Try.prog (o_builtin .max #[3, 3] 3 [false, true] [x51, (.int .i64 0)]) fun x52 =>
 dp Try.prog (o_slice 25 x49 none (some x52) none) fun x53 =>
 dp Try.prog (o_fieldAddr 27 x2 0) fun x54 =>
 df Try.prog w35 (o_store 24 x54 x47) false fun _ w36 =>
 dp Try.prog (o_fieldAddr 27 x2 1) fun x55 =>
 df Try.prog w36 (o_store 25 x55 x53) false fun _ w37 =>
 dend w37 fun w38 =>
 m R (o_load 27 x2) w38 fun x56 w39 =>
 m R (o_store 27 x4 x56) w39 fun _ w40 =>
 rcell Try.prog 27 x4 w40 fun r4 =>
 R (.returned (.tuple #[r4, (.int .i64 0)])) w40)) fun u10 w41 =>
 m R (o_bin .sub 3 true x6 (.int .i64 1)) w41 fun x43 w42 =>
 next9 x43 w42))
def A_tree_Remove : Ann := ⟨[(9, [6], 17591112302656)], [(10, [], 4396972769280)], [(11, [⟨0, .q none, 4, 0, 17592186044416⟩, ⟨1, .q (some 0), 17592186044416, 1, 35184372088832⟩, ⟨2, .q none, 64, 0, 70368744177664⟩, ⟨3, .q none, 105553116266496, 7, 140737488355328⟩, ⟨4, .q none, 4, 0, 281474976710656⟩, ⟨5, .q (some 0), 281474976710656, 16, 562949953421312⟩, ⟨6, .q none, 64, 0, 1125899906842624⟩, ⟨7, .q none, 1125899906842624, 64, 2251799813685248⟩, ⟨8, .q none, 2251799813685248, 192, 4503599627370496⟩, ⟨9, .q none, 5066549580791808, 496, 9007199254740992⟩, ⟨10, .q none, 4, 63, 18014398509481984⟩, ⟨11, .f 0 false, 18155135997837312, 1087, 0⟩, ⟨12, .q none, 4, 4095, 36028797018963968⟩, ⟨13, .f 1 false, 45035996273704960, 8191, 0⟩])], [], []⟩
theorem E_tree_Remove (x0 x1 : Value) (w : World) (R : Ending → World → Prop) : cwp Try.prog A_tree_Remove (Try.f30.body.getD .skip) (retPost Try.prog Try.f30.results.toList R) (argE [x0, x1]) w = F_tree_Remove x0 x1 w R := by kernel_rfl
theorem C_tree_Remove {x0 x1 : Value} {w : World} {R : Ending → World → Prop} (h : F_tree_Remove x0 x1 w R) : Calls Try.prog 30 #[x0, x1] w R :=
 calls_cwp (A := A_tree_Remove) (args := [x0, x1]) mixed Try.func30 (c := Try.f30.body.getD .skip) (by kernel_rfl) (by kernel_rfl) (by kernel_rfl) ((E_tree_Remove x0 x1 w R).mpr h)
def F_tree_Place (x0 x1 : Value) (w : World) (R : Ending → World → Prop) : Prop :=
 m R (o_box 27 x0) w fun x2 w1 =>
 m R (o_box 3 x1) w1 fun x3 w2 =>
 m R (o_load 3 x3) w2 fun x5 w3 =>
 m R (o_bin .lss 3 true x5 (.int .i64 1)) w3 fun x6 w4 =>
 mif x6 (
 R (.returned (.int .i64 (-1))) w4) (
 m R (o_load 27 x2) w4 fun x7 w5 =>
 m R (o_call (fv 46) [x7]) w5 fun x8 w6 =>
 m R (o_field 27 x8 0) w6 fun x9 w7 =>
 m R (o_func (.func 76) [] [x3]) w7 fun x10 w8 =>
 m R (o_call (fv 75) [x9, x10]) w8 fun x11 w9 =>
 R (.returned x11) w9)
def A_tree_Place : Ann := ⟨[], [], [], [], []⟩
theorem E_tree_Place (x0 x1 : Value) (w : World) (R : Ending → World → Prop) : cwp Try.prog A_tree_Place (Try.f34.body.getD .skip) (retPost Try.prog Try.f34.results.toList R) (argE [x0, x1]) w = F_tree_Place x0 x1 w R := by kernel_rfl
theorem C_tree_Place {x0 x1 : Value} {w : World} {R : Ending → World → Prop} (h : F_tree_Place x0 x1 w R) : Calls Try.prog 34 #[x0, x1] w R :=
 calls_cwp (A := A_tree_Place) (args := [x0, x1]) mixed Try.func34 (c := Try.f34.body.getD .skip) (by kernel_rfl) (by kernel_rfl) (by kernel_rfl) ((E_tree_Place x0 x1 w R).mpr h)
def F_tree_Names (x0 : Value) (w : World) (R : Ending → World → Prop) : Prop :=
 m R (o_box 27 x0) w fun x1 w1 =>
 m R (o_load 27 x1) w1 fun x6 w2 =>
 m R (o_call (fv 46) [x6]) w2 fun x7 w3 =>
 m R (o_field 27 x7 0) w3 fun x8 w4 =>
 m R (o_builtin .len #[24] 3 [false] [x8]) w4 fun x9 w5 =>
 ml2 (.slice none 0 0) (.int .i64 0) w5 fun x3 x10 u3 w6 next3 =>
 m R (o_bin .lss 3 false x10 x9) w6 fun x11 w7 =>
 mif x11 (
 mj1 (fun j7 =>
 m R (o_indexAddr 24 x8 x10) w7 fun x12 w8 =>
 m R (o_load 36 x12) w8 fun x13 w9 =>
 m R (o_alloc 36) w9 fun x5 w10 =>
 m R (o_store 36 x5 x13) w10 fun _ w11 =>
 m R (o_fieldAddr 36 x5 0) w11 fun x14 w12 =>
 m R (o_load 3 x14) w12 fun x15 w13 =>
 m R (o_bin .gtr 3 true x15 (.int .i64 0)) w13 fun x16 w14 =>
 mif x16 (
 m R (o_fieldAddr 36 x5 0) w14 fun x18 w15 =>
 m R (o_load 3 x18) w15 fun x19 w16 =>
 m R (o_buildSlice 29 1 [(0, x19)]) w16 fun x20 w17 =>
 m R (o_builtin .append #[29, 29] 29 [false, false] [x3, x20]) w17 fun x21 w18 =>
 j7 x21 w18) (
 j7 x3 w14)) fun x3 u7 w19 =>
 m R (o_bin .add 3 true x10 (.int .i64 1)) w19 fun x22 w20 =>
 next3 x3 x22 w20) (
 m R (o_call (fv 77) [x3]) w7 fun x24 w21 =>
 R (.returned x3) w21)
def A_tree_Names : Ann := ⟨[(3, [3, 10], 8387624)], [(7, [3], 4190248)], [], [], []⟩
theorem E_tree_Names (x0 : Value) (w : World) (R : Ending → World → Prop) : cwp Try.prog A_tree_Names (Try.f37.body.getD .skip) (retPost Try.prog Try.f37.results.toList R) (argE [x0]) w = F_tree_Names x0 w R := by kernel_rfl
theorem C_tree_Names {x0 : Value} {w : World} {R : Ending → World → Prop} (h : F_tree_Names x0 w R) : Calls Try.prog 37 #[x0] w R :=
 calls_cwp (A := A_tree_Names) (args := [x0]) mixed Try.func37 (c := Try.f37.body.getD .skip) (by kernel_rfl) (by kernel_rfl) (by kernel_rfl) ((E_tree_Names x0 w R).mpr h)
def F_bevylaw08_place (x0 x1 : Value) (w : World) (R : Ending → World → Prop) : Prop :=
 m R (o_box 27 x0) w fun x2 w1 =>
 m R (o_box 53 x1) w1 fun x3 w2 =>
 m R (o_fieldAddr 53 x3 2) w2 fun x5 w3 =>
 m R (o_load 3 x5) w3 fun x6 w4 =>
 m R (o_conv 3 120 x6) w4 fun x7 w5 =>
 m R (o_fieldAddr 27 x2 0) w5 fun x8 w6 =>
 m R (o_load 24 x8) w6 fun x9 w7 =>
 m R (o_builtin .len #[24] 3 [false] [x9]) w7 fun x10 w8 =>
 m R (o_bin .add 3 true x10 (.int .i64 1)) w8 fun x11 w9 =>
 m R (o_conv 3 120 x11) w9 fun x12 w10 =>
 m R (o_bin .rem 120 false x7 x12) w10 fun x13 w11 =>
 m R (o_conv 120 3 x13) w11 fun x14 w12 =>
 R (.returned x14) w12
def A_bevylaw08_place : Ann := ⟨[], [], [], [], []⟩
theorem E_bevylaw08_place (x0 x1 : Value) (w : World) (R : Ending → World → Prop) : cwp Try.prog A_bevylaw08_place (Try.f39.body.getD .skip) (retPost Try.prog Try.f39.results.toList R) (argE [x0, x1]) w = F_bevylaw08_place x0 x1 w R := by kernel_rfl
theorem C_bevylaw08_place {x0 x1 : Value} {w : World} {R : Ending → World → Prop} (h : F_bevylaw08_place x0 x1 w R) : Calls Try.prog 39 #[x0, x1] w R :=
 calls_cwp (A := A_bevylaw08_place) (args := [x0, x1]) mixed Try.func39 (c := Try.f39.body.getD .skip) (by kernel_rfl) (by kernel_rfl) (by kernel_rfl) ((E_bevylaw08_place x0 x1 w R).mpr h)
def F_tree_sound (x0 : Value) (w : World) (R : Ending → World → Prop) : Prop :=
 m R (o_box 27 x0) w fun x1 w1 =>
 m R (o_alloc 27) w1 fun x2 w2 =>
 m R (o_load 27 x1) w2 fun x3 w3 =>
 m R (o_call (fv 27) [x3]) w3 fun x4 w4 =>
 mif x4 (
 m R (o_load 27 x1) w4 fun x5 w5 =>
 m R (o_store 27 x2 x5) w5 fun _ w6 =>
 rcell Try.prog 27 x2 w6 fun r2 =>
 R (.returned r2) w6) (
 m R (o_build 27 []) w4 fun x6 w7 =>
 m R (o_store 27 x2 x6) w7 fun _ w8 =>
 rcell Try.prog 27 x2 w8 fun r2 =>
 R (.returned r2) w8)
def A_tree_sound : Ann := ⟨[], [], [], [], []⟩
theorem E_tree_sound (x0 : Value) (w : World) (R : Ending → World → Prop) : cwp Try.prog A_tree_sound (Try.f46.body.getD .skip) (retPost Try.prog Try.f46.results.toList R) (argE [x0]) w = F_tree_sound x0 w R := by kernel_rfl
theorem C_tree_sound {x0 : Value} {w : World} {R : Ending → World → Prop} (h : F_tree_sound x0 w R) : Calls Try.prog 46 #[x0] w R :=
 calls_cwp (A := A_tree_sound) (args := [x0]) mixed Try.func46 (c := Try.f46.body.getD .skip) (by kernel_rfl) (by kernel_rfl) (by kernel_rfl) ((E_tree_sound x0 w R).mpr h)
def F_bough_Left (x0 x1 : Value) (w : World) (R : Ending → World → Prop) : Prop :=
 mj1 (fun j4 =>
 m R (o_call (fv 89) [x0, x1]) w fun x8 w1 =>
 mif x8 (
 m R (o_call (fv 90) [x1]) w1 fun x10 w2 =>
 j4 x10 w2) (
 j4 (.int .i64 0) w1)) fun x5 u4 w3 =>
 m R (o_bin .eql 3 true x5 (.int .i64 0)) w3 fun x12 w4 =>
 mif x12 (
 R (.returned (.int .i64 (-1))) w4) (
 m R (o_bin .sub 3 true x5 (.int .i64 1)) w4 fun x15 w5 =>
 m R (o_bin .shl 3 true (.int .i64 1) x15) w5 fun x16 w6 =>
 m R (o_bin .sub 3 false x1 x16) w6 fun x17 w7 =>
 R (.returned x17) w7)
def A_bough_Left : Ann := ⟨[], [(4, [5], 2016)], [], [], []⟩
theorem E_bough_Left (x0 x1 : Value) (w : World) (R : Ending → World → Prop) : cwp Try.prog A_bough_Left (Try.f48.body.getD .skip) (retPost Try.prog Try.f48.results.toList R) (argE [x0, x1]) w = F_bough_Left x0 x1 w R := by kernel_rfl
theorem C_bough_Left {x0 x1 : Value} {w : World} {R : Ending → World → Prop} (h : F_bough_Left x0 x1 w R) : Calls Try.prog 48 #[x0, x1] w R :=
 calls_cwp (A := A_bough_Left) (args := [x0, x1]) mixed Try.func48 (c := Try.f48.body.getD .skip) (by kernel_rfl) (by kernel_rfl) (by kernel_rfl) ((E_bough_Left x0 x1 w R).mpr h)
def F_bough_Right (x0 x1 : Value) (w : World) (R : Ending → World → Prop) : Prop :=
 mj1 (fun j4 =>
 m R (o_call (fv 89) [x0, x1]) w fun x8 w1 =>
 mif x8 (
 m R (o_call (fv 90) [x1]) w1 fun x10 w2 =>
 j4 x10 w2) (
 j4 (.int .i64 0) w1)) fun x5 u4 w3 =>
 m R (o_bin .eql 3 true x5 (.int .i64 0)) w3 fun x12 w4 =>
 mif x12 (
 R (.returned (.int .i64 (-1))) w4) (
 m R (o_bin .sub 3 true x5 (.int .i64 1)) w4 fun x15 w5 =>
 m R (o_bin .shl 3 true (.int .i64 1) x15) w5 fun x16 w6 =>
 m R (o_bin .add 3 false x1 x16) w6 fun x17 w7 =>
 ml1 x17 w7 fun x1 u7 w8 next7 =>
 m R (o_call (fv 89) [x0, x1]) w8 fun x20 w9 =>
 m R (o_un .not x20) w9 fun x21 w10 =>
 mif x21 (
 m R (o_call (fv 90) [x1]) w10 fun x24 w11 =>
 m R (o_bin .sub 3 true x24 (.int .i64 1)) w11 fun x25 w12 =>
 m R (o_bin .shl 3 true (.int .i64 1) x25) w12 fun x26 w13 =>
 m R (o_bin .sub 3 false x1 x26) w13 fun x27 w14 =>
 next7 x27 w14) (
 R (.returned x1) w10))
def A_bough_Right : Ann := ⟨[(7, [1], 268173314)], [(4, [5], 2016)], [], [], []⟩
theorem E_bough_Right (x0 x1 : Value) (w : World) (R : Ending → World → Prop) : cwp Try.prog A_bough_Right (Try.f49.body.getD .skip) (retPost Try.prog Try.f49.results.toList R) (argE [x0, x1]) w = F_bough_Right x0 x1 w R := by kernel_rfl
theorem C_bough_Right {x0 x1 : Value} {w : World} {R : Ending → World → Prop} (h : F_bough_Right x0 x1 w R) : Calls Try.prog 49 #[x0, x1] w R :=
 calls_cwp (A := A_bough_Right) (args := [x0, x1]) mixed Try.func49 (c := Try.f49.body.getD .skip) (by kernel_rfl) (by kernel_rfl) (by kernel_rfl) ((E_bough_Right x0 x1 w R).mpr h)
def F_bevyref07_There (x0 x1 : Value) (w : World) (R : Ending → World → Prop) : Prop :=
 m R (o_bin .geq 3 true x0 (.int .i64 1)) w fun x6 w1 =>
 mguard x6 true (fun k => m R (o_move x0) w1 k) w1 fun x8 w2 =>
 mguard x6 true (fun k => m R (o_bin .leq 3 true x8 (.int .i64 64)) w2 k) w2 fun x9 w3 =>
 m R (o_pick x6 x9 (.bool false)) w3 fun x10 w4 =>
 mguard x10 true (fun k => m R (o_move x1) w4 k) w4 fun x12 w5 =>
 mguard x10 true (fun k => m R (o_bin .geq 3 true x12 (.int .i64 0)) w5 k) w5 fun x13 w6 =>
 m R (o_pick x10 x13 (.bool false)) w6 fun x14 w7 =>
 mguard x14 true (fun k => m R (o_move x1) w7 k) w7 fun x16 w8 =>
 mguard x14 true (fun k => m R (o_move x0) w8 k) w8 fun x17 w9 =>
 mguard x14 true (fun k => m R (o_bin .mul 3 true (.int .i64 2) x17) w9 k) w9 fun x18 w10 =>
 mguard x14 true (fun k => m R (o_bin .sub 3 true x18 (.int .i64 2)) w10 k) w10 fun x19 w11 =>
 mguard x14 true (fun k => m R (o_bin .leq 3 false x16 x19) w11 k) w11 fun x20 w12 =>
 m R (o_pick x14 x20 (.bool false)) w12 fun x21 w13 =>
 R (.returned x21) w13
def A_bevyref07_There : Ann := ⟨[], [], [], [], []⟩
theorem E_bevyref07_There (x0 x1 : Value) (w : World) (R : Ending → World → Prop) : cwp Try.prog A_bevyref07_There (Try.f50.body.getD .skip) (retPost Try.prog Try.f50.results.toList R) (argE [x0, x1]) w = F_bevyref07_There x0 x1 w R := by kernel_rfl
theorem C_bevyref07_There {x0 x1 : Value} {w : World} {R : Ending → World → Prop} (h : F_bevyref07_There x0 x1 w R) : Calls Try.prog 50 #[x0, x1] w R :=
 calls_cwp (A := A_bevyref07_There) (args := [x0, x1]) mixed Try.func50 (c := Try.f50.body.getD .skip) (by kernel_rfl) (by kernel_rfl) (by kernel_rfl) ((E_bevyref07_There x0 x1 w R).mpr h)
def F_bevyref07_root (x0 x1 : Value) (w : World) (R : Ending → World → Prop) : Prop :=
 m R (o_bin .eql 3 true x1 (.int .i64 1)) w fun x6 w1 =>
 mif x6 (
 m R (o_bin .mul 3 true (.int .i64 2) x0) w1 fun x8 w2 =>
 R (.returned x8) w2) (
 m R (o_call (fv 91) [x1]) w1 fun x11 w3 =>
 m R (o_bin .add 3 false x0 x11) w3 fun x12 w4 =>
 m R (o_bin .mul 3 true (.int .i64 2) x12) w4 fun x13 w5 =>
 m R (o_bin .sub 3 true x13 (.int .i64 1)) w5 fun x14 w6 =>
 R (.returned x14) w6)
def A_bevyref07_root : Ann := ⟨[], [], [], [], []⟩
theorem E_bevyref07_root (x0 x1 : Value) (w : World) (R : Ending → World → Prop) : cwp Try.prog A_bevyref07_root (Try.f51.body.getD .skip) (retPost Try.prog Try.f51.results.toList R) (argE [x0, x1]) w = F_bevyref07_root x0 x1 w R := by kernel_rfl
theorem C_bevyref07_root {x0 x1 : Value} {w : World} {R : Ending → World → Prop} (h : F_bevyref07_root x0 x1 w R) : Calls Try.prog 51 #[x0, x1] w R :=
 calls_cwp (A := A_bevyref07_root) (args := [x0, x1]) mixed Try.func51 (c := Try.f51.body.getD .skip) (by kernel_rfl) (by kernel_rfl) (by kernel_rfl) ((E_bevyref07_root x0 x1 w R).mpr h)
def F_sha_Sum (x0 : Value) (w : World) (R : Ending → World → Prop) : Prop :=
 m R (o_alloc 34) w fun x2 w1 =>
 m R (o_build 140 [(0, (.int .u32 1779033703)), (1, (.int .u32 3144134277)), (2, (.int .u32 1013904242)), (3, (.int .u32 2773480762)), (4, (.int .u32 1359893119)), (5, (.int .u32 2600822924)), (6, (.int .u32 528734635)), (7, (.int .u32 1541459225))]) w1 fun x11 w2 =>
 m R (o_call (fv 93) []) w2 fun x12 w3 =>
 m R (o_build 145 [(0, x11), (3, x12)]) w3 fun x13 w4 =>
 m R (o_box 145 x13) w4 fun x14 w5 =>
 m R (o_builtin .len #[137] 3 [false] [x0]) w5 fun x16 w6 =>
 ml1 (.int .i64 0) w6 fun x17 u3 w7 next3 =>
 m R (o_bin .lss 3 false x17 x16) w7 fun x18 w8 =>
 mif x18 (
 m R (o_indexAddr 137 x0 x17) w8 fun x19 w9 =>
 m R (o_load 9 x19) w9 fun x20 w10 =>
 m R (o_call (fv 94) [x14, x20]) w10 fun x23 w11 =>
 m R (o_bin .add 3 true x17 (.int .i64 1)) w11 fun x24 w12 =>
 next3 x24 w12) (
 m R (o_alloc 147) w8 fun x6 w13 =>
 m R (o_indexAddr 147 x6 (.int .i64 0)) w13 fun x25 w14 =>
 m R (o_store 5 x25 (.int .u8 128)) w14 fun _ w15 =>
 m R (o_nilCheck x14) w15 fun x27 w16 =>
 m R (o_fieldAddr 145 x27 2) w16 fun x28 w17 =>
 m R (o_load 3 x28) w17 fun x29 w18 =>
 m R (o_bin .add 3 true x29 (.int .i64 8)) w18 fun x30 w19 =>
 m R (o_bin .rem 3 true x30 (.int .i64 64)) w19 fun x31 w20 =>
 m R (o_bin .sub 3 true (.int .i64 64) x31) w20 fun x32 w21 =>
 ml1 (.int .i64 0) w21 fun x33 u11 w22 next11 =>
 m R (o_bin .lss 3 true x33 (.int .i64 8)) w22 fun x34 w23 =>
 mif x34 (
 m R (o_bin .add 3 false x32 x33) w23 fun x38 w24 =>
 m R (o_nilCheck x14) w24 fun x40 w25 =>
 m R (o_fieldAddr 145 x40 2) w25 fun x41 w26 =>
 m R (o_load 3 x41) w26 fun x42 w27 =>
 m R (o_conv 3 148 x42) w27 fun x43 w28 =>
 m R (o_bin .mul 148 true x43 (.int .u64 8)) w28 fun x44 w29 =>
 m R (o_bin .mul 3 true (.int .i64 8) x33) w29 fun x46 w30 =>
 m R (o_bin .sub 3 true (.int .i64 56) x46) w30 fun x47 w31 =>
 m R (o_bin .shr 148 false x44 x47) w31 fun x48 w32 =>
 m R (o_conv 148 5 x48) w32 fun x49 w33 =>
 m R (o_indexAddr 147 x6 x38) w33 fun x50 w34 =>
 m R (o_store 5 x50 x49) w34 fun _ w35 =>
 m R (o_bin .add 3 true x33 (.int .i64 1)) w35 fun x51 w36 =>
 next11 x51 w36) (
 m R (o_bin .add 3 true x32 (.int .i64 8)) w23 fun x54 w37 =>
 m R (o_slice 147 x6 none (some x54) none) w37 fun x55 w38 =>
 m R (o_conv 106 9 x55) w38 fun x56 w39 =>
 m R (o_call (fv 94) [x14, x56]) w39 fun x57 w40 =>
 m R (o_alloc 34) w40 fun x9 w41 =>
 ml1 (.int .i64 0) w41 fun x58 u18 w42 next18 =>
 m R (o_bin .lss 3 true x58 (.int .i64 32)) w42 fun x59 w43 =>
 mif x59 (
 m R (o_bin .quo 3 true x58 (.int .i64 4)) w43 fun x64 w44 =>
 m R (o_nilCheck x14) w44 fun x65 w45 =>
 m R (o_fieldAddr 145 x65 0) w45 fun x66 w46 =>
 m R (o_indexAddr 140 x66 x64) w46 fun x67 w47 =>
 m R (o_load 139 x67) w47 fun x68 w48 =>
 m R (o_bin .rem 3 true x58 (.int .i64 4)) w48 fun x70 w49 =>
 m R (o_bin .mul 3 true (.int .i64 8) x70) w49 fun x71 w50 =>
 m R (o_bin .sub 3 true (.int .i64 24) x71) w50 fun x72 w51 =>
 m R (o_bin .shr 139 false x68 x72) w51 fun x73 w52 =>
 m R (o_conv 139 5 x73) w52 fun x74 w53 =>
 m R (o_indexAddr 34 x9 x58) w53 fun x75 w54 =>
 m R (o_store 5 x75 x74) w54 fun _ w55 =>
 m R (o_bin .add 3 true x58 (.int .i64 1)) w55 fun x76 w56 =>
 next18 x76 w56) (
 m R (o_load 34 x9) w43 fun x77 w57 =>
 m R (o_store 34 x2 x77) w57 fun _ w58 =>
 rcell Try.prog 34 x2 w58 fun r2 =>
 R (.returned r2) w58)))
def A_sha_Sum : Ann := ⟨[(3, [17], 33423392), (11, [33], 4503591037436160), (18, [58], 151115439221452495127552)], [], [], [], []⟩
theorem E_sha_Sum (x0 : Value) (w : World) (R : Ending → World → Prop) : cwp Try.prog A_sha_Sum (Try.f53.body.getD .skip) (retPost Try.prog Try.f53.results.toList R) (argE [x0]) w = F_sha_Sum x0 w R := by kernel_rfl
theorem C_sha_Sum {x0 : Value} {w : World} {R : Ending → World → Prop} (h : F_sha_Sum x0 w R) : Calls Try.prog 53 #[x0] w R :=
 calls_cwp (A := A_sha_Sum) (args := [x0]) mixed Try.func53 (c := Try.f53.body.getD .skip) (by kernel_rfl) (by kernel_rfl) (by kernel_rfl) ((E_sha_Sum x0 w R).mpr h)
def F_tree_hashAt (x0 x1 : Value) (w : World) (R : Ending → World → Prop) : Prop :=
 m R (o_box 27 x0) w fun x2 w1 =>
 m R (o_alloc 34) w1 fun x4 w2 =>
 m R (o_call (fv 95) []) w2 fun x11 w3 =>
 m R (o_bin .rem 3 true x1 (.int .i64 2)) w3 fun x13 w4 =>
 m R (o_bin .eql 3 true x13 (.int .i64 0)) w4 fun x14 w5 =>
 mif x14 (
 m R (o_fieldAddr 27 x2 0) w5 fun x16 w6 =>
 m R (o_load 24 x16) w6 fun x17 w7 =>
 m R (o_bin .quo 3 true x1 (.int .i64 2)) w7 fun x19 w8 =>
 m R (o_indexAddr 24 x17 x19) w8 fun x20 w9 =>
 m R (o_load 36 x20) w9 fun x21 w10 =>
 m R (o_call (fv 96) [x11, x21]) w10 fun x22 w11 =>
 m R (o_call (fv 97) [x11]) w11 fun x25 w12 =>
 m R (o_extract x25 0) w12 fun x26 w13 =>
 m R (o_extract x25 1) w13 fun x27 w14 =>
 m R (o_buildSlice 137 2 [(0, (.string (ByteArray.mk #[108, 101, 97, 102]))), (1, x26)]) w14 fun x29 w15 =>
 m R (o_call (fv 53) [x29]) w15 fun x30 w16 =>
 m R (o_store 34 x4 x30) w16 fun _ w17 =>
 rcell Try.prog 34 x4 w17 fun r4 =>
 R (.returned r4) w17) (
 m R (o_fieldAddr 27 x2 0) w5 fun x31 w18 =>
 m R (o_load 24 x31) w18 fun x32 w19 =>
 m R (o_builtin .len #[24] 3 [false] [x32]) w19 fun x33 w20 =>
 m R (o_fieldAddr 27 x2 1) w20 fun x35 w21 =>
 m R (o_load 25 x35) w21 fun x36 w22 =>
 m R (o_bin .quo 3 true x1 (.int .i64 2)) w22 fun x38 w23 =>
 m R (o_indexAddr 25 x36 x38) w23 fun x39 w24 =>
 m R (o_load 96 x39) w24 fun x40 w25 =>
 m R (o_call (fv 98) [x11, x40]) w25 fun x41 w26 =>
 dq Try.prog w26 (o_load 27 x2) fun x43 =>
 df Try.prog w26 (o_call (fv 48) [x33, x1]) true fun x46 w27 =>
 df Try.prog w27 (o_call (fv 54) [x43, x46]) false fun x47 w28 =>
 df Try.prog w28 (o_call (fv 99) [x11, x47]) false fun x48 w29 =>
 dend w29 fun w30 =>
 dq Try.prog w30 (o_load 27 x2) fun x50 =>
 df Try.prog w30 (o_call (fv 49) [x33, x1]) true fun x53 w31 =>
 df Try.prog w31 (o_call (fv 54) [x50, x53]) false fun x54 w32 =>
 df Try.prog w32 (o_call (fv 99) [x11, x54]) false fun x55 w33 =>
 dend w33 fun w34 =>
 m R (o_call (fv 97) [x11]) w34 fun x58 w35 =>
 m R (o_extract x58 0) w35 fun x59 w36 =>
 m R (o_extract x58 1) w36 fun x60 w37 =>
 m R (o_buildSlice 137 2 [(0, (.string (ByteArray.mk #[110, 111, 100, 101]))), (1, x59)]) w37 fun x62 w38 =>
 m R (o_call (fv 53) [x62]) w38 fun x63 w39 =>
 m R (o_store 34 x4 x63) w39 fun _ w40 =>
 rcell Try.prog 34 x4 w40 fun r4 =>
 R (.returned r4) w40)
def A_tree_hashAt : Ann := ⟨[], [], [(8, [⟨0, .q none, 32, 0, 4398046511104⟩, ⟨1, .q (some 0), 4, 0, 8796093022208⟩, ⟨2, .q none, 256, 0, 17592186044416⟩, ⟨3, .q none, 2, 0, 35184372088832⟩, ⟨4, .f 0 true, 52776558133248, 12, 70368744177664⟩, ⟨5, .f 1 false, 79164837199872, 30, 140737488355328⟩, ⟨6, .f 2 false, 145135534866432, 63, 281474976710656⟩]), (9, [⟨0, .q none, 32, 0, 562949953421312⟩, ⟨1, .q (some 0), 4, 0, 1125899906842624⟩, ⟨2, .q none, 256, 0, 2251799813685248⟩, ⟨3, .q none, 2, 0, 4503599627370496⟩, ⟨4, .f 0 true, 6755399441055744, 12, 9007199254740992⟩, ⟨5, .f 1 false, 10133099161583616, 30, 18014398509481984⟩, ⟨6, .f 2 false, 18577348462903296, 63, 36028797018963968⟩])], [], []⟩
theorem E_tree_hashAt (x0 x1 : Value) (w : World) (R : Ending → World → Prop) : cwp Try.prog A_tree_hashAt (Try.f54.body.getD .skip) (retPost Try.prog Try.f54.results.toList R) (argE [x0, x1]) w = F_tree_hashAt x0 x1 w R := by kernel_rfl
theorem C_tree_hashAt {x0 x1 : Value} {w : World} {R : Ending → World → Prop} (h : F_tree_hashAt x0 x1 w R) : Calls Try.prog 54 #[x0, x1] w R :=
 calls_cwp (A := A_tree_hashAt) (args := [x0, x1]) mixed Try.func54 (c := Try.f54.body.getD .skip) (by kernel_rfl) (by kernel_rfl) (by kernel_rfl) ((E_tree_hashAt x0 x1 w R).mpr h)
def F_bough_Root (x0 : Value) (w : World) (R : Ending → World → Prop) : Prop :=
 m R (o_call (fv 89) [x0, (.int .i64 0)]) w fun x5 w1 =>
 m R (o_un .not x5) w1 fun x6 w2 =>
 mif x6 (
 R (.returned (.int .i64 (-1))) w2) (
 ml1 (.int .i64 1) w2 fun x3 u4 w3 next4 =>
 m R (o_bin .lss 3 false x3 x0) w3 fun x9 w4 =>
 mif x9 (
 m R (o_bin .mul 3 true x3 (.int .i64 2)) w4 fun x11 w5 =>
 next4 x11 w5) (
 m R (o_bin .sub 3 true x3 (.int .i64 1)) w4 fun x13 w6 =>
 R (.returned x13) w6))
def A_bough_Root : Ann := ⟨[(4, [3], 3976)], [], [], [], []⟩
theorem E_bough_Root (x0 : Value) (w : World) (R : Ending → World → Prop) : cwp Try.prog A_bough_Root (Try.f55.body.getD .skip) (retPost Try.prog Try.f55.results.toList R) (argE [x0]) w = F_bough_Root x0 w R := by kernel_rfl
theorem C_bough_Root {x0 : Value} {w : World} {R : Ending → World → Prop} (h : F_bough_Root x0 w R) : Calls Try.prog 55 #[x0] w R :=
 calls_cwp (A := A_bough_Root) (args := [x0]) mixed Try.func55 (c := Try.f55.body.getD .skip) (by kernel_rfl) (by kernel_rfl) (by kernel_rfl) ((E_bough_Root x0 w R).mpr h)
def F_bevyref07_Direct (x0 x1 : Value) (w : World) (R : Ending → World → Prop) : Prop :=
 mj1 (fun j3 =>
 m R (o_bin .lss 3 true x1 (.int .i64 0)) w fun x8 w1 =>
 mguard x8 false (fun k => m R (o_move x1) w1 k) w1 fun x10 w2 =>
 mguard x8 false (fun k => m R (o_move x0) w2 k) w2 fun x11 w3 =>
 mguard x8 false (fun k => m R (o_bin .geq 3 false x10 x11) w3 k) w3 fun x12 w4 =>
 m R (o_pick x8 (.bool true) x12) w4 fun x13 w5 =>
 mguard x13 false (fun k => m R (o_move x0) w5 k) w5 fun x15 w6 =>
 mguard x13 false (fun k => m R (o_call (fv 50) [x15, (.int .i64 0)]) w6 k) w6 fun x16 w7 =>
 mguard x13 false (fun k => m R (o_un .not x16) w7 k) w7 fun x17 w8 =>
 m R (o_pick x13 (.bool true) x17) w8 fun x18 w9 =>
 j3 x18 w9) fun x18 u3 w10 =>
 mif x18 (
 R (.returned (.slice none 0 0)) w10) (
 m R (o_bin .mul 3 true (.int .i64 2) x1) w10 fun x22 w11 =>
 m R (o_call (fv 107) [x0, x22]) w11 fun x23 w12 =>
 ml2 (.slice none 0 0) x23 w12 fun x5 x6 u5 w13 next5 =>
 m R (o_bin .geq 3 true x6 (.int .i64 0)) w13 fun x25 w14 =>
 mif x25 (
 m R (o_buildSlice 29 1 [(0, x6)]) w14 fun x31 w15 =>
 m R (o_builtin .append #[29, 29] 29 [false, false] [x5, x31]) w15 fun x32 w16 =>
 m R (o_call (fv 107) [x0, x6]) w16 fun x28 w17 =>
 next5 x32 x28 w17) (
 R (.returned x5) w14))
def A_bevyref07_Direct : Ann := ⟨[(5, [5, 6], 8573157472)], [(3, [18], 524160)], [], [], []⟩
theorem E_bevyref07_Direct (x0 x1 : Value) (w : World) (R : Ending → World → Prop) : cwp Try.prog A_bevyref07_Direct (Try.f58.body.getD .skip) (retPost Try.prog Try.f58.results.toList R) (argE [x0, x1]) w = F_bevyref07_Direct x0 x1 w R := by kernel_rfl
theorem C_bevyref07_Direct {x0 x1 : Value} {w : World} {R : Ending → World → Prop} (h : F_bevyref07_Direct x0 x1 w R) : Calls Try.prog 58 #[x0, x1] w R :=
 calls_cwp (A := A_bevyref07_Direct) (args := [x0, x1]) mixed Try.func58 (c := Try.f58.body.getD .skip) (by kernel_rfl) (by kernel_rfl) (by kernel_rfl) ((E_bevyref07_Direct x0 x1 w R).mpr h)
def F_tree_none (x0 x1 : Value) (w : World) (R : Ending → World → Prop) : Prop :=
 m R (o_box 27 x0) w fun x2 w1 =>
 m R (o_bin .lss 3 true x1 (.int .i64 0)) w1 fun x6 w2 =>
 mguard x6 false (fun k => m R (o_move x1) w2 k) w2 fun x8 w3 =>
 mguard x6 false (fun k => m R (o_fieldAddr 27 x2 0) w3 k) w3 fun x9 w4 =>
 mguard x6 false (fun k => m R (o_load 24 x9) w4 k) w4 fun x10 w5 =>
 mguard x6 false (fun k => m R (o_builtin .len #[24] 3 [false] [x10]) w5 k) w5 fun x11 w6 =>
 mguard x6 false (fun k => m R (o_bin .geq 3 false x8 x11) w6 k) w6 fun x12 w7 =>
 m R (o_pick x6 (.bool true) x12) w7 fun x13 w8 =>
 mguard x13 false (fun k => m R (o_fieldAddr 27 x2 0) w8 k) w8 fun x15 w9 =>
 mguard x13 false (fun k => m R (o_load 24 x15) w9 k) w9 fun x16 w10 =>
 mguard x13 false (fun k => m R (o_move x1) w10 k) w10 fun x17 w11 =>
 mguard x13 false (fun k => m R (o_indexAddr 24 x16 x17) w11 k) w11 fun x18 w12 =>
 mguard x13 false (fun k => m R (o_fieldAddr 36 x18 0) w12 k) w12 fun x19 w13 =>
 mguard x13 false (fun k => m R (o_load 3 x19) w13 k) w13 fun x20 w14 =>
 mguard x13 false (fun k => m R (o_bin .eql 3 true x20 (.int .i64 0)) w14 k) w14 fun x21 w15 =>
 m R (o_pick x13 (.bool true) x21) w15 fun x22 w16 =>
 R (.returned x22) w16
def A_tree_none : Ann := ⟨[], [], [], [], []⟩
theorem E_tree_none (x0 x1 : Value) (w : World) (R : Ending → World → Prop) : cwp Try.prog A_tree_none (Try.f59.body.getD .skip) (retPost Try.prog Try.f59.results.toList R) (argE [x0, x1]) w = F_tree_none x0 x1 w R := by kernel_rfl
theorem C_tree_none {x0 x1 : Value} {w : World} {R : Ending → World → Prop} (h : F_tree_none x0 x1 w R) : Calls Try.prog 59 #[x0, x1] w R :=
 calls_cwp (A := A_tree_none) (args := [x0, x1]) mixed Try.func59 (c := Try.f59.body.getD .skip) (by kernel_rfl) (by kernel_rfl) (by kernel_rfl) ((E_tree_none x0 x1 w R).mpr h)
def F_tree_clone (x0 : Value) (w : World) (R : Ending → World → Prop) : Prop :=
 m R (o_box 27 x0) w fun x1 w1 =>
 m R (o_alloc 27) w1 fun x2 w2 =>
 mj1 (fun j2 =>
 ((
 dp Try.prog (o_fieldAddr 27 x1 0) fun x5 =>
 dq Try.prog w2 (o_load 24 x5) fun x6 =>
 dp Try.prog (o_fieldAddr 27 x1 1) fun x8 =>
 dq Try.prog w2 (o_load 25 x8) fun x9 =>
 df Try.prog w2 (o_call (fv 83) [x6]) true fun x7 w3 =>
 df Try.prog w3 (o_call (fv 84) [x9]) false fun x10 w4 =>
 dp Try.prog (o_build 27 [(0, x7), (1, x10)]) fun x11 =>
 df Try.prog w4 (o_alloc 27) true fun x3 w5 =>
 df Try.prog w5 (o_store 27 x3 x11) false fun _ w6 =>
 dend w6 fun w7 =>
 j2 x3 w7) ∧ (
 dp Try.prog (o_fieldAddr 27 x1 0) fun x5 =>
 dq Try.prog w2 (o_load 24 x5) fun x6 =>
 dp Try.prog (o_fieldAddr 27 x1 1) fun x8 =>
 dq Try.prog w2 (o_load 25 x8) fun x9 =>
 df Try.prog w2 (o_call (fv 83) [x6]) true fun x7 w8 =>
 df Try.prog w8 (o_alloc 27) true fun x3 w9 =>
 df Try.prog w9 (o_call (fv 84) [x9]) false fun x10 w10 =>
 dp Try.prog (o_build 27 [(0, x7), (1, x10)]) fun x11 =>
 df Try.prog w10 (o_store 27 x3 x11) false fun _ w11 =>
 dend w11 fun w12 =>
 j2 x3 w12) ∧ (
 dp Try.prog (o_fieldAddr 27 x1 0) fun x5 =>
 dq Try.prog w2 (o_load 24 x5) fun x6 =>
 dp Try.prog (o_fieldAddr 27 x1 1) fun x8 =>
 dq Try.prog w2 (o_load 25 x8) fun x9 =>
 df Try.prog w2 (o_alloc 27) true fun x3 w13 =>
 df Try.prog w13 (o_call (fv 83) [x6]) true fun x7 w14 =>
 df Try.prog w14 (o_call (fv 84) [x9]) false fun x10 w15 =>
 dp Try.prog (o_build 27 [(0, x7), (1, x10)]) fun x11 =>
 df Try.prog w15 (o_store 27 x3 x11) false fun _ w16 =>
 dend w16 fun w17 =>
 j2 x3 w17))) fun x3 u2 w18 =>
 m R (o_fieldAddr 27 x3 1) w18 fun x12 w19 =>
 m R (o_load 25 x12) w19 fun x13 w20 =>
 m R (o_builtin .len #[25] 3 [false] [x13]) w20 fun x14 w21 =>
 ml1 (.int .i64 0) w21 fun x15 u3 w22 next3 =>
 m R (o_bin .lss 3 false x15 x14) w22 fun x16 w23 =>
 mif x16 (
 dp Try.prog (o_fieldAddr 27 x3 1) fun x18 =>
 dq Try.prog w23 (o_load 25 x18) fun x19 =>
 dp Try.prog (o_fieldAddr 27 x3 1) fun x21 =>
 dq Try.prog w23 (o_load 25 x21) fun x22 =>
 dp Try.prog (o_indexAddr 25 x22 x15) fun x24 =>
 dp Try.prog (o_fieldAddr 96 x24 3) fun x25 =>
 dq Try.prog w23 (o_load 29 x25) fun x26 =>
 df Try.prog w23 (o_call (fv 85) [x26]) true fun x27 w24 =>
 dp Try.prog (o_indexAddr 25 x19 x15) fun x28 =>
 dp Try.prog (o_fieldAddr 96 x28 3) fun x29 =>
 df Try.prog w24 (o_store 29 x29 x27) false fun _ w25 =>
 dend w25 fun w26 =>
 m R (o_bin .add 3 true x15 (.int .i64 1)) w26 fun x30 w27 =>
 next3 x30 w27) (
 m R (o_load 27 x3) w23 fun x31 w28 =>
 m R (o_store 27 x2 x31) w28 fun _ w29 =>
 rcell Try.prog 27 x2 w29 fun r2 =>
 R (.returned r2) w29)
def A_tree_clone : Ann := ⟨[(3, [15], 2147450896)], [(2, [3], 4072)], [(5, [⟨0, .q none, 8, 0, 262144⟩, ⟨1, .q (some 0), 262144, 1, 524288⟩, ⟨2, .q none, 16, 0, 1048576⟩, ⟨3, .q none, 8, 0, 2097152⟩, ⟨4, .q (some 0), 2097152, 8, 4194304⟩, ⟨5, .q none, 16, 0, 8388608⟩, ⟨6, .q none, 12582912, 56, 16777216⟩, ⟨7, .q none, 16777216, 120, 33554432⟩, ⟨8, .q (some 0), 33554432, 248, 67108864⟩, ⟨9, .f 0 true, 67108864, 504, 134217728⟩, ⟨10, .q none, 1572864, 1023, 268435456⟩, ⟨11, .q none, 268435456, 2047, 536870912⟩, ⟨12, .f 1 false, 671088640, 4095, 0⟩])], [(1, [⟨[0, 1, 3, 4, 2, 5, 6, 7, 8], [⟨0, .q none, 2, 0, 32⟩, ⟨1, .q (some 0), 32, 1, 64⟩, ⟨2, .f 0 true, 64, 3, 128⟩, ⟨3, .q none, 2, 0, 256⟩, ⟨4, .q (some 0), 256, 8, 512⟩, ⟨5, .f 1 false, 512, 31, 1024⟩, ⟨6, .q none, 1152, 63, 2048⟩, ⟨7, .f 2 true, 0, 0, 8⟩, ⟨8, .f 3 false, 2056, 255, 0⟩]⟩, ⟨[0, 1, 3, 4, 2, 7, 5, 6, 8], [⟨0, .q none, 2, 0, 32⟩, ⟨1, .q (some 0), 32, 1, 64⟩, ⟨2, .f 0 true, 64, 3, 128⟩, ⟨3, .q none, 2, 0, 256⟩, ⟨4, .q (some 0), 256, 8, 512⟩, ⟨5, .f 2 false, 512, 31, 1024⟩, ⟨6, .q none, 1152, 63, 2048⟩, ⟨7, .f 1 true, 0, 0, 8⟩, ⟨8, .f 3 false, 2056, 255, 0⟩]⟩, ⟨[0, 1, 3, 4, 7, 2, 5, 6, 8], [⟨0, .q none, 2, 0, 32⟩, ⟨1, .q (some 0), 32, 1, 64⟩, ⟨2, .f 1 true, 64, 3, 128⟩, ⟨3, .q none, 2, 0, 256⟩, ⟨4, .q (some 0), 256, 8, 512⟩, ⟨5, .f 2 false, 512, 31, 1024⟩, ⟨6, .q none, 1152, 63, 2048⟩, ⟨7, .f 0 true, 0, 0, 8⟩, ⟨8, .f 3 false, 2056, 255, 0⟩]⟩])], []⟩
theorem E_tree_clone (x0 : Value) (w : World) (R : Ending → World → Prop) : cwp Try.prog A_tree_clone (Try.f61.body.getD .skip) (retPost Try.prog Try.f61.results.toList R) (argE [x0]) w = F_tree_clone x0 w R := by kernel_rfl
theorem C_tree_clone {x0 : Value} {w : World} {R : Ending → World → Prop} (h : F_tree_clone x0 w R) : Calls Try.prog 61 #[x0] w R :=
 calls_cwp (A := A_tree_clone) (args := [x0]) mixed Try.func61 (c := Try.f61.body.getD .skip) (by kernel_rfl) (by kernel_rfl) (by kernel_rfl) ((E_tree_clone x0 w R).mpr h)
def F_tree_HashAt (x0 x1 : Value) (w : World) (R : Ending → World → Prop) : Prop :=
 m R (o_box 27 x0) w fun x2 w1 =>
 m R (o_alloc 34) w1 fun x4 w2 =>
 m R (o_load 27 x2) w2 fun x5 w3 =>
 m R (o_call (fv 46) [x5]) w3 fun x6 w4 =>
 m R (o_store 27 x2 x6) w4 fun _ w5 =>
 mj1 (fun j3 =>
 m R (o_bin .lss 3 true x1 (.int .i64 0)) w5 fun x8 w6 =>
 mguard x8 false (fun k => m R (o_move x1) w6 k) w6 fun x10 w7 =>
 mguard x8 false (fun k => m R (o_fieldAddr 27 x2 0) w7 k) w7 fun x11 w8 =>
 mguard x8 false (fun k => m R (o_load 24 x11) w8 k) w8 fun x12 w9 =>
 mguard x8 false (fun k => m R (o_builtin .len #[24] 3 [false] [x12]) w9 k) w9 fun x13 w10 =>
 mguard x8 false (fun k => m R (o_bin .mul 3 true (.int .i64 2) x13) w10 k) w10 fun x14 w11 =>
 mguard x8 false (fun k => m R (o_bin .sub 3 true x14 (.int .i64 1)) w11 k) w11 fun x15 w12 =>
 mguard x8 false (fun k => m R (o_bin .geq 3 false x10 x15) w12 k) w12 fun x16 w13 =>
 m R (o_pick x8 (.bool true) x16) w13 fun x17 w14 =>
 j3 x17 w14) fun x17 u3 w15 =>
 mif x17 (
 m R (o_build 34 []) w15 fun x18 w16 =>
 m R (o_store 34 x4 x18) w16 fun _ w17 =>
 rcell Try.prog 34 x4 w17 fun r4 =>
 R (.returned r4) w17) (
 m R (o_load 27 x2) w15 fun x19 w18 =>
 m R (o_call (fv 54) [x19, x1]) w18 fun x21 w19 =>
 m R (o_store 34 x4 x21) w19 fun _ w20 =>
 rcell Try.prog 34 x4 w20 fun r4 =>
 R (.returned r4) w20)
def A_tree_HashAt : Ann := ⟨[], [(3, [17], 262016)], [], [], []⟩
theorem E_tree_HashAt (x0 x1 : Value) (w : World) (R : Ending → World → Prop) : cwp Try.prog A_tree_HashAt (Try.f62.body.getD .skip) (retPost Try.prog Try.f62.results.toList R) (argE [x0, x1]) w = F_tree_HashAt x0 x1 w R := by kernel_rfl
theorem C_tree_HashAt {x0 x1 : Value} {w : World} {R : Ending → World → Prop} (h : F_tree_HashAt x0 x1 w R) : Calls Try.prog 62 #[x0, x1] w R :=
 calls_cwp (A := A_tree_HashAt) (args := [x0, x1]) mixed Try.func62 (c := Try.f62.body.getD .skip) (by kernel_rfl) (by kernel_rfl) (by kernel_rfl) ((E_tree_HashAt x0 x1 w R).mpr h)
def F_bough_Beside (x0 x1 : Value) (w : World) (R : Ending → World → Prop) : Prop :=
 m R (o_call (fv 109) [x0, x1]) w fun x8 w1 =>
 m R (o_bin .lss 3 true x8 (.int .i64 0)) w1 fun x11 w2 =>
 mif x11 (
 R (.returned (.int .i64 (-1))) w2) (
 m R (o_bin .lss 3 false x1 x8) w2 fun x15 w3 =>
 mif x15 (
 m R (o_call (fv 49) [x0, x8]) w3 fun x18 w4 =>
 R (.returned x18) w4) (
 m R (o_call (fv 48) [x0, x8]) w3 fun x21 w5 =>
 R (.returned x21) w5))
def A_bough_Beside : Ann := ⟨[], [], [], [], []⟩
theorem E_bough_Beside (x0 x1 : Value) (w : World) (R : Ending → World → Prop) : cwp Try.prog A_bough_Beside (Try.f63.body.getD .skip) (retPost Try.prog Try.f63.results.toList R) (argE [x0, x1]) w = F_bough_Beside x0 x1 w R := by kernel_rfl
theorem C_bough_Beside {x0 x1 : Value} {w : World} {R : Ending → World → Prop} (h : F_bough_Beside x0 x1 w R) : Calls Try.prog 63 #[x0, x1] w R :=
 calls_cwp (A := A_bough_Beside) (args := [x0, x1]) mixed Try.func63 (c := Try.f63.body.getD .skip) (by kernel_rfl) (by kernel_rfl) (by kernel_rfl) ((E_bough_Beside x0 x1 w R).mpr h)
def F_tree_zero (x0 : Value) (w : World) (R : Ending → World → Prop) : Prop :=
 m R (o_box 96 x0) w fun x1 w1 =>
 m R (o_fieldAddr 96 x1 0) w1 fun x3 w2 =>
 m R (o_load 4 x3) w2 fun x4 w3 =>
 m R (o_un .not x4) w3 fun x5 w4 =>
 mguard x5 true (fun k => m R (o_fieldAddr 96 x1 1) w4 k) w4 fun x7 w5 =>
 mguard x5 true (fun k => m R (o_load 34 x7) w5 k) w5 fun x8 w6 =>
 mguard x5 true (fun k => m R (o_build 34 []) w6 k) w6 fun x9 w7 =>
 mguard x5 true (fun k => m R (o_bin .eql 34 false x8 x9) w7 k) w7 fun x10 w8 =>
 m R (o_pick x5 x10 (.bool false)) w8 fun x11 w9 =>
 mguard x11 true (fun k => m R (o_fieldAddr 96 x1 2) w9 k) w9 fun x13 w10 =>
 mguard x11 true (fun k => m R (o_load 34 x13) w10 k) w10 fun x14 w11 =>
 mguard x11 true (fun k => m R (o_build 34 []) w11 k) w11 fun x15 w12 =>
 mguard x11 true (fun k => m R (o_bin .eql 34 false x14 x15) w12 k) w12 fun x16 w13 =>
 m R (o_pick x11 x16 (.bool false)) w13 fun x17 w14 =>
 mguard x17 true (fun k => m R (o_fieldAddr 96 x1 3) w14 k) w14 fun x19 w15 =>
 mguard x17 true (fun k => m R (o_load 29 x19) w15 k) w15 fun x20 w16 =>
 mguard x17 true (fun k => m R (o_builtin .len #[29] 3 [false] [x20]) w16 k) w16 fun x21 w17 =>
 mguard x17 true (fun k => m R (o_bin .eql 3 true x21 (.int .i64 0)) w17 k) w17 fun x22 w18 =>
 m R (o_pick x17 x22 (.bool false)) w18 fun x23 w19 =>
 R (.returned x23) w19
def A_tree_zero : Ann := ⟨[], [], [], [], []⟩
theorem E_tree_zero (x0 : Value) (w : World) (R : Ending → World → Prop) : cwp Try.prog A_tree_zero (Try.f67.body.getD .skip) (retPost Try.prog Try.f67.results.toList R) (argE [x0]) w = F_tree_zero x0 w R := by kernel_rfl
theorem C_tree_zero {x0 : Value} {w : World} {R : Ending → World → Prop} (h : F_tree_zero x0 w R) : Calls Try.prog 67 #[x0] w R :=
 calls_cwp (A := A_tree_zero) (args := [x0]) mixed Try.func67 (c := Try.f67.body.getD .skip) (by kernel_rfl) (by kernel_rfl) (by kernel_rfl) ((E_tree_zero x0 w R).mpr h)
end Go.Proofs.Ytopcnkejobomaaa
set_option linter.unusedVariables false
namespace Go.Proofs.Ytopcnkejobomaaa
def F_bough_Holds (x0 x1 x2 : Value) (w : World) (R : Ending → World → Prop) : Prop :=
 m R (o_call (fv 111) [x0, x1]) w fun x12 w1 =>
 m R (o_extract x12 0) w1 fun x13 w2 =>
 m R (o_extract x12 1) w2 fun x14 w3 =>
 m R (o_bin .geq 3 false x2 x13) w3 fun x17 w4 =>
 mguard x17 true (fun k => m R (o_move x2) w4 k) w4 fun x19 w5 =>
 mguard x17 true (fun k => m R (o_move x14) w5 k) w5 fun x20 w6 =>
 mguard x17 true (fun k => m R (o_bin .lss 3 false x19 x20) w6 k) w6 fun x21 w7 =>
 m R (o_pick x17 x21 (.bool false)) w7 fun x22 w8 =>
 R (.returned x22) w8
def A_bough_Holds : Ann := ⟨[], [], [], [], []⟩
theorem E_bough_Holds (x0 x1 x2 : Value) (w : World) (R : Ending → World → Prop) : cwp Try.prog A_bough_Holds (Try.f68.body.getD .skip) (retPost Try.prog Try.f68.results.toList R) (argE [x0, x1, x2]) w = F_bough_Holds x0 x1 x2 w R := by kernel_rfl
theorem C_bough_Holds {x0 x1 x2 : Value} {w : World} {R : Ending → World → Prop} (h : F_bough_Holds x0 x1 x2 w R) : Calls Try.prog 68 #[x0, x1, x2] w R :=
 calls_cwp (A := A_bough_Holds) (args := [x0, x1, x2]) mixed Try.func68 (c := Try.f68.body.getD .skip) (by kernel_rfl) (by kernel_rfl) (by kernel_rfl) ((E_bough_Holds x0 x1 x2 w R).mpr h)
def F_slices_Index_api_Leaf_api_Leaf (x0 x1 : Value) (w : World) (R : Ending → World → Prop) : Prop :=
 m R (o_box 36 x1) w fun x3 w1 =>
 m R (o_builtin .len #[24] 3 [false] [x0]) w1 fun x7 w2 =>
 ml1 (.int .i64 0) w2 fun x8 u2 w3 next2 =>
 m R (o_bin .lss 3 false x8 x7) w3 fun x9 w4 =>
 mif x9 (
 dq Try.prog w4 (o_load 36 x3) fun x11 =>
 dp Try.prog (o_indexAddr 24 x0 x8) fun x14 =>
 dq Try.prog w4 (o_load 36 x14) fun x15 =>
 dp Try.prog (o_bin .eql 36 false x11 x15) fun x16 =>
 dend w4 fun w5 =>
 mif x16 (
 R (.returned x8) w5) (
 m R (o_bin .add 3 true x8 (.int .i64 1)) w5 fun x18 w6 =>
 next2 x18 w6)) (
 R (.returned (.int .i64 (-1))) w4)
def A_slices_Index_api_Leaf_api_Leaf : Ann := ⟨[(2, [8], 524080)], [], [(4, [⟨0, .q (some 0), 8, 0, 2048⟩, ⟨1, .q none, 1, 0, 4096⟩, ⟨2, .q none, 32, 0, 8192⟩, ⟨3, .q none, 12288, 6, 16384⟩, ⟨4, .q (some 0), 16384, 14, 32768⟩, ⟨5, .q none, 34816, 31, 65536⟩])], [], []⟩
theorem E_slices_Index_api_Leaf_api_Leaf (x0 x1 : Value) (w : World) (R : Ending → World → Prop) : cwp Try.prog A_slices_Index_api_Leaf_api_Leaf (Try.f69.body.getD .skip) (retPost Try.prog Try.f69.results.toList R) (argE [x0, x1]) w = F_slices_Index_api_Leaf_api_Leaf x0 x1 w R := by kernel_rfl
theorem C_slices_Index_api_Leaf_api_Leaf {x0 x1 : Value} {w : World} {R : Ending → World → Prop} (h : F_slices_Index_api_Leaf_api_Leaf x0 x1 w R) : Calls Try.prog 69 #[x0, x1] w R :=
 calls_cwp (A := A_slices_Index_api_Leaf_api_Leaf) (args := [x0, x1]) mixed Try.func69 (c := Try.f69.body.getD .skip) (by kernel_rfl) (by kernel_rfl) (by kernel_rfl) ((E_slices_Index_api_Leaf_api_Leaf x0 x1 w R).mpr h)
def F_slices_BinarySearch_int_int (x0 x1 : Value) (w : World) (R : Ending → World → Prop) : Prop :=
 m R (o_builtin .len #[29] 3 [false] [x0]) w fun x11 w1 =>
 ml2 (.int .i64 0) x11 w1 fun x7 x8 u3 w2 next3 =>
 m R (o_bin .lss 3 false x7 x8) w2 fun x15 w3 =>
 mif x15 (
 m R (o_bin .add 3 false x7 x8) w3 fun x18 w4 =>
 m R (o_conv 3 120 x18) w4 fun x19 w5 =>
 m R (o_bin .shr 120 true x19 (.int .u64 1)) w5 fun x20 w6 =>
 m R (o_conv 120 3 x20) w6 fun x21 w7 =>
 m R (o_indexAddr 29 x0 x21) w7 fun x24 w8 =>
 m R (o_load 3 x24) w8 fun x25 w9 =>
 m R (o_call (fv 112) [x25, x1]) w9 fun x27 w10 =>
 mif x27 (
 m R (o_bin .add 3 true x21 (.int .i64 1)) w10 fun x29 w11 =>
 next3 x29 x8 w11) (
 next3 x7 x21 w10)) (
 m R (o_bin .lss 3 false x7 x11) w3 fun x34 w12 =>
 mguard x34 true (fun k => m R (o_move x0) w12 k) w12 fun x36 w13 =>
 mguard x34 true (fun k => m R (o_move x7) w13 k) w13 fun x37 w14 =>
 mguard x34 true (fun k => m R (o_indexAddr 29 x36 x37) w14 k) w14 fun x38 w15 =>
 mguard x34 true (fun k => m R (o_load 3 x38) w15 k) w15 fun x39 w16 =>
 mguard x34 true (fun k => m R (o_move x1) w16 k) w16 fun x40 w17 =>
 mguard x34 true (fun k => m R (o_bin .eql 3 false x39 x40) w17 k) w17 fun x41 w18 =>
 mguard x34 true (fun k => m R (o_move x41) w18 k) w18 fun x42 w19 =>
 mguard x42 false (fun k => m R (o_move x0) w19 k) w19 fun x43 w20 =>
 mguard x42 false (fun k => m R (o_move x7) w20 k) w20 fun x44 w21 =>
 mguard x42 false (fun k => m R (o_indexAddr 29 x43 x44) w21 k) w21 fun x45 w22 =>
 mguard x42 false (fun k => m R (o_load 3 x45) w22 k) w22 fun x46 w23 =>
 mguard x42 false (fun k => m R (o_call (fv 113) [x46]) w23 k) w23 fun x47 w24 =>
 mguard x42 false (fun k => m R (o_move x47) w24 k) w24 fun x48 w25 =>
 mguard x48 true (fun k => m R (o_move x1) w25 k) w25 fun x49 w26 =>
 mguard x48 true (fun k => m R (o_call (fv 113) [x49]) w26 k) w26 fun x50 w27 =>
 mguard x42 false (fun k => m R (o_pick x48 x50 (.bool false)) w27 k) w27 fun x51 w28 =>
 mguard x34 true (fun k => m R (o_pick x42 (.bool true) x51) w28 k) w28 fun x52 w29 =>
 m R (o_pick x34 x52 (.bool false)) w29 fun x53 w30 =>
 R (.returned (.tuple #[x7, x53])) w30)
def A_slices_BinarySearch_int_int : Ann := ⟨[(3, [7, 8], 2147476352)], [], [], [], []⟩
theorem E_slices_BinarySearch_int_int (x0 x1 : Value) (w : World) (R : Ending → World → Prop) : cwp Try.prog A_slices_BinarySearch_int_int (Try.f70.body.getD .skip) (retPost Try.prog Try.f70.results.toList R) (argE [x0, x1]) w = F_slices_BinarySearch_int_int x0 x1 w R := by kernel_rfl
theorem C_slices_BinarySearch_int_int {x0 x1 : Value} {w : World} {R : Ending → World → Prop} (h : F_slices_BinarySearch_int_int x0 x1 w R) : Calls Try.prog 70 #[x0, x1] w R :=
 calls_cwp (A := A_slices_BinarySearch_int_int) (args := [x0, x1]) mixed Try.func70 (c := Try.f70.body.getD .skip) (by kernel_rfl) (by kernel_rfl) (by kernel_rfl) ((E_slices_BinarySearch_int_int x0 x1 w R).mpr h)
def F_slices_Insert_int_int (x0 x1 x2 : Value) (w : World) (R : Ending → World → Prop) : Prop :=
 m R (o_slice 29 x0 (some x1) none none) w fun x12 w1 =>
 m R (o_builtin .len #[29] 3 [false] [x2]) w1 fun x14 w2 =>
 m R (o_bin .eql 3 true x14 (.int .i64 0)) w2 fun x16 w3 =>
 mif x16 (
 R (.returned x0) w3) (
 m R (o_builtin .len #[29] 3 [false] [x0]) w3 fun x19 w4 =>
 m R (o_bin .eql 3 false x1 x19) w4 fun x22 w5 =>
 mif x22 (
 m R (o_builtin .append #[29, 29] 29 [false, false] [x0, x2]) w5 fun x25 w6 =>
 R (.returned x25) w6) (
 m R (o_bin .add 3 false x19 x14) w5 fun x28 w7 =>
 m R (o_builtin .cap #[29] 3 [false] [x0]) w7 fun x30 w8 =>
 m R (o_bin .gtr 3 false x28 x30) w8 fun x31 w9 =>
 mif x31 (
 m R (o_slice 29 x0 none (some x1) none) w9 fun x34 w10 =>
 m R (o_bin .add 3 false x19 x14) w10 fun x37 w11 =>
 m R (o_bin .sub 3 false x37 x1) w11 fun x39 w12 =>
 m R (o_builtin .append #[29, 3] 29 [false, false] [x34, x39]) w12 fun x40 w13 =>
 m R (o_slice 29 x40 (some x1) none none) w13 fun x43 w14 =>
 m R (o_builtin .copy #[29, 29] 3 [false, false] [x43, x2]) w14 fun x45 w15 =>
 dp Try.prog (o_bin .add 3 false x1 x14) fun x49 =>
 dp Try.prog (o_slice 29 x40 (some x49) none none) fun x50 =>
 dp Try.prog (o_slice 29 x0 (some x1) none none) fun x53 =>
 df Try.prog w15 (o_builtin .copy #[29, 29] 3 [false, false] [x50, x53]) false fun x54 w16 =>
 dend w16 fun w17 =>
 R (.returned x40) w17) (
 m R (o_bin .add 3 false x19 x14) w9 fun x59 w18 =>
 m R (o_slice 29 x0 none (some x59) none) w18 fun x60 w19 =>
 m R (o_bin .add 3 false x1 x14) w19 fun x65 w20 =>
 m R (o_slice 29 x60 (some x65) none none) w20 fun x66 w21 =>
 m R (o_call (fv 114) [x2, x66]) w21 fun x67 w22 =>
 m R (o_un .not x67) w22 fun x68 w23 =>
 mif x68 (
 dp Try.prog (o_bin .add 3 false x1 x14) fun x72 =>
 dp Try.prog (o_slice 29 x60 (some x72) none none) fun x73 =>
 dp Try.prog (o_slice 29 x60 (some x1) none none) fun x76 =>
 df Try.prog w23 (o_builtin .copy #[29, 29] 3 [false, false] [x73, x76]) false fun x77 w24 =>
 dend w24 fun w25 =>
 m R (o_slice 29 x60 (some x1) none none) w25 fun x80 w26 =>
 m R (o_builtin .copy #[29, 29] 3 [false, false] [x80, x2]) w26 fun x82 w27 =>
 R (.returned x60) w27) (
 m R (o_slice 29 x60 (some x19) none none) w23 fun x86 w28 =>
 m R (o_builtin .copy #[29, 29] 3 [false, false] [x86, x2]) w28 fun x88 w29 =>
 m R (o_slice 29 x60 (some x1) none none) w29 fun x91 w30 =>
 m R (o_call (fv 115) [x91, x14]) w30 fun x93 w31 =>
 R (.returned x60) w31))))
def A_slices_Insert_int_int : Ann := ⟨[], [], [(11, [⟨0, .q none, 512, 0, 70368744177664⟩, ⟨1, .q none, 2, 0, 140737488355328⟩, ⟨2, .q none, 128, 0, 281474976710656⟩, ⟨3, .q none, 422212465065984, 6, 562949953421312⟩, ⟨4, .q none, 633318697598976, 15, 1125899906842624⟩, ⟨5, .q none, 1, 0, 2251799813685248⟩, ⟨6, .q none, 2, 0, 4503599627370496⟩, ⟨7, .q none, 6755399441055744, 96, 9007199254740992⟩, ⟨8, .f 0 false, 10133099161583616, 255, 18014398509481984⟩]), (15, [⟨0, .q none, 1, 0, 590295810358705651712⟩, ⟨1, .q none, 2, 0, 1180591620717411303424⟩, ⟨2, .q none, 128, 0, 2361183241434822606848⟩, ⟨3, .q none, 3541774862152233910272, 6, 4722366482869645213696⟩, ⟨4, .q none, 5312662293228350865408, 15, 9444732965739290427392⟩, ⟨5, .q none, 1, 0, 18889465931478580854784⟩, ⟨6, .q none, 2, 0, 37778931862957161709568⟩, ⟨7, .q none, 56668397794435742564352, 96, 75557863725914323419136⟩, ⟨8, .f 0 false, 85002596691653613846528, 255, 151115727451828646838272⟩])], [], []⟩
theorem E_slices_Insert_int_int (x0 x1 x2 : Value) (w : World) (R : Ending → World → Prop) : cwp Try.prog A_slices_Insert_int_int (Try.f71.body.getD .skip) (retPost Try.prog Try.f71.results.toList R) (argE [x0, x1, x2]) w = F_slices_Insert_int_int x0 x1 x2 w R := by kernel_rfl
theorem C_slices_Insert_int_int {x0 x1 x2 : Value} {w : World} {R : Ending → World → Prop} (h : F_slices_Insert_int_int x0 x1 x2 w R) : Calls Try.prog 71 #[x0, x1, x2] w R :=
 calls_cwp (A := A_slices_Insert_int_int) (args := [x0, x1, x2]) mixed Try.func71 (c := Try.f71.body.getD .skip) (by kernel_rfl) (by kernel_rfl) (by kernel_rfl) ((E_slices_Insert_int_int x0 x1 x2 w R).mpr h)
def F_tree_blank (x0 x1 : Value) (w : World) (R : Ending → World → Prop) : Prop :=
 m R (o_box 27 x0) w fun x2 w1 =>
 m R (o_fieldAddr 27 x2 0) w1 fun x6 w2 =>
 m R (o_load 24 x6) w2 fun x7 w3 =>
 m R (o_builtin .len #[24] 3 [false] [x7]) w3 fun x8 w4 =>
 m R (o_call (fv 60) [x8, x1]) w4 fun x10 w5 =>
 m R (o_builtin .len #[29] 3 [false] [x10]) w5 fun x11 w6 =>
 ml1 (.int .i64 0) w6 fun x12 u2 w7 next2 =>
 m R (o_bin .lss 3 false x12 x11) w7 fun x13 w8 =>
 mif x13 (
 m R (o_indexAddr 29 x10 x12) w8 fun x14 w9 =>
 m R (o_load 3 x14) w9 fun x15 w10 =>
 m R (o_fieldAddr 27 x2 1) w10 fun x16 w11 =>
 m R (o_load 25 x16) w11 fun x17 w12 =>
 m R (o_bin .quo 3 true x15 (.int .i64 2)) w12 fun x19 w13 =>
 m R (o_build 96 []) w13 fun x20 w14 =>
 m R (o_indexAddr 25 x17 x19) w14 fun x21 w15 =>
 m R (o_store 96 x21 x20) w15 fun _ w16 =>
 m R (o_bin .add 3 true x12 (.int .i64 1)) w16 fun x22 w17 =>
 next2 x22 w17) (
 R (.returned (.tuple #[])) w8)
def A_tree_blank : Ann := ⟨[(2, [12], 8384544)], [], [], [], []⟩
theorem E_tree_blank (x0 x1 : Value) (w : World) (R : Ending → World → Prop) : cwp Try.prog A_tree_blank (Try.f72.body.getD .skip) (retPost Try.prog Try.f72.results.toList R) (argE [x0, x1]) w = F_tree_blank x0 x1 w R := by kernel_rfl
theorem C_tree_blank {x0 x1 : Value} {w : World} {R : Ending → World → Prop} (h : F_tree_blank x0 x1 w R) : Calls Try.prog 72 #[x0, x1] w R :=
 calls_cwp (A := A_tree_blank) (args := [x0, x1]) mixed Try.func72 (c := Try.f72.body.getD .skip) (by kernel_rfl) (by kernel_rfl) (by kernel_rfl) ((E_tree_blank x0 x1 w R).mpr h)
def F_slices_IndexFunc_api_Leaf_api_Leaf (x0 x1 : Value) (w : World) (R : Ending → World → Prop) : Prop :=
 m R (o_builtin .len #[24] 3 [false] [x0]) w fun x7 w1 =>
 ml1 (.int .i64 0) w1 fun x8 u2 w2 next2 =>
 m R (o_bin .lss 3 false x8 x7) w2 fun x9 w3 =>
 mif x9 (
 m R (o_indexAddr 24 x0 x8) w3 fun x14 w4 =>
 m R (o_load 36 x14) w4 fun x15 w5 =>
 m R (o_call x1 [x15]) w5 fun x16 w6 =>
 mif x16 (
 R (.returned x8) w6) (
 m R (o_bin .add 3 true x8 (.int .i64 1)) w6 fun x18 w7 =>
 next2 x18 w7)) (
 R (.returned (.int .i64 (-1))) w3)
def A_slices_IndexFunc_api_Leaf_api_Leaf : Ann := ⟨[(2, [8], 524080)], [], [], [], []⟩
theorem E_slices_IndexFunc_api_Leaf_api_Leaf (x0 x1 : Value) (w : World) (R : Ending → World → Prop) : cwp Try.prog A_slices_IndexFunc_api_Leaf_api_Leaf (Try.f75.body.getD .skip) (retPost Try.prog Try.f75.results.toList R) (argE [x0, x1]) w = F_slices_IndexFunc_api_Leaf_api_Leaf x0 x1 w R := by kernel_rfl
theorem C_slices_IndexFunc_api_Leaf_api_Leaf {x0 x1 : Value} {w : World} {R : Ending → World → Prop} (h : F_slices_IndexFunc_api_Leaf_api_Leaf x0 x1 w R) : Calls Try.prog 75 #[x0, x1] w R :=
 calls_cwp (A := A_slices_IndexFunc_api_Leaf_api_Leaf) (args := [x0, x1]) mixed Try.func75 (c := Try.f75.body.getD .skip) (by kernel_rfl) (by kernel_rfl) (by kernel_rfl) ((E_slices_IndexFunc_api_Leaf_api_Leaf x0 x1 w R).mpr h)
def F_tree_Place_1 (x0 x1 : Value) (w : World) (R : Ending → World → Prop) : Prop :=
 m R (o_box 36 x0) w fun x2 w1 =>
 m R (o_fieldAddr 36 x2 0) w1 fun x4 w2 =>
 m R (o_load 3 x4) w2 fun x5 w3 =>
 m R (o_load 3 x1) w3 fun x6 w4 =>
 m R (o_bin .eql 3 false x5 x6) w4 fun x7 w5 =>
 R (.returned x7) w5
def A_tree_Place_1 : Ann := ⟨[], [], [], [], []⟩
theorem E_tree_Place_1 (x0 x1 : Value) (w : World) (R : Ending → World → Prop) : cwp Try.prog A_tree_Place_1 (Try.f76.body.getD .skip) (retPost Try.prog Try.f76.results.toList R) (argE [x0, x1]) w = F_tree_Place_1 x0 x1 w R := by kernel_rfl
theorem C_tree_Place_1 {x0 x1 : Value} {w : World} {R : Ending → World → Prop} (h : F_tree_Place_1 x0 x1 w R) : Calls Try.prog 76 #[x0, x1] w R :=
 calls_cwp (A := A_tree_Place_1) (args := [x0, x1]) mixed Try.func76 (c := Try.f76.body.getD .skip) (by kernel_rfl) (by kernel_rfl) (by kernel_rfl) ((E_tree_Place_1 x0 x1 w R).mpr h)
def F_slices_Clone_api_Leaf_api_Leaf (x0 : Value) (w : World) (R : Ending → World → Prop) : Prop :=
 m R (o_bin .eql 24 true x0 (.slice none 0 0)) w fun x4 w1 =>
 mif x4 (
 R (.returned (.slice none 0 0)) w1) (
 m R (o_buildSlice 24 0 []) w1 fun x5 w2 =>
 m R (o_builtin .append #[24, 24] 24 [false, false] [x5, x0]) w2 fun x7 w3 =>
 R (.returned x7) w3)
def A_slices_Clone_api_Leaf_api_Leaf : Ann := ⟨[], [], [], [], []⟩
theorem E_slices_Clone_api_Leaf_api_Leaf (x0 : Value) (w : World) (R : Ending → World → Prop) : cwp Try.prog A_slices_Clone_api_Leaf_api_Leaf (Try.f83.body.getD .skip) (retPost Try.prog Try.f83.results.toList R) (argE [x0]) w = F_slices_Clone_api_Leaf_api_Leaf x0 w R := by kernel_rfl
theorem C_slices_Clone_api_Leaf_api_Leaf {x0 : Value} {w : World} {R : Ending → World → Prop} (h : F_slices_Clone_api_Leaf_api_Leaf x0 w R) : Calls Try.prog 83 #[x0] w R :=
 calls_cwp (A := A_slices_Clone_api_Leaf_api_Leaf) (args := [x0]) mixed Try.func83 (c := Try.f83.body.getD .skip) (by kernel_rfl) (by kernel_rfl) (by kernel_rfl) ((E_slices_Clone_api_Leaf_api_Leaf x0 w R).mpr h)
def F_slices_Clone_api_Parent_api_Parent (x0 : Value) (w : World) (R : Ending → World → Prop) : Prop :=
 m R (o_bin .eql 25 true x0 (.slice none 0 0)) w fun x4 w1 =>
 mif x4 (
 R (.returned (.slice none 0 0)) w1) (
 m R (o_buildSlice 25 0 []) w1 fun x5 w2 =>
 m R (o_builtin .append #[25, 25] 25 [false, false] [x5, x0]) w2 fun x7 w3 =>
 R (.returned x7) w3)
def A_slices_Clone_api_Parent_api_Parent : Ann := ⟨[], [], [], [], []⟩
theorem E_slices_Clone_api_Parent_api_Parent (x0 : Value) (w : World) (R : Ending → World → Prop) : cwp Try.prog A_slices_Clone_api_Parent_api_Parent (Try.f84.body.getD .skip) (retPost Try.prog Try.f84.results.toList R) (argE [x0]) w = F_slices_Clone_api_Parent_api_Parent x0 w R := by kernel_rfl
theorem C_slices_Clone_api_Parent_api_Parent {x0 : Value} {w : World} {R : Ending → World → Prop} (h : F_slices_Clone_api_Parent_api_Parent x0 w R) : Calls Try.prog 84 #[x0] w R :=
 calls_cwp (A := A_slices_Clone_api_Parent_api_Parent) (args := [x0]) mixed Try.func84 (c := Try.f84.body.getD .skip) (by kernel_rfl) (by kernel_rfl) (by kernel_rfl) ((E_slices_Clone_api_Parent_api_Parent x0 w R).mpr h)
def F_slices_Clone_int_int (x0 : Value) (w : World) (R : Ending → World → Prop) : Prop :=
 m R (o_bin .eql 29 true x0 (.slice none 0 0)) w fun x4 w1 =>
 mif x4 (
 R (.returned (.slice none 0 0)) w1) (
 m R (o_buildSlice 29 0 []) w1 fun x5 w2 =>
 m R (o_builtin .append #[29, 29] 29 [false, false] [x5, x0]) w2 fun x7 w3 =>
 R (.returned x7) w3)
def A_slices_Clone_int_int : Ann := ⟨[], [], [], [], []⟩
theorem E_slices_Clone_int_int (x0 : Value) (w : World) (R : Ending → World → Prop) : cwp Try.prog A_slices_Clone_int_int (Try.f85.body.getD .skip) (retPost Try.prog Try.f85.results.toList R) (argE [x0]) w = F_slices_Clone_int_int x0 w R := by kernel_rfl
theorem C_slices_Clone_int_int {x0 : Value} {w : World} {R : Ending → World → Prop} (h : F_slices_Clone_int_int x0 w R) : Calls Try.prog 85 #[x0] w R :=
 calls_cwp (A := A_slices_Clone_int_int) (args := [x0]) mixed Try.func85 (c := Try.f85.body.getD .skip) (by kernel_rfl) (by kernel_rfl) (by kernel_rfl) ((E_slices_Clone_int_int x0 w R).mpr h)
def F_bough_there (x0 x1 : Value) (w : World) (R : Ending → World → Prop) : Prop :=
 m R (o_bin .geq 3 true x0 (.int .i64 1)) w fun x6 w1 =>
 mguard x6 true (fun k => m R (o_move x0) w1 k) w1 fun x8 w2 =>
 mguard x6 true (fun k => m R (o_bin .leq 3 true x8 (.int .i64 64)) w2 k) w2 fun x9 w3 =>
 m R (o_pick x6 x9 (.bool false)) w3 fun x10 w4 =>
 mguard x10 true (fun k => m R (o_move x1) w4 k) w4 fun x12 w5 =>
 mguard x10 true (fun k => m R (o_bin .geq 3 true x12 (.int .i64 0)) w5 k) w5 fun x13 w6 =>
 m R (o_pick x10 x13 (.bool false)) w6 fun x14 w7 =>
 mguard x14 true (fun k => m R (o_move x1) w7 k) w7 fun x16 w8 =>
 mguard x14 true (fun k => m R (o_move x0) w8 k) w8 fun x17 w9 =>
 mguard x14 true (fun k => m R (o_bin .mul 3 true (.int .i64 2) x17) w9 k) w9 fun x18 w10 =>
 mguard x14 true (fun k => m R (o_bin .sub 3 true x18 (.int .i64 2)) w10 k) w10 fun x19 w11 =>
 mguard x14 true (fun k => m R (o_bin .leq 3 false x16 x19) w11 k) w11 fun x20 w12 =>
 m R (o_pick x14 x20 (.bool false)) w12 fun x21 w13 =>
 R (.returned x21) w13
def A_bough_there : Ann := ⟨[], [], [], [], []⟩
theorem E_bough_there (x0 x1 : Value) (w : World) (R : Ending → World → Prop) : cwp Try.prog A_bough_there (Try.f89.body.getD .skip) (retPost Try.prog Try.f89.results.toList R) (argE [x0, x1]) w = F_bough_there x0 x1 w R := by kernel_rfl
theorem C_bough_there {x0 x1 : Value} {w : World} {R : Ending → World → Prop} (h : F_bough_there x0 x1 w R) : Calls Try.prog 89 #[x0, x1] w R :=
 calls_cwp (A := A_bough_there) (args := [x0, x1]) mixed Try.func89 (c := Try.f89.body.getD .skip) (by kernel_rfl) (by kernel_rfl) (by kernel_rfl) ((E_bough_there x0 x1 w R).mpr h)
def F_bough_level (x0 : Value) (w : World) (R : Ending → World → Prop) : Prop :=
 ml2 x0 (.int .i64 0) w fun x0 x3 u2 w1 next2 =>
 m R (o_bin .and 3 true x0 (.int .i64 1)) w1 fun x5 w2 =>
 m R (o_bin .eql 3 true x5 (.int .i64 1)) w2 fun x6 w3 =>
 mif x6 (
 m R (o_bin .shr 3 true x0 (.int .u64 1)) w3 fun x8 w4 =>
 m R (o_bin .add 3 true x3 (.int .i64 1)) w4 fun x10 w5 =>
 next2 x8 x10 w5) (
 R (.returned x3) w3)
def A_bough_level : Ann := ⟨[(2, [0, 3], 2041)], [], [], [], []⟩
theorem E_bough_level (x0 : Value) (w : World) (R : Ending → World → Prop) : cwp Try.prog A_bough_level (Try.f90.body.getD .skip) (retPost Try.prog Try.f90.results.toList R) (argE [x0]) w = F_bough_level x0 w R := by kernel_rfl
theorem C_bough_level {x0 : Value} {w : World} {R : Ending → World → Prop} (h : F_bough_level x0 w R) : Calls Try.prog 90 #[x0] w R :=
 calls_cwp (A := A_bough_level) (args := [x0]) mixed Try.func90 (c := Try.f90.body.getD .skip) (by kernel_rfl) (by kernel_rfl) (by kernel_rfl) ((E_bough_level x0 w R).mpr h)
def F_bevyref07_half (x0 : Value) (w : World) (R : Ending → World → Prop) : Prop :=
 ml1 (.int .i64 1) w fun x3 u2 w1 next2 =>
 m R (o_bin .mul 3 true (.int .i64 2) x3) w1 fun x5 w2 =>
 m R (o_bin .lss 3 false x5 x0) w2 fun x7 w3 =>
 mif x7 (
 m R (o_bin .mul 3 true (.int .i64 2) x3) w3 fun x9 w4 =>
 next2 x9 w4) (
 R (.returned x3) w3)
def A_bevyref07_half : Ann := ⟨[(2, [3], 1016)], [], [], [], []⟩
theorem E_bevyref07_half (x0 : Value) (w : World) (R : Ending → World → Prop) : cwp Try.prog A_bevyref07_half (Try.f91.body.getD .skip) (retPost Try.prog Try.f91.results.toList R) (argE [x0]) w = F_bevyref07_half x0 w R := by kernel_rfl
theorem C_bevyref07_half {x0 : Value} {w : World} {R : Ending → World → Prop} (h : F_bevyref07_half x0 w R) : Calls Try.prog 91 #[x0] w R :=
 calls_cwp (A := A_bevyref07_half) (args := [x0]) mixed Try.func91 (c := Try.f91.body.getD .skip) (by kernel_rfl) (by kernel_rfl) (by kernel_rfl) ((E_bevyref07_half x0 w R).mpr h)
def F_bevyref07_find (x0 x1 x2 x3 x4 : Value) (w : World) (R : Ending → World → Prop) : Prop :=
 m R (o_call (fv 51) [x0, x1]) w fun x20 w1 =>
 m R (o_bin .eql 3 false x20 x2) w1 fun x23 w2 =>
 mif x23 (
 R (.returned (.tuple #[x0, x1, x3, x4])) w2) (
 m R (o_call (fv 91) [x1]) w2 fun x29 w3 =>
 m R (o_call (fv 51) [x0, x29]) w3 fun x32 w4 =>
 m R (o_bin .add 3 false x0 x29) w4 fun x35 w5 =>
 m R (o_bin .sub 3 false x1 x29) w5 fun x38 w6 =>
 m R (o_call (fv 51) [x35, x38]) w6 fun x39 w7 =>
 m R (o_bin .lss 3 false x2 x20) w7 fun x42 w8 =>
 mif x42 (
 m R (o_call (fv 92) [x0, x29, x2, x20, x39]) w8 fun x48 w9 =>
 m R (o_extract x48 0) w9 fun x49 w10 =>
 m R (o_extract x48 1) w10 fun x50 w11 =>
 m R (o_extract x48 2) w11 fun x51 w12 =>
 m R (o_extract x48 3) w12 fun x52 w13 =>
 R (.returned (.tuple #[x49, x50, x51, x52])) w13) (
 m R (o_bin .add 3 false x0 x29) w8 fun x55 w14 =>
 m R (o_bin .sub 3 false x1 x29) w14 fun x58 w15 =>
 m R (o_call (fv 92) [x55, x58, x2, x20, x32]) w15 fun x62 w16 =>
 m R (o_extract x62 0) w16 fun x63 w17 =>
 m R (o_extract x62 1) w17 fun x64 w18 =>
 m R (o_extract x62 2) w18 fun x65 w19 =>
 m R (o_extract x62 3) w19 fun x66 w20 =>
 R (.returned (.tuple #[x63, x64, x65, x66])) w20))
def A_bevyref07_find : Ann := ⟨[], [], [], [], []⟩
theorem E_bevyref07_find (x0 x1 x2 x3 x4 : Value) (w : World) (R : Ending → World → Prop) : cwp Try.prog A_bevyref07_find (Try.f92.body.getD .skip) (retPost Try.prog Try.f92.results.toList R) (argE [x0, x1, x2, x3, x4]) w = F_bevyref07_find x0 x1 x2 x3 x4 w R := by kernel_rfl
theorem C_bevyref07_find {x0 x1 x2 x3 x4 : Value} {w : World} {R : Ending → World → Prop} (h : F_bevyref07_find x0 x1 x2 x3 x4 w R) : Calls Try.prog 92 #[x0, x1, x2, x3, x4] w R :=
 calls_cwp (A := A_bevyref07_find) (args := [x0, x1, x2, x3, x4]) mixed Try.func92 (c := Try.f92.body.getD .skip) (by kernel_rfl) (by kernel_rfl) (by kernel_rfl) ((E_bevyref07_find x0 x1 x2 x3 x4 w R).mpr h)
def F_sha_rounds (w : World) (R : Ending → World → Prop) : Prop :=
 m R (o_alloc 141) w fun x0 w1 =>
 m R (o_build 141 [(0, (.int .u32 1116352408)), (1, (.int .u32 1899447441)), (2, (.int .u32 3049323471)), (3, (.int .u32 3921009573)), (4, (.int .u32 961987163)), (5, (.int .u32 1508970993)), (6, (.int .u32 2453635748)), (7, (.int .u32 2870763221)), (8, (.int .u32 3624381080)), (9, (.int .u32 310598401)), (10, (.int .u32 607225278)), (11, (.int .u32 1426881987)), (12, (.int .u32 1925078388)), (13, (.int .u32 2162078206)), (14, (.int .u32 2614888103)), (15, (.int .u32 3248222580)), (16, (.int .u32 3835390401)), (17, (.int .u32 4022224774)), (18, (.int .u32 264347078)), (19, (.int .u32 604807628)), (20, (.int .u32 770255983)), (21, (.int .u32 1249150122)), (22, (.int .u32 1555081692)), (23, (.int .u32 1996064986)), (24, (.int .u32 2554220882)), (25, (.int .u32 2821834349)), (26, (.int .u32 2952996808)), (27, (.int .u32 3210313671)), (28, (.int .u32 3336571891)), (29, (.int .u32 3584528711)), (30, (.int .u32 113926993)), (31, (.int .u32 338241895)), (32, (.int .u32 666307205)), (33, (.int .u32 773529912)), (34, (.int .u32 1294757372)), (35, (.int .u32 1396182291)), (36, (.int .u32 1695183700)), (37, (.int .u32 1986661051)), (38, (.int .u32 2177026350)), (39, (.int .u32 2456956037)), (40, (.int .u32 2730485921)), (41, (.int .u32 2820302411)), (42, (.int .u32 3259730800)), (43, (.int .u32 3345764771)), (44, (.int .u32 3516065817)), (45, (.int .u32 3600352804)), (46, (.int .u32 4094571909)), (47, (.int .u32 275423344)), (48, (.int .u32 430227734)), (49, (.int .u32 506948616)), (50, (.int .u32 659060556)), (51, (.int .u32 883997877)), (52, (.int .u32 958139571)), (53, (.int .u32 1322822218)), (54, (.int .u32 1537002063)), (55, (.int .u32 1747873779)), (56, (.int .u32 1955562222)), (57, (.int .u32 2024104815)), (58, (.int .u32 2227730452)), (59, (.int .u32 2361852424)), (60, (.int .u32 2428436474)), (61, (.int .u32 2756734187)), (62, (.int .u32 3204031479)), (63, (.int .u32 3329325298))]) w1 fun x1 w2 =>
 m R (o_store 141 x0 x1) w2 fun _ w3 =>
 rcell Try.prog 141 x0 w3 fun r0 =>
 R (.returned r0) w3
def A_sha_rounds : Ann := ⟨[], [], [], [], []⟩
theorem E_sha_rounds (w : World) (R : Ending → World → Prop) : cwp Try.prog A_sha_rounds (Try.f93.body.getD .skip) (retPost Try.prog Try.f93.results.toList R) (argE []) w = F_sha_rounds w R := by kernel_rfl
theorem C_sha_rounds {w : World} {R : Ending → World → Prop} (h : F_sha_rounds w R) : Calls Try.prog 93 #[] w R :=
 calls_cwp (A := A_sha_rounds) (args := []) mixed Try.func93 (c := Try.f93.body.getD .skip) (by kernel_rfl) (by kernel_rfl) (by kernel_rfl) ((E_sha_rounds w R).mpr h)
def F_sha_state_put (x0 x1 : Value) (w : World) (R : Ending → World → Prop) : Prop :=
 ml1 x1 w fun x1 u0 w1 next0 =>
 m R (o_builtin .len #[9] 3 [false] [x1]) w1 fun x6 w2 =>
 m R (o_bin .gtr 3 true x6 (.int .i64 0)) w2 fun x7 w3 =>
 mif x7 (
 dp Try.prog (o_nilCheck x0) fun x9 =>
 dp Try.prog (o_fieldAddr 145 x9 1) fun x10 =>
 dp Try.prog (o_nilCheck x0) fun x12 =>
 dp Try.prog (o_fieldAddr 145 x12 2) fun x13 =>
 dq Try.prog w3 (o_load 3 x13) fun x14 =>
 dp Try.prog (o_bin .rem 3 true x14 (.int .i64 64)) fun x15 =>
 dp Try.prog (o_slice 143 x10 (some x15) none none) fun x16 =>
 df Try.prog w3 (o_builtin .copy #[106, 9] 3 [false, false] [x16, x1]) false fun x18 w4 =>
 dend w4 fun w5 =>
 m R (o_slice 9 x1 (some x18) none none) w5 fun x21 w6 =>
 m R (o_nilCheck x0) w6 fun x23 w7 =>
 m R (o_fieldAddr 145 x23 2) w7 fun x24 w8 =>
 m R (o_load 3 x24) w8 fun x25 w9 =>
 m R (o_bin .add 3 false x25 x18) w9 fun x27 w10 =>
 m R (o_nilCheck x0) w10 fun x28 w11 =>
 m R (o_fieldAddr 145 x28 2) w11 fun x29 w12 =>
 m R (o_store 3 x29 x27) w12 fun _ w13 =>
 m R (o_nilCheck x0) w13 fun x31 w14 =>
 m R (o_fieldAddr 145 x31 2) w14 fun x32 w15 =>
 m R (o_load 3 x32) w15 fun x33 w16 =>
 m R (o_bin .rem 3 true x33 (.int .i64 64)) w16 fun x34 w17 =>
 m R (o_bin .eql 3 true x34 (.int .i64 0)) w17 fun x35 w18 =>
 mif x35 (
 m R (o_call (fv 127) [x0]) w18 fun x37 w19 =>
 next0 x21 w19) (
 next0 x21 w18)) (
 R (.returned (.tuple #[])) w3)
def A_sha_state_put : Ann := ⟨[(0, [1], 274877906930)], [], [(1, [⟨0, .q none, 1, 0, 256⟩, ⟨1, .q none, 256, 1, 512⟩, ⟨2, .q none, 512, 3, 1024⟩, ⟨3, .q none, 1, 0, 2048⟩, ⟨4, .q none, 2048, 8, 4096⟩, ⟨5, .q none, 4096, 24, 8192⟩, ⟨6, .q (some 0), 8192, 56, 16384⟩, ⟨7, .q none, 16384, 120, 32768⟩, ⟨8, .q none, 33792, 255, 65536⟩, ⟨9, .q none, 2, 0, 131072⟩, ⟨10, .f 0 false, 196608, 1023, 262144⟩, ⟨11, .q none, 262144, 2047, 16⟩])], [], []⟩
theorem E_sha_state_put (x0 x1 : Value) (w : World) (R : Ending → World → Prop) : cwp Try.prog A_sha_state_put (Try.f94.body.getD .skip) (retPost Try.prog Try.f94.results.toList R) (argE [x0, x1]) w = F_sha_state_put x0 x1 w R := by kernel_rfl
theorem C_sha_state_put {x0 x1 : Value} {w : World} {R : Ending → World → Prop} (h : F_sha_state_put x0 x1 w R) : Calls Try.prog 94 #[x0, x1] w R :=
 calls_cwp (A := A_sha_state_put) (args := [x0, x1]) mixed Try.func94 (c := Try.f94.body.getD .skip) (by kernel_rfl) (by kernel_rfl) (by kernel_rfl) ((E_sha_state_put x0 x1 w R).mpr h)
def F_wire_New (w : World) (R : Ending → World → Prop) : Prop :=
 m R (o_build 173 []) w fun x1 w1 =>
 m R (o_box 173 x1) w1 fun x2 w2 =>
 R (.returned x2) w2
def A_wire_New : Ann := ⟨[], [], [], [], []⟩
theorem E_wire_New (w : World) (R : Ending → World → Prop) : cwp Try.prog A_wire_New (Try.f95.body.getD .skip) (retPost Try.prog Try.f95.results.toList R) (argE []) w = F_wire_New w R := by kernel_rfl
theorem C_wire_New {w : World} {R : Ending → World → Prop} (h : F_wire_New w R) : Calls Try.prog 95 #[] w R :=
 calls_cwp (A := A_wire_New) (args := []) mixed Try.func95 (c := Try.f95.body.getD .skip) (by kernel_rfl) (by kernel_rfl) (by kernel_rfl) ((E_wire_New w R).mpr h)
def F_tree_leafBytes (x0 x1 : Value) (w : World) (R : Ending → World → Prop) : Prop :=
 m R (o_box 36 x1) w fun x3 w1 =>
 m R (o_fieldAddr 36 x3 0) w1 fun x5 w2 =>
 m R (o_load 3 x5) w2 fun x6 w3 =>
 m R (o_bin .gtr 3 true x6 (.int .i64 0)) w3 fun x7 w4 =>
 m R (o_call (fv 128) [x0, x7]) w4 fun x8 w5 =>
 m R (o_fieldAddr 36 x3 0) w5 fun x9 w6 =>
 m R (o_load 3 x9) w6 fun x10 w7 =>
 m R (o_bin .gtr 3 true x10 (.int .i64 0)) w7 fun x11 w8 =>
 mif x11 (
 m R (o_fieldAddr 36 x3 0) w8 fun x13 w9 =>
 m R (o_load 3 x13) w9 fun x14 w10 =>
 m R (o_call (fv 129) [x0, x14]) w10 fun x15 w11 =>
 m R (o_fieldAddr 36 x3 1) w11 fun x17 w12 =>
 m R (o_load 34 x17) w12 fun x18 w13 =>
 m R (o_call (fv 99) [x0, x18]) w13 fun x19 w14 =>
 m R (o_fieldAddr 36 x3 2) w14 fun x21 w15 =>
 m R (o_load 34 x21) w15 fun x22 w16 =>
 m R (o_call (fv 99) [x0, x22]) w16 fun x23 w17 =>
 m R (o_fieldAddr 36 x3 3) w17 fun x25 w18 =>
 m R (o_load 34 x25) w18 fun x26 w19 =>
 m R (o_call (fv 99) [x0, x26]) w19 fun x27 w20 =>
 R (.returned (.tuple #[])) w20) (
 R (.returned (.tuple #[])) w8)
def A_tree_leafBytes : Ann := ⟨[], [], [], [], []⟩
theorem E_tree_leafBytes (x0 x1 : Value) (w : World) (R : Ending → World → Prop) : cwp Try.prog A_tree_leafBytes (Try.f96.body.getD .skip) (retPost Try.prog Try.f96.results.toList R) (argE [x0, x1]) w = F_tree_leafBytes x0 x1 w R := by kernel_rfl
theorem C_tree_leafBytes {x0 x1 : Value} {w : World} {R : Ending → World → Prop} (h : F_tree_leafBytes x0 x1 w R) : Calls Try.prog 96 #[x0, x1] w R :=
 calls_cwp (A := A_tree_leafBytes) (args := [x0, x1]) mixed Try.func96 (c := Try.f96.body.getD .skip) (by kernel_rfl) (by kernel_rfl) (by kernel_rfl) ((E_tree_leafBytes x0 x1 w R).mpr h)
def F_wire_Writer_End (x0 : Value) (w : World) (R : Ending → World → Prop) : Prop :=
 mj1 (fun j2 =>
 m R (o_bin .eql 149 true x0 (.pointer none)) w fun x5 w1 =>
 mguard x5 false (fun k => m R (o_move x0) w1 k) w1 fun x7 w2 =>
 mguard x5 false (fun k => m R (o_nilCheck x7) w2 k) w2 fun x8 w3 =>
 mguard x5 false (fun k => m R (o_fieldAddr 173 x8 1) w3 k) w3 fun x9 w4 =>
 mguard x5 false (fun k => m R (o_load 4 x9) w4 k) w4 fun x10 w5 =>
 m R (o_pick x5 (.bool true) x10) w5 fun x11 w6 =>
 j2 x11 w6) fun x11 u2 w7 =>
 mif x11 (
 R (.returned (.tuple #[(.string (ByteArray.mk #[])), (.int .i64 1)])) w7) (
 m R (o_nilCheck x0) w7 fun x13 w8 =>
 m R (o_fieldAddr 173 x13 0) w8 fun x14 w9 =>
 m R (o_load 106 x14) w9 fun x15 w10 =>
 m R (o_conv 106 9 x15) w10 fun x16 w11 =>
 R (.returned (.tuple #[x16, (.int .i64 0)])) w11)
def A_wire_Writer_End : Ann := ⟨[], [(2, [11], 4080)], [], [], []⟩
theorem E_wire_Writer_End (x0 : Value) (w : World) (R : Ending → World → Prop) : cwp Try.prog A_wire_Writer_End (Try.f97.body.getD .skip) (retPost Try.prog Try.f97.results.toList R) (argE [x0]) w = F_wire_Writer_End x0 w R := by kernel_rfl
theorem C_wire_Writer_End {x0 : Value} {w : World} {R : Ending → World → Prop} (h : F_wire_Writer_End x0 w R) : Calls Try.prog 97 #[x0] w R :=
 calls_cwp (A := A_wire_Writer_End) (args := [x0]) mixed Try.func97 (c := Try.f97.body.getD .skip) (by kernel_rfl) (by kernel_rfl) (by kernel_rfl) ((E_wire_Writer_End x0 w R).mpr h)
def F_tree_parentBytes (x0 x1 : Value) (w : World) (R : Ending → World → Prop) : Prop :=
 m R (o_box 96 x1) w fun x3 w1 =>
 m R (o_fieldAddr 96 x3 0) w1 fun x7 w2 =>
 m R (o_load 4 x7) w2 fun x8 w3 =>
 m R (o_call (fv 128) [x0, x8]) w3 fun x9 w4 =>
 m R (o_fieldAddr 96 x3 0) w4 fun x10 w5 =>
 m R (o_load 4 x10) w5 fun x11 w6 =>
 mif x11 (
 m R (o_fieldAddr 96 x3 1) w6 fun x13 w7 =>
 m R (o_load 34 x13) w7 fun x14 w8 =>
 m R (o_call (fv 99) [x0, x14]) w8 fun x15 w9 =>
 m R (o_fieldAddr 96 x3 2) w9 fun x17 w10 =>
 m R (o_load 34 x17) w10 fun x18 w11 =>
 m R (o_call (fv 99) [x0, x18]) w11 fun x19 w12 =>
 m R (o_fieldAddr 96 x3 3) w12 fun x21 w13 =>
 m R (o_load 29 x21) w13 fun x22 w14 =>
 m R (o_builtin .len #[29] 3 [false] [x22]) w14 fun x23 w15 =>
 m R (o_call (fv 129) [x0, x23]) w15 fun x24 w16 =>
 m R (o_fieldAddr 96 x3 3) w16 fun x25 w17 =>
 m R (o_load 29 x25) w17 fun x26 w18 =>
 m R (o_builtin .len #[29] 3 [false] [x26]) w18 fun x27 w19 =>
 ml1 (.int .i64 0) w19 fun x28 u7 w20 next7 =>
 m R (o_bin .lss 3 false x28 x27) w20 fun x29 w21 =>
 mif x29 (
 m R (o_indexAddr 29 x26 x28) w21 fun x30 w22 =>
 m R (o_load 3 x30) w22 fun x31 w23 =>
 m R (o_call (fv 129) [x0, x31]) w23 fun x34 w24 =>
 m R (o_bin .add 3 true x28 (.int .i64 1)) w24 fun x35 w25 =>
 next7 x35 w25) (
 R (.returned (.tuple #[])) w21)) (
 R (.returned (.tuple #[])) w6)
def A_tree_parentBytes : Ann := ⟨[(7, [28], 68451041312)], [], [], [], []⟩
theorem E_tree_parentBytes (x0 x1 : Value) (w : World) (R : Ending → World → Prop) : cwp Try.prog A_tree_parentBytes (Try.f98.body.getD .skip) (retPost Try.prog Try.f98.results.toList R) (argE [x0, x1]) w = F_tree_parentBytes x0 x1 w R := by kernel_rfl
theorem C_tree_parentBytes {x0 x1 : Value} {w : World} {R : Ending → World → Prop} (h : F_tree_parentBytes x0 x1 w R) : Calls Try.prog 98 #[x0, x1] w R :=
 calls_cwp (A := A_tree_parentBytes) (args := [x0, x1]) mixed Try.func98 (c := Try.f98.body.getD .skip) (by kernel_rfl) (by kernel_rfl) (by kernel_rfl) ((E_tree_parentBytes x0 x1 w R).mpr h)
def F_wire_Writer_Hash (x0 x1 : Value) (w : World) (R : Ending → World → Prop) : Prop :=
 m R (o_box 34 x1) w fun x3 w1 =>
 m R (o_bin .neq 149 true x0 (.pointer none)) w1 fun x5 w2 =>
 mif x5 (
 dp Try.prog (o_nilCheck x0) fun x8 =>
 dp Try.prog (o_fieldAddr 173 x8 0) fun x9 =>
 dq Try.prog w2 (o_load 106 x9) fun x10 =>
 dp Try.prog (o_slice 34 x3 none none none) fun x11 =>
 df Try.prog w2 (o_builtin .append #[106, 106] 106 [false, false] [x10, x11]) false fun x12 w3 =>
 dp Try.prog (o_nilCheck x0) fun x13 =>
 dp Try.prog (o_fieldAddr 173 x13 0) fun x14 =>
 df Try.prog w3 (o_store 106 x14 x12) false fun _ w4 =>
 dend w4 fun w5 =>
 R (.returned (.tuple #[])) w5) (
 R (.returned (.tuple #[])) w2)
def A_wire_Writer_Hash : Ann := ⟨[], [], [(2, [⟨0, .q none, 1, 0, 64⟩, ⟨1, .q none, 1, 0, 128⟩, ⟨2, .q none, 128, 2, 256⟩, ⟨3, .q none, 256, 6, 512⟩, ⟨4, .q (some 0), 512, 14, 1024⟩, ⟨5, .q none, 8, 0, 2048⟩, ⟨6, .f 0 false, 3072, 62, 4096⟩, ⟨7, .q none, 64, 127, 8192⟩, ⟨8, .q none, 8192, 255, 16384⟩, ⟨9, .f 1 false, 20480, 511, 0⟩])], [], []⟩
theorem E_wire_Writer_Hash (x0 x1 : Value) (w : World) (R : Ending → World → Prop) : cwp Try.prog A_wire_Writer_Hash (Try.f99.body.getD .skip) (retPost Try.prog Try.f99.results.toList R) (argE [x0, x1]) w = F_wire_Writer_Hash x0 x1 w R := by kernel_rfl
theorem C_wire_Writer_Hash {x0 x1 : Value} {w : World} {R : Ending → World → Prop} (h : F_wire_Writer_Hash x0 x1 w R) : Calls Try.prog 99 #[x0, x1] w R :=
 calls_cwp (A := A_wire_Writer_Hash) (args := [x0, x1]) mixed Try.func99 (c := Try.f99.body.getD .skip) (by kernel_rfl) (by kernel_rfl) (by kernel_rfl) ((E_wire_Writer_Hash x0 x1 w R).mpr h)
def F_bevyref07_Above (x0 x1 : Value) (w : World) (R : Ending → World → Prop) : Prop :=
 m R (o_call (fv 50) [x0, x1]) w fun x11 w1 =>
 m R (o_un .not x11) w1 fun x12 w2 =>
 mif x12 (
 R (.returned (.int .i64 (-1))) w2) (
 m R (o_call (fv 92) [(.int .i64 0), x0, x1, (.int .i64 (-1)), (.int .i64 (-1))]) w2 fun x16 w3 =>
 m R (o_extract x16 0) w3 fun x17 w4 =>
 m R (o_extract x16 1) w4 fun x18 w5 =>
 m R (o_extract x16 2) w5 fun x19 w6 =>
 m R (o_extract x16 3) w6 fun x20 w7 =>
 R (.returned x19) w7)
def A_bevyref07_Above : Ann := ⟨[], [], [], [], []⟩
theorem E_bevyref07_Above (x0 x1 : Value) (w : World) (R : Ending → World → Prop) : cwp Try.prog A_bevyref07_Above (Try.f107.body.getD .skip) (retPost Try.prog Try.f107.results.toList R) (argE [x0, x1]) w = F_bevyref07_Above x0 x1 w R := by kernel_rfl
theorem C_bevyref07_Above {x0 x1 : Value} {w : World} {R : Ending → World → Prop} (h : F_bevyref07_Above x0 x1 w R) : Calls Try.prog 107 #[x0, x1] w R :=
 calls_cwp (A := A_bevyref07_Above) (args := [x0, x1]) mixed Try.func107 (c := Try.f107.body.getD .skip) (by kernel_rfl) (by kernel_rfl) (by kernel_rfl) ((E_bevyref07_Above x0 x1 w R).mpr h)
def F_bough_up (x0 x1 : Value) (w : World) (R : Ending → World → Prop) : Prop :=
 m R (o_box 3 x0) w fun x2 w1 =>
 m R (o_box 3 x1) w1 fun x3 w2 =>
 m R (o_func (.func 132) [] [x2, x3]) w2 fun x5 w3 =>
 R (.returned x5) w3
def A_bough_up : Ann := ⟨[], [], [], [], []⟩
theorem E_bough_up (x0 x1 : Value) (w : World) (R : Ending → World → Prop) : cwp Try.prog A_bough_up (Try.f108.body.getD .skip) (retPost Try.prog Try.f108.results.toList R) (argE [x0, x1]) w = F_bough_up x0 x1 w R := by kernel_rfl
theorem C_bough_up {x0 x1 : Value} {w : World} {R : Ending → World → Prop} (h : F_bough_up x0 x1 w R) : Calls Try.prog 108 #[x0, x1] w R :=
 calls_cwp (A := A_bough_up) (args := [x0, x1]) mixed Try.func108 (c := Try.f108.body.getD .skip) (by kernel_rfl) (by kernel_rfl) (by kernel_rfl) ((E_bough_up x0 x1 w R).mpr h)
def F_bough_Above (x0 x1 : Value) (w : World) (R : Ending → World → Prop) : Prop :=
 mj1 (fun j2 =>
 m R (o_call (fv 89) [x0, x1]) w fun x8 w1 =>
 m R (o_un .not x8) w1 fun x9 w2 =>
 mguard x9 false (fun k => m R (o_move x1) w2 k) w2 fun x11 w3 =>
 mguard x9 false (fun k => m R (o_move x0) w3 k) w3 fun x12 w4 =>
 mguard x9 false (fun k => m R (o_call (fv 55) [x12]) w4 k) w4 fun x13 w5 =>
 mguard x9 false (fun k => m R (o_bin .eql 3 false x11 x13) w5 k) w5 fun x14 w6 =>
 m R (o_pick x9 (.bool true) x14) w6 fun x15 w7 =>
 j2 x15 w7) fun x15 u2 w8 =>
 mif x15 (
 R (.returned (.int .i64 (-1))) w8) (
 ml1 x1 w8 fun x1 u3 w9 next3 =>
 m R (o_call (fv 90) [x1]) w9 fun x17 w10 =>
 dp Try.prog (o_bin .add 3 true x17 (.int .i64 1)) fun x20 =>
 dp Try.prog (o_bin .shl 3 true (.int .i64 1) x20) fun x21 =>
 dp Try.prog (o_bin .andNot 3 false x1 x21) fun x22 =>
 dp Try.prog (o_bin .shl 3 true (.int .i64 1) x17) fun x24 =>
 dp Try.prog (o_bin .or 3 false x22 x24) fun x25 =>
 dend w10 fun w11 =>
 m R (o_call (fv 89) [x0, x25]) w11 fun x28 w12 =>
 mif x28 (
 R (.returned x25) w12) (
 next3 x25 w12))
def A_bough_Above : Ann := ⟨[(3, [1], 1073676338)], [(2, [15], 65472)], [(4, [⟨0, .q none, 2, 0, 262144⟩, ⟨1, .q none, 32, 0, 524288⟩, ⟨2, .q none, 524288, 2, 1048576⟩, ⟨3, .q none, 1048576, 6, 2097152⟩, ⟨4, .q none, 2359296, 15, 4194304⟩, ⟨5, .q none, 32, 0, 8388608⟩, ⟨6, .q none, 8388608, 32, 16777216⟩, ⟨7, .q none, 20971520, 127, 33554432⟩, ⟨8, .q none, 33554432, 255, 2⟩])], [], []⟩
theorem E_bough_Above (x0 x1 : Value) (w : World) (R : Ending → World → Prop) : cwp Try.prog A_bough_Above (Try.f109.body.getD .skip) (retPost Try.prog Try.f109.results.toList R) (argE [x0, x1]) w = F_bough_Above x0 x1 w R := by kernel_rfl
theorem C_bough_Above {x0 x1 : Value} {w : World} {R : Ending → World → Prop} (h : F_bough_Above x0 x1 w R) : Calls Try.prog 109 #[x0, x1] w R :=
 calls_cwp (A := A_bough_Above) (args := [x0, x1]) mixed Try.func109 (c := Try.f109.body.getD .skip) (by kernel_rfl) (by kernel_rfl) (by kernel_rfl) ((E_bough_Above x0 x1 w R).mpr h)
def F_bough_Leaves (x0 x1 : Value) (w : World) (R : Ending → World → Prop) : Prop :=
 m R (o_call (fv 89) [x0, x1]) w fun x9 w1 =>
 m R (o_un .not x9) w1 fun x10 w2 =>
 mif x10 (
 R (.returned (.tuple #[(.int .i64 0), (.int .i64 0)])) w2) (
 m R (o_call (fv 90) [x1]) w2 fun x12 w3 =>
 m R (o_bin .shl 3 true (.int .i64 1) x12) w3 fun x13 w4 =>
 m R (o_bin .add 3 true x1 (.int .i64 1)) w4 fun x15 w5 =>
 m R (o_bin .sub 3 false x15 x13) w5 fun x17 w6 =>
 m R (o_bin .quo 3 true x17 (.int .i64 2)) w6 fun x18 w7 =>
 m R (o_bin .add 3 true x1 (.int .i64 1)) w7 fun x20 w8 =>
 m R (o_bin .add 3 false x20 x13) w8 fun x22 w9 =>
 m R (o_bin .quo 3 true x22 (.int .i64 2)) w9 fun x23 w10 =>
 m R (o_builtin .min #[3, 3] 3 [false, false] [x23, x0]) w10 fun x25 w11 =>
 R (.returned (.tuple #[x18, x25])) w11)
def A_bough_Leaves : Ann := ⟨[], [], [], [], []⟩
theorem E_bough_Leaves (x0 x1 : Value) (w : World) (R : Ending → World → Prop) : cwp Try.prog A_bough_Leaves (Try.f111.body.getD .skip) (retPost Try.prog Try.f111.results.toList R) (argE [x0, x1]) w = F_bough_Leaves x0 x1 w R := by kernel_rfl
theorem C_bough_Leaves {x0 x1 : Value} {w : World} {R : Ending → World → Prop} (h : F_bough_Leaves x0 x1 w R) : Calls Try.prog 111 #[x0, x1] w R :=
 calls_cwp (A := A_bough_Leaves) (args := [x0, x1]) mixed Try.func111 (c := Try.f111.body.getD .skip) (by kernel_rfl) (by kernel_rfl) (by kernel_rfl) ((E_bough_Leaves x0 x1 w R).mpr h)
def F_cmp_Less_int (x0 x1 : Value) (w : World) (R : Ending → World → Prop) : Prop :=
 m R (o_call (fv 133) [x0]) w fun x6 w1 =>
 mguard x6 true (fun k => m R (o_move x1) w1 k) w1 fun x8 w2 =>
 mguard x6 true (fun k => m R (o_call (fv 133) [x8]) w2 k) w2 fun x9 w3 =>
 mguard x6 true (fun k => m R (o_un .not x9) w3 k) w3 fun x10 w4 =>
 m R (o_pick x6 x10 (.bool false)) w4 fun x11 w5 =>
 mguard x11 false (fun k => m R (o_move x0) w5 k) w5 fun x13 w6 =>
 mguard x11 false (fun k => m R (o_move x1) w6 k) w6 fun x14 w7 =>
 mguard x11 false (fun k => m R (o_bin .lss 3 false x13 x14) w7 k) w7 fun x15 w8 =>
 m R (o_pick x11 (.bool true) x15) w8 fun x16 w9 =>
 R (.returned x16) w9
def A_cmp_Less_int : Ann := ⟨[], [], [], [], []⟩
theorem E_cmp_Less_int (x0 x1 : Value) (w : World) (R : Ending → World → Prop) : cwp Try.prog A_cmp_Less_int (Try.f112.body.getD .skip) (retPost Try.prog Try.f112.results.toList R) (argE [x0, x1]) w = F_cmp_Less_int x0 x1 w R := by kernel_rfl
theorem C_cmp_Less_int {x0 x1 : Value} {w : World} {R : Ending → World → Prop} (h : F_cmp_Less_int x0 x1 w R) : Calls Try.prog 112 #[x0, x1] w R :=
 calls_cwp (A := A_cmp_Less_int) (args := [x0, x1]) mixed Try.func112 (c := Try.f112.body.getD .skip) (by kernel_rfl) (by kernel_rfl) (by kernel_rfl) ((E_cmp_Less_int x0 x1 w R).mpr h)
def F_slices_isNaN_int (x0 : Value) (w : World) (R : Ending → World → Prop) : Prop :=
 m R (o_bin .neq 3 false x0 x0) w fun x5 w1 =>
 R (.returned x5) w1
def A_slices_isNaN_int : Ann := ⟨[], [], [], [], []⟩
theorem E_slices_isNaN_int (x0 : Value) (w : World) (R : Ending → World → Prop) : cwp Try.prog A_slices_isNaN_int (Try.f113.body.getD .skip) (retPost Try.prog Try.f113.results.toList R) (argE [x0]) w = F_slices_isNaN_int x0 w R := by kernel_rfl
theorem C_slices_isNaN_int {x0 : Value} {w : World} {R : Ending → World → Prop} (h : F_slices_isNaN_int x0 w R) : Calls Try.prog 113 #[x0] w R :=
 calls_cwp (A := A_slices_isNaN_int) (args := [x0]) mixed Try.func113 (c := Try.f113.body.getD .skip) (by kernel_rfl) (by kernel_rfl) (by kernel_rfl) ((E_slices_isNaN_int x0 w R).mpr h)
def F_sha_state_turn (x0 : Value) (w : World) (R : Ending → World → Prop) : Prop :=
 m R (o_alloc 141) w fun x2 w1 =>
 ml1 (.int .i64 0) w1 fun x21 u2 w2 next2 =>
 m R (o_bin .lss 3 true x21 (.int .i64 16)) w2 fun x22 w3 =>
 mif x22 (
 m R (o_nilCheck x0) w3 fun x25 w4 =>
 m R (o_fieldAddr 145 x25 1) w4 fun x26 w5 =>
 m R (o_bin .mul 3 true (.int .i64 4) x21) w5 fun x28 w6 =>
 m R (o_slice 143 x26 (some x28) none none) w6 fun x29 w7 =>
 dp Try.prog (o_indexAddr 106 x29 (.int .i64 0)) fun x32 =>
 dq Try.prog w7 (o_load 5 x32) fun x33 =>
 dp Try.prog (o_conv 5 139 x33) fun x34 =>
 dp Try.prog (o_bin .shl 139 true x34 (.int .u64 24)) fun x35 =>
 dp Try.prog (o_indexAddr 106 x29 (.int .i64 1)) fun x37 =>
 dq Try.prog w7 (o_load 5 x37) fun x38 =>
 dp Try.prog (o_conv 5 139 x38) fun x39 =>
 dp Try.prog (o_bin .shl 139 true x39 (.int .u64 16)) fun x40 =>
 dp Try.prog (o_bin .or 139 false x35 x40) fun x41 =>
 dp Try.prog (o_indexAddr 106 x29 (.int .i64 2)) fun x43 =>
 dq Try.prog w7 (o_load 5 x43) fun x44 =>
 dp Try.prog (o_conv 5 139 x44) fun x45 =>
 dp Try.prog (o_bin .shl 139 true x45 (.int .u64 8)) fun x46 =>
 dp Try.prog (o_bin .or 139 false x41 x46) fun x47 =>
 dp Try.prog (o_indexAddr 106 x29 (.int .i64 3)) fun x49 =>
 dq Try.prog w7 (o_load 5 x49) fun x50 =>
 dp Try.prog (o_conv 5 139 x50) fun x51 =>
 dp Try.prog (o_bin .or 139 false x47 x51) fun x52 =>
 dp Try.prog (o_indexAddr 141 x2 x21) fun x53 =>
 df Try.prog w7 (o_store 139 x53 x52) false fun _ w8 =>
 dend w8 fun w9 =>
 m R (o_bin .add 3 true x21 (.int .i64 1)) w9 fun x54 w10 =>
 next2 x54 w10) (
 ml1 (.int .i64 16) w3 fun x5 u8 w11 next8 =>
 m R (o_bin .lss 3 true x5 (.int .i64 64)) w11 fun x56 w12 =>
 mif x56 (
 dp Try.prog (o_bin .sub 3 true x5 (.int .i64 15)) fun x60 =>
 dp Try.prog (o_indexAddr 141 x2 x60) fun x61 =>
 dq Try.prog w12 (o_load 139 x61) fun x62 =>
 dp Try.prog (o_bin .sub 3 true x5 (.int .i64 2)) fun x64 =>
 dp Try.prog (o_indexAddr 141 x2 x64) fun x65 =>
 dq Try.prog w12 (o_load 139 x65) fun x66 =>
 dend w12 fun w13 =>
 dp Try.prog (o_bin .sub 3 true x5 (.int .i64 16)) fun x69 =>
 dp Try.prog (o_indexAddr 141 x2 x69) fun x70 =>
 dq Try.prog w13 (o_load 139 x70) fun x71 =>
 dp Try.prog (o_bin .sub 3 true x5 (.int .i64 7)) fun x73 =>
 dp Try.prog (o_indexAddr 141 x2 x73) fun x74 =>
 dq Try.prog w13 (o_load 139 x74) fun x75 =>
 dp Try.prog (o_bin .add 139 false x71 x75) fun x76 =>
 df Try.prog w13 (o_call (fv 151) [x62, (.int .i64 (-7))]) true fun x78 w14 =>
 df Try.prog w14 (o_call (fv 151) [x62, (.int .i64 (-18))]) true fun x80 w15 =>
 dp Try.prog (o_bin .xor 139 false x78 x80) fun x81 =>
 dp Try.prog (o_bin .shr 139 true x62 (.int .u64 3)) fun x83 =>
 dp Try.prog (o_bin .xor 139 false x81 x83) fun x84 =>
 dp Try.prog (o_bin .add 139 false x76 x84) fun x85 =>
 df Try.prog w15 (o_call (fv 151) [x66, (.int .i64 (-17))]) true fun x87 w16 =>
 df Try.prog w16 (o_call (fv 151) [x66, (.int .i64 (-19))]) true fun x89 w17 =>
 dp Try.prog (o_bin .xor 139 false x87 x89) fun x90 =>
 dp Try.prog (o_bin .shr 139 true x66 (.int .u64 10)) fun x92 =>
 dp Try.prog (o_bin .xor 139 false x90 x92) fun x93 =>
 dp Try.prog (o_bin .add 139 false x85 x93) fun x94 =>
 dp Try.prog (o_indexAddr 141 x2 x5) fun x95 =>
 df Try.prog w17 (o_store 139 x95 x94) false fun _ w18 =>
 dend w18 fun w19 =>
 m R (o_bin .add 3 true x5 (.int .i64 1)) w19 fun x58 w20 =>
 next8 x58 w20) (
 dp Try.prog (o_nilCheck x0) fun x97 =>
 dp Try.prog (o_fieldAddr 145 x97 0) fun x98 =>
 dp Try.prog (o_indexAddr 140 x98 (.int .i64 0)) fun x99 =>
 dq Try.prog w12 (o_load 139 x99) fun x100 =>
 dp Try.prog (o_nilCheck x0) fun x102 =>
 dp Try.prog (o_fieldAddr 145 x102 0) fun x103 =>
 dp Try.prog (o_indexAddr 140 x103 (.int .i64 1)) fun x104 =>
 dq Try.prog w12 (o_load 139 x104) fun x105 =>
 dp Try.prog (o_nilCheck x0) fun x107 =>
 dp Try.prog (o_fieldAddr 145 x107 0) fun x108 =>
 dp Try.prog (o_indexAddr 140 x108 (.int .i64 2)) fun x109 =>
 dq Try.prog w12 (o_load 139 x109) fun x110 =>
 dp Try.prog (o_nilCheck x0) fun x112 =>
 dp Try.prog (o_fieldAddr 145 x112 0) fun x113 =>
 dp Try.prog (o_indexAddr 140 x113 (.int .i64 3)) fun x114 =>
 dq Try.prog w12 (o_load 139 x114) fun x115 =>
 dp Try.prog (o_nilCheck x0) fun x117 =>
 dp Try.prog (o_fieldAddr 145 x117 0) fun x118 =>
 dp Try.prog (o_indexAddr 140 x118 (.int .i64 4)) fun x119 =>
 dq Try.prog w12 (o_load 139 x119) fun x120 =>
 dp Try.prog (o_nilCheck x0) fun x122 =>
 dp Try.prog (o_fieldAddr 145 x122 0) fun x123 =>
 dp Try.prog (o_indexAddr 140 x123 (.int .i64 5)) fun x124 =>
 dq Try.prog w12 (o_load 139 x124) fun x125 =>
 dp Try.prog (o_nilCheck x0) fun x127 =>
 dp Try.prog (o_fieldAddr 145 x127 0) fun x128 =>
 dp Try.prog (o_indexAddr 140 x128 (.int .i64 6)) fun x129 =>
 dq Try.prog w12 (o_load 139 x129) fun x130 =>
 dp Try.prog (o_nilCheck x0) fun x132 =>
 dp Try.prog (o_fieldAddr 145 x132 0) fun x133 =>
 dp Try.prog (o_indexAddr 140 x133 (.int .i64 7)) fun x134 =>
 dq Try.prog w12 (o_load 139 x134) fun x135 =>
 dend w12 fun w21 =>
 ml9 x100 x105 x110 x115 x120 x125 x130 x135 (.int .i64 0) w21 fun x8 x9 x10 x11 x12 x13 x14 x15 x136 u14 w22 next14 =>
 m R (o_bin .lss 3 true x136 (.int .i64 64)) w22 fun x137 w23 =>
 mif x137 (
 df Try.prog w23 (o_call (fv 151) [x12, (.int .i64 (-6))]) true fun x141 w24 =>
 df Try.prog w24 (o_call (fv 151) [x12, (.int .i64 (-11))]) true fun x143 w25 =>
 dp Try.prog (o_bin .xor 139 false x141 x143) fun x144 =>
 df Try.prog w25 (o_call (fv 151) [x12, (.int .i64 (-25))]) true fun x146 w26 =>
 dp Try.prog (o_bin .xor 139 false x144 x146) fun x147 =>
 dp Try.prog (o_bin .add 139 false x15 x147) fun x148 =>
 dp Try.prog (o_bin .and 139 false x12 x13) fun x151 =>
 dp Try.prog (o_un .xor x12) fun x153 =>
 dp Try.prog (o_bin .and 139 false x153 x14) fun x155 =>
 dp Try.prog (o_bin .xor 139 false x151 x155) fun x156 =>
 dp Try.prog (o_bin .add 139 false x148 x156) fun x157 =>
 dp Try.prog (o_nilCheck x0) fun x160 =>
 dp Try.prog (o_fieldAddr 145 x160 3) fun x161 =>
 dp Try.prog (o_indexAddr 141 x161 x136) fun x162 =>
 dq Try.prog w23 (o_load 139 x162) fun x163 =>
 dp Try.prog (o_bin .add 139 false x157 x163) fun x164 =>
 dp Try.prog (o_indexAddr 141 x2 x136) fun x166 =>
 dq Try.prog w23 (o_load 139 x166) fun x167 =>
 dp Try.prog (o_bin .add 139 false x164 x167) fun x168 =>
 dend w26 fun w27 =>
 m R (o_call (fv 151) [x8, (.int .i64 (-2))]) w27 fun x170 w28 =>
 m R (o_call (fv 151) [x8, (.int .i64 (-13))]) w28 fun x172 w29 =>
 m R (o_bin .xor 139 false x170 x172) w29 fun x173 w30 =>
 m R (o_call (fv 151) [x8, (.int .i64 (-22))]) w30 fun x175 w31 =>
 m R (o_bin .xor 139 false x173 x175) w31 fun x176 w32 =>
 m R (o_bin .and 139 false x8 x9) w32 fun x179 w33 =>
 m R (o_bin .and 139 false x8 x10) w33 fun x182 w34 =>
 m R (o_bin .xor 139 false x179 x182) w34 fun x183 w35 =>
 m R (o_bin .and 139 false x9 x10) w35 fun x186 w36 =>
 m R (o_bin .xor 139 false x183 x186) w36 fun x187 w37 =>
 m R (o_bin .add 139 false x176 x187) w37 fun x188 w38 =>
 m R (o_bin .add 139 false x11 x168) w38 fun x194 w39 =>
 m R (o_bin .add 139 false x168 x188) w39 fun x200 w40 =>
 m R (o_bin .add 3 true x136 (.int .i64 1)) w40 fun x201 w41 =>
 next14 x200 x8 x9 x10 x194 x12 x13 x14 x201 w41) (
 m R (o_build 140 [(0, x8), (1, x9), (2, x10), (3, x11), (4, x12), (5, x13), (6, x14), (7, x15)]) w23 fun x210 w42 =>
 ml1 (.int .i64 0) w42 fun x211 u21 w43 next21 =>
 m R (o_bin .lss 3 true x211 (.int .i64 8)) w43 fun x212 w44 =>
 mif x212 (
 m R (o_index 140 x210 x211) w44 fun x214 w45 =>
 dp Try.prog (o_nilCheck x0) fun x217 =>
 dp Try.prog (o_fieldAddr 145 x217 0) fun x218 =>
 dp Try.prog (o_indexAddr 140 x218 x211) fun x219 =>
 dq Try.prog w45 (o_load 139 x219) fun x220 =>
 dp Try.prog (o_bin .add 139 false x220 x214) fun x222 =>
 dp Try.prog (o_nilCheck x0) fun x223 =>
 dp Try.prog (o_fieldAddr 145 x223 0) fun x224 =>
 dp Try.prog (o_indexAddr 140 x224 x211) fun x225 =>
 df Try.prog w45 (o_store 139 x225 x222) false fun _ w46 =>
 dend w46 fun w47 =>
 m R (o_bin .add 3 true x211 (.int .i64 1)) w47 fun x226 w48 =>
 next21 x226 w48) (
 R (.returned (.tuple #[])) w44))))
def A_sha_state_turn : Ann := ⟨[(2, [21], 36028797016866840), (8, [5], 79228162514228308796524986592), (14, [8, 9, 10, 11, 12, 13, 14, 15, 136], 6427752177035961102080736083432890163442188075628638679596800), (21, [211], 215676282328090475945251810757791930688087189908593312689102186348544)], [], [(5, [⟨0, .q none, 8, 0, 1073741824⟩, ⟨1, .q none, 16, 0, 2147483648⟩, ⟨2, .q none, 2147483648, 2, 4294967296⟩, ⟨3, .q (some 0), 4294967296, 6, 8589934592⟩, ⟨4, .q none, 8589934592, 14, 17179869184⟩, ⟨5, .q none, 17179869184, 30, 34359738368⟩, ⟨6, .q none, 16, 0, 68719476736⟩, ⟨7, .q none, 68719476736, 64, 137438953472⟩, ⟨8, .q (some 0), 137438953472, 192, 274877906944⟩, ⟨9, .q none, 274877906944, 448, 549755813888⟩, ⟨10, .q none, 549755813888, 960, 1099511627776⟩, ⟨11, .q none, 1133871366144, 2046, 2199023255552⟩, ⟨12, .q none, 16, 0, 4398046511104⟩, ⟨13, .q none, 4398046511104, 4096, 8796093022208⟩, ⟨14, .q (some 0), 8796093022208, 12288, 17592186044416⟩, ⟨15, .q none, 17592186044416, 28672, 35184372088832⟩, ⟨16, .q none, 35184372088832, 61440, 70368744177664⟩, ⟨17, .q none, 72567767433216, 131070, 140737488355328⟩, ⟨18, .q none, 16, 0, 281474976710656⟩, ⟨19, .q none, 281474976710656, 262144, 562949953421312⟩, ⟨20, .q (some 0), 562949953421312, 786432, 1125899906842624⟩, ⟨21, .q none, 1125899906842624, 1835008, 2251799813685248⟩, ⟨22, .q none, 2392537302040576, 4194302, 4503599627370496⟩, ⟨23, .q none, 1073741828, 8388607, 9007199254740992⟩, ⟨24, .f 0 false, 13510798882111488, 16777215, 0⟩]), (10, [⟨0, .q none, 32, 0, 576460752303423488⟩, ⟨1, .q none, 576460752303423488, 1, 1152921504606846976⟩, ⟨2, .q none, 1152921504606846980, 3, 2305843009213693952⟩, ⟨3, .q (some 0), 2305843009213693952, 7, 4611686018427387904⟩, ⟨4, .q none, 32, 0, 9223372036854775808⟩, ⟨5, .q none, 9223372036854775808, 16, 18446744073709551616⟩, ⟨6, .q none, 18446744073709551620, 48, 36893488147419103232⟩, ⟨7, .q (some 0), 36893488147419103232, 112, 73786976294838206464⟩, ⟨8, .q none, 4611686018427387904, 15, 64⟩, ⟨9, .q none, 73786976294838206464, 511, 128⟩]), (11, [⟨0, .q none, 32, 0, 147573952589676412928⟩, ⟨1, .q none, 32, 0, 295147905179352825856⟩, ⟨2, .q none, 295147905179352825856, 2, 590295810358705651712⟩, ⟨3, .q none, 590295810358705651716, 6, 1180591620717411303424⟩, ⟨4, .q (some 0), 1180591620717411303424, 14, 2361183241434822606848⟩, ⟨5, .q none, 32, 0, 4722366482869645213696⟩, ⟨6, .q none, 4722366482869645213696, 32, 9444732965739290427392⟩, ⟨7, .q none, 9444732965739290427396, 96, 18889465931478580854784⟩, ⟨8, .q (some 0), 18889465931478580854784, 224, 37778931862957161709568⟩, ⟨9, .q none, 40140115104391984316416, 510, 75557863725914323419136⟩, ⟨10, .q none, 64, 0, 151115727451828646838272⟩, ⟨11, .f 0 true, 151115727451828646838272, 1024, 302231454903657293676544⟩, ⟨12, .q none, 64, 0, 604462909807314587353088⟩, ⟨13, .f 1 true, 604462909807314587353088, 7168, 1208925819614629174706176⟩, ⟨14, .q none, 1511157274518286468382720, 15360, 2417851639229258349412352⟩, ⟨15, .q none, 64, 0, 4835703278458516698824704⟩, ⟨16, .q none, 4835703278458516698824704, 32768, 9671406556917033397649408⟩, ⟨17, .q none, 12089258196146291747061760, 130048, 19342813113834066795298816⟩, ⟨18, .q none, 19418370977559981118717952, 262142, 38685626227668133590597632⟩, ⟨19, .q none, 128, 0, 77371252455336267181195264⟩, ⟨20, .f 2 true, 77371252455336267181195264, 539648, 154742504910672534362390528⟩, ⟨21, .q none, 128, 0, 309485009821345068724781056⟩, ⟨22, .f 3 true, 309485009821345068724781056, 3685376, 618970019642690137449562112⟩, ⟨23, .q none, 773712524553362671811952640, 7879680, 1237940039285380274899124224⟩, ⟨24, .q none, 128, 0, 2475880078570760549798248448⟩, ⟨25, .q none, 2475880078570760549798248448, 16777216, 4951760157141521099596496896⟩, ⟨26, .q none, 6189700196426901374495621120, 66599936, 9903520314283042199192993792⟩, ⟨27, .q none, 9942205940510710332783591424, 134217726, 19807040628566084398385987584⟩, ⟨28, .q none, 147573952589676412932, 268435455, 39614081257132168796771975168⟩, ⟨29, .f 4 false, 59421121885698253195157962752, 536870911, 0⟩]), (12, [⟨0, .q none, 1, 0, 79228162514264337593543950336⟩, ⟨1, .q none, 79228162514264337593543950336, 1, 158456325028528675187087900672⟩, ⟨2, .q none, 158456325028528675187087900672, 3, 316912650057057350374175801344⟩, ⟨3, .q none, 316912650057057350374175801344, 7, 633825300114114700748351602688⟩, ⟨4, .q (some 0), 633825300114114700748351602688, 15, 1267650600228229401496703205376⟩, ⟨5, .q none, 1, 0, 2535301200456458802993406410752⟩, ⟨6, .q none, 2535301200456458802993406410752, 32, 5070602400912917605986812821504⟩, ⟨7, .q none, 5070602400912917605986812821504, 96, 10141204801825835211973625643008⟩, ⟨8, .q none, 10141204801825835211973625643008, 224, 20282409603651670423947251286016⟩, ⟨9, .q (some 0), 20282409603651670423947251286016, 480, 40564819207303340847894502572032⟩, ⟨10, .q none, 1, 0, 81129638414606681695789005144064⟩, ⟨11, .q none, 81129638414606681695789005144064, 1024, 162259276829213363391578010288128⟩, ⟨12, .q none, 162259276829213363391578010288128, 3072, 324518553658426726783156020576256⟩, ⟨13, .q none, 324518553658426726783156020576256, 7168, 649037107316853453566312041152512⟩, ⟨14, .q (some 0), 649037107316853453566312041152512, 15360, 1298074214633706907132624082305024⟩, ⟨15, .q none, 1, 0, 2596148429267413814265248164610048⟩, ⟨16, .q none, 2596148429267413814265248164610048, 32768, 5192296858534827628530496329220096⟩, ⟨17, .q none, 5192296858534827628530496329220096, 98304, 10384593717069655257060992658440192⟩, ⟨18, .q none, 10384593717069655257060992658440192, 229376, 20769187434139310514121985316880384⟩, ⟨19, .q (some 0), 20769187434139310514121985316880384, 491520, 41538374868278621028243970633760768⟩, ⟨20, .q none, 1, 0, 83076749736557242056487941267521536⟩, ⟨21, .q none, 83076749736557242056487941267521536, 1048576, 166153499473114484112975882535043072⟩, ⟨22, .q none, 166153499473114484112975882535043072, 3145728, 332306998946228968225951765070086144⟩, ⟨23, .q none, 332306998946228968225951765070086144, 7340032, 664613997892457936451903530140172288⟩, ⟨24, .q (some 0), 664613997892457936451903530140172288, 15728640, 1329227995784915872903807060280344576⟩, ⟨25, .q none, 1, 0, 2658455991569831745807614120560689152⟩, ⟨26, .q none, 2658455991569831745807614120560689152, 33554432, 5316911983139663491615228241121378304⟩, ⟨27, .q none, 5316911983139663491615228241121378304, 100663296, 10633823966279326983230456482242756608⟩, ⟨28, .q none, 10633823966279326983230456482242756608, 234881024, 21267647932558653966460912964485513216⟩, ⟨29, .q (some 0), 21267647932558653966460912964485513216, 503316480, 42535295865117307932921825928971026432⟩, ⟨30, .q none, 1, 0, 85070591730234615865843651857942052864⟩, ⟨31, .q none, 85070591730234615865843651857942052864, 1073741824, 170141183460469231731687303715884105728⟩, ⟨32, .q none, 170141183460469231731687303715884105728, 3221225472, 340282366920938463463374607431768211456⟩, ⟨33, .q none, 340282366920938463463374607431768211456, 7516192768, 680564733841876926926749214863536422912⟩, ⟨34, .q (some 0), 680564733841876926926749214863536422912, 16106127360, 1361129467683753853853498429727072845824⟩, ⟨35, .q none, 1, 0, 2722258935367507707706996859454145691648⟩, ⟨36, .q none, 2722258935367507707706996859454145691648, 34359738368, 5444517870735015415413993718908291383296⟩, ⟨37, .q none, 5444517870735015415413993718908291383296, 103079215104, 10889035741470030830827987437816582766592⟩, ⟨38, .q none, 10889035741470030830827987437816582766592, 240518168576, 21778071482940061661655974875633165533184⟩, ⟨39, .q (some 0), 21778071482940061661655974875633165533184, 515396075520, 43556142965880123323311949751266331066368⟩, ⟨40, .q none, 1267650600228229401496703205376, 31, 256⟩, ⟨41, .q none, 40564819207303340847894502572032, 1099511628799, 512⟩, ⟨42, .q none, 1298074214633706907132624082305024, 3298534916095, 1024⟩, ⟨43, .q none, 41538374868278621028243970633760768, 7696582443007, 2048⟩, ⟨44, .q none, 1329227995784915872903807060280344576, 16492707971071, 4096⟩, ⟨45, .q none, 42535295865117307932921825928971026432, 34085934202879, 8192⟩, ⟨46, .q none, 1361129467683753853853498429727072845824, 69303592288255, 16384⟩, ⟨47, .q none, 43556142965880123323311949751266331066368, 140737488355327, 32768⟩]), (16, [⟨0, .q none, 32768, 0, 696898287454081973172991196020261297061888⟩, ⟨1, .q none, 4096, 0, 1393796574908163946345982392040522594123776⟩, ⟨2, .f 0 true, 1393796574908163946345982392040522594123776, 2, 2787593149816327892691964784081045188247552⟩, ⟨3, .q none, 4096, 0, 5575186299632655785383929568162090376495104⟩, ⟨4, .f 1 true, 5575186299632655785383929568162090376495104, 14, 11150372599265311570767859136324180752990208⟩, ⟨5, .q none, 13937965749081639463459823920405225941237760, 30, 22300745198530623141535718272648361505980416⟩, ⟨6, .q none, 4096, 0, 44601490397061246283071436545296723011960832⟩, ⟨7, .f 2 true, 44601490397061246283071436545296723011960832, 94, 89202980794122492566142873090593446023921664⟩, ⟨8, .q none, 111503725992653115707678591363241807529902080, 254, 178405961588244985132285746181186892047843328⟩, ⟨9, .q none, 179102859875699067105458737377207153344905216, 511, 356811923176489970264571492362373784095686656⟩, ⟨10, .q none, 4096, 0, 713623846352979940529142984724747568191373312⟩, ⟨11, .q none, 8192, 0, 1427247692705959881058285969449495136382746624⟩, ⟨12, .q none, 2140871539058939821587428954174242704574119936, 3072, 2854495385411919762116571938898990272765493248⟩, ⟨13, .q none, 4096, 0, 5708990770823839524233143877797980545530986496⟩, ⟨14, .q none, 5708990770823839524233143877797980545530986496, 8192, 11417981541647679048466287755595961091061972992⟩, ⟨15, .q none, 16384, 0, 22835963083295358096932575511191922182123945984⟩, ⟨16, .q none, 34253944624943037145398863266787883273185918976, 57344, 45671926166590716193865151022383844364247891968⟩, ⟨17, .q none, 48526421552002635955981722961282834637013385216, 130048, 91343852333181432387730302044767688728495783936⟩, ⟨18, .q none, 91700664256357922357994873537130062512591470592, 262143, 182687704666362864775460604089535377456991567872⟩, ⟨19, .q none, 1, 0, 365375409332725729550921208179070754913983135744⟩, ⟨20, .q none, 65536, 0, 730750818665451459101842416358141509827966271488⟩, ⟨21, .q none, 365375409332725729550921208179070754913983135744, 524288, 1461501637330902918203684832716283019655932542976⟩, ⟨22, .q none, 1461501637330902918203684832716283019655932542976, 2621440, 2923003274661805836407369665432566039311865085952⟩, ⟨23, .q none, 3653754093327257295509212081790707549139831357440, 7864320, 5846006549323611672814739330865132078623730171904⟩, ⟨24, .q (some 0), 5846006549323611672814739330865132078623730171904, 16252928, 11692013098647223345629478661730264157247460343808⟩, ⟨25, .q none, 11874700803313586210404939265819799534704451911680, 33554431, 23384026197294446691258957323460528314494920687616⟩, ⟨26, .q none, 65536, 0, 46768052394588893382517914646921056628989841375232⟩, ⟨27, .q none, 46768052394588893382517914646921056628989841375236, 67108864, 93536104789177786765035829293842113257979682750464⟩, ⟨28, .q (some 0), 93536104789177786765035829293842113257979682750464, 201326592, 187072209578355573530071658587684226515959365500928⟩, ⟨29, .q none, 210456235775650020221330615911144754830454286188544, 536870911, 374144419156711147060143317175368453031918731001856⟩, ⟨30, .q none, 374144419156711147060143317175368453031918731001856, 1073741823, 131072⟩]), (23, [⟨0, .q none, 1, 0, 52656145834278593348959013841835216159447547700274555627155488768⟩, ⟨1, .q none, 524288, 0, 105312291668557186697918027683670432318895095400549111254310977536⟩, ⟨2, .q none, 52656145834278593348959013841835216159447547700274555627155488768, 1, 210624583337114373395836055367340864637790190801098222508621955072⟩, ⟨3, .q none, 210624583337114373395836055367340864637790190801098222508621955072, 5, 421249166674228746791672110734681729275580381602196445017243910144⟩, ⟨4, .q none, 526561458342785933489590138418352161594475477002745556271554887680, 15, 842498333348457493583344221469363458551160763204392890034487820288⟩, ⟨5, .q (some 0), 842498333348457493583344221469363458551160763204392890034487820288, 31, 1684996666696914987166688442938726917102321526408785780068975640576⟩, ⟨6, .q none, 1048576, 0, 3369993333393829974333376885877453834204643052817571560137951281152⟩, ⟨7, .q none, 5054990000090744961500065328816180751306964579226357340206926921728, 127, 6739986666787659948666753771754907668409286105635143120275902562304⟩, ⟨8, .q none, 52656145834278593348959013841835216159447547700274555627155488768, 1, 13479973333575319897333507543509815336818572211270286240551805124608⟩, ⟨9, .q none, 13479973333575319897333507543509815336818572211270286240551805124608, 257, 26959946667150639794667015087019630673637144422540572481103610249216⟩, ⟨10, .q none, 27065258958819196981364933114703301105956039517941121592357921226752, 1023, 53919893334301279589334030174039261347274288845081144962207220498432⟩, ⟨11, .f 0 false, 60659880001088939538000783945794169015683574950716288082483123060736, 2047, 0⟩])], [], []⟩
theorem E_sha_state_turn (x0 : Value) (w : World) (R : Ending → World → Prop) : cwp Try.prog A_sha_state_turn (Try.f127.body.getD .skip) (retPost Try.prog Try.f127.results.toList R) (argE [x0]) w = F_sha_state_turn x0 w R := by kernel_rfl
theorem C_sha_state_turn {x0 : Value} {w : World} {R : Ending → World → Prop} (h : F_sha_state_turn x0 w R) : Calls Try.prog 127 #[x0] w R :=
 calls_cwp (A := A_sha_state_turn) (args := [x0]) mixed Try.func127 (c := Try.f127.body.getD .skip) (by kernel_rfl) (by kernel_rfl) (by kernel_rfl) ((E_sha_state_turn x0 w R).mpr h)
def F_wire_Writer_Flag (x0 x1 : Value) (w : World) (R : Ending → World → Prop) : Prop :=
 m R (o_bin .eql 149 true x0 (.pointer none)) w fun x5 w1 =>
 mif x5 (
 R (.returned (.tuple #[])) w1) (
 mif x1 (
 m R (o_nilCheck x0) w1 fun x9 w2 =>
 m R (o_fieldAddr 173 x9 0) w2 fun x10 w3 =>
 m R (o_load 106 x10) w3 fun x11 w4 =>
 m R (o_buildSlice 106 1 [(0, (.int .u8 1))]) w4 fun x12 w5 =>
 m R (o_builtin .append #[106, 106] 106 [false, false] [x11, x12]) w5 fun x13 w6 =>
 m R (o_nilCheck x0) w6 fun x14 w7 =>
 m R (o_fieldAddr 173 x14 0) w7 fun x15 w8 =>
 m R (o_store 106 x15 x13) w8 fun _ w9 =>
 R (.returned (.tuple #[])) w9) (
 m R (o_nilCheck x0) w1 fun x18 w10 =>
 m R (o_fieldAddr 173 x18 0) w10 fun x19 w11 =>
 m R (o_load 106 x19) w11 fun x20 w12 =>
 m R (o_buildSlice 106 1 [(0, (.int .u8 0))]) w12 fun x21 w13 =>
 m R (o_builtin .append #[106, 106] 106 [false, false] [x20, x21]) w13 fun x22 w14 =>
 m R (o_nilCheck x0) w14 fun x23 w15 =>
 m R (o_fieldAddr 173 x23 0) w15 fun x24 w16 =>
 m R (o_store 106 x24 x22) w16 fun _ w17 =>
 R (.returned (.tuple #[])) w17))
def A_wire_Writer_Flag : Ann := ⟨[], [], [], [], []⟩
theorem E_wire_Writer_Flag (x0 x1 : Value) (w : World) (R : Ending → World → Prop) : cwp Try.prog A_wire_Writer_Flag (Try.f128.body.getD .skip) (retPost Try.prog Try.f128.results.toList R) (argE [x0, x1]) w = F_wire_Writer_Flag x0 x1 w R := by kernel_rfl
theorem C_wire_Writer_Flag {x0 x1 : Value} {w : World} {R : Ending → World → Prop} (h : F_wire_Writer_Flag x0 x1 w R) : Calls Try.prog 128 #[x0, x1] w R :=
 calls_cwp (A := A_wire_Writer_Flag) (args := [x0, x1]) mixed Try.func128 (c := Try.f128.body.getD .skip) (by kernel_rfl) (by kernel_rfl) (by kernel_rfl) ((E_wire_Writer_Flag x0 x1 w R).mpr h)
def F_wire_Writer_Num (x0 x1 : Value) (w : World) (R : Ending → World → Prop) : Prop :=
 m R (o_bin .eql 149 true x0 (.pointer none)) w fun x9 w1 =>
 mif x9 (
 R (.returned (.tuple #[])) w1) (
 mj1 (fun j2 =>
 m R (o_bin .lss 3 true x1 (.int .i64 0)) w1 fun x11 w2 =>
 mguard x11 false (fun k => m R (o_move x1) w2 k) w2 fun x13 w3 =>
 mguard x11 false (fun k => m R (o_bin .gtr 3 true x13 (.int .i64 4611686018427387903)) w3 k) w3 fun x14 w4 =>
 m R (o_pick x11 (.bool true) x14) w4 fun x15 w5 =>
 j2 x15 w5) fun x15 u2 w6 =>
 mif x15 (
 m R (o_nilCheck x0) w6 fun x17 w7 =>
 m R (o_fieldAddr 173 x17 1) w7 fun x18 w8 =>
 m R (o_store 4 x18 (.bool true)) w8 fun _ w9 =>
 R (.returned (.tuple #[])) w9) (
 ml1 (.int .i64 0) w6 fun x4 u4 w10 next4 =>
 mj0 (fun j5 =>
 m R (o_bin .lss 3 true x4 (.int .i64 3)) w10 fun x20 w11 =>
 mguard x20 true (fun k => m R (o_move x1) w11 k) w11 fun x22 w12 =>
 mguard x20 true (fun k => m R (o_call (fv 152) []) w12 k) w12 fun x23 w13 =>
 mguard x20 true (fun k => m R (o_move x4) w13 k) w13 fun x24 w14 =>
 mguard x20 true (fun k => m R (o_index 189 x23 x24) w14 k) w14 fun x25 w15 =>
 mguard x20 true (fun k => m R (o_bin .geq 3 false x22 x25) w15 k) w15 fun x26 w16 =>
 m R (o_pick x20 x26 (.bool false)) w16 fun x27 w17 =>
 mif x27 (
 j5 w17) (
 m R (o_bin .shl 3 true (.int .i64 1) x4) w17 fun x31 w18 =>
 ml1 (.int .i64 0) w18 fun x33 u8 w19 next8 =>
 m R (o_bin .lss 3 false x33 x31) w19 fun x34 w20 =>
 mif x34 (
 m R (o_bin .sub 3 true x31 (.int .i64 1)) w20 fun x38 w21 =>
 m R (o_bin .sub 3 false x38 x33) w21 fun x40 w22 =>
 m R (o_bin .mul 3 true (.int .i64 8) x40) w22 fun x41 w23 =>
 m R (o_bin .shr 3 false x1 x41) w23 fun x42 w24 =>
 m R (o_conv 3 5 x42) w24 fun x43 w25 =>
 mj1 (fun j13 =>
 m R (o_bin .eql 3 true x33 (.int .i64 0)) w25 fun x45 w26 =>
 mif x45 (
 m R (o_bin .shl 3 true x4 (.int .u64 6)) w26 fun x48 w27 =>
 m R (o_conv 3 5 x48) w27 fun x49 w28 =>
 m R (o_bin .or 5 false x43 x49) w28 fun x50 w29 =>
 j13 x50 w29) (
 j13 x43 w26)) fun x7 u13 w30 =>
 m R (o_nilCheck x0) w30 fun x53 w31 =>
 m R (o_fieldAddr 173 x53 0) w31 fun x54 w32 =>
 m R (o_load 106 x54) w32 fun x55 w33 =>
 m R (o_buildSlice 106 1 [(0, x7)]) w33 fun x57 w34 =>
 m R (o_builtin .append #[106, 106] 106 [false, false] [x55, x57]) w34 fun x58 w35 =>
 m R (o_nilCheck x0) w35 fun x59 w36 =>
 m R (o_fieldAddr 173 x59 0) w36 fun x60 w37 =>
 m R (o_store 106 x60 x58) w37 fun _ w38 =>
 m R (o_bin .add 3 true x33 (.int .i64 1)) w38 fun x61 w39 =>
 next8 x61 w39) (
 R (.returned (.tuple #[])) w20))) fun u5 w40 =>
 m R (o_bin .add 3 true x4 (.int .i64 1)) w40 fun x29 w41 =>
 next4 x29 w41))
def A_wire_Writer_Num : Ann := ⟨[(4, [4], 1073217552), (8, [33], 4611686009837453504)], [(2, [15], 64512), (5, [], 267911168), (13, [7], 2234207627640960)], [], [], []⟩
theorem E_wire_Writer_Num (x0 x1 : Value) (w : World) (R : Ending → World → Prop) : cwp Try.prog A_wire_Writer_Num (Try.f129.body.getD .skip) (retPost Try.prog Try.f129.results.toList R) (argE [x0, x1]) w = F_wire_Writer_Num x0 x1 w R := by kernel_rfl
theorem C_wire_Writer_Num {x0 x1 : Value} {w : World} {R : Ending → World → Prop} (h : F_wire_Writer_Num x0 x1 w R) : Calls Try.prog 129 #[x0, x1] w R :=
 calls_cwp (A := A_wire_Writer_Num) (args := [x0, x1]) mixed Try.func129 (c := Try.f129.body.getD .skip) (by kernel_rfl) (by kernel_rfl) (by kernel_rfl) ((E_wire_Writer_Num x0 x1 w R).mpr h)
def F_cmp_isNaN_int (x0 : Value) (w : World) (R : Ending → World → Prop) : Prop :=
 m R (o_bin .neq 3 false x0 x0) w fun x5 w1 =>
 R (.returned x5) w1
def A_cmp_isNaN_int : Ann := ⟨[], [], [], [], []⟩
theorem E_cmp_isNaN_int (x0 : Value) (w : World) (R : Ending → World → Prop) : cwp Try.prog A_cmp_isNaN_int (Try.f133.body.getD .skip) (retPost Try.prog Try.f133.results.toList R) (argE [x0]) w = F_cmp_isNaN_int x0 w R := by kernel_rfl
theorem C_cmp_isNaN_int {x0 : Value} {w : World} {R : Ending → World → Prop} (h : F_cmp_isNaN_int x0 w R) : Calls Try.prog 133 #[x0] w R :=
 calls_cwp (A := A_cmp_isNaN_int) (args := [x0]) mixed Try.func133 (c := Try.f133.body.getD .skip) (by kernel_rfl) (by kernel_rfl) (by kernel_rfl) ((E_cmp_isNaN_int x0 w R).mpr h)
def F_math_bits_RotateLeft32 (x0 x1 : Value) (w : World) (R : Ending → World → Prop) : Prop :=
 m R (o_conv 3 120 x1) w fun x7 w1 =>
 m R (o_bin .and 120 true x7 (.int .u64 31)) w1 fun x8 w2 =>
 m R (o_bin .shl 139 false x0 x8) w2 fun x11 w3 =>
 m R (o_bin .sub 120 true (.int .u64 32) x8) w3 fun x14 w4 =>
 m R (o_bin .shr 139 false x0 x14) w4 fun x15 w5 =>
 m R (o_bin .or 139 false x11 x15) w5 fun x16 w6 =>
 R (.returned x16) w6
def A_math_bits_RotateLeft32 : Ann := ⟨[], [], [], [], []⟩
theorem E_math_bits_RotateLeft32 (x0 x1 : Value) (w : World) (R : Ending → World → Prop) : cwp Try.prog A_math_bits_RotateLeft32 (Try.f151.body.getD .skip) (retPost Try.prog Try.f151.results.toList R) (argE [x0, x1]) w = F_math_bits_RotateLeft32 x0 x1 w R := by kernel_rfl
theorem C_math_bits_RotateLeft32 {x0 x1 : Value} {w : World} {R : Ending → World → Prop} (h : F_math_bits_RotateLeft32 x0 x1 w R) : Calls Try.prog 151 #[x0, x1] w R :=
 calls_cwp (A := A_math_bits_RotateLeft32) (args := [x0, x1]) mixed Try.func151 (c := Try.f151.body.getD .skip) (by kernel_rfl) (by kernel_rfl) (by kernel_rfl) ((E_math_bits_RotateLeft32 x0 x1 w R).mpr h)
def F_wire_bounds (w : World) (R : Ending → World → Prop) : Prop :=
 m R (o_alloc 189) w fun x0 w1 =>
 m R (o_build 189 [(0, (.int .i64 64)), (1, (.int .i64 16384)), (2, (.int .i64 1073741824)), (3, (.int .i64 4611686018427387903))]) w1 fun x1 w2 =>
 m R (o_store 189 x0 x1) w2 fun _ w3 =>
 rcell Try.prog 189 x0 w3 fun r0 =>
 R (.returned r0) w3
def A_wire_bounds : Ann := ⟨[], [], [], [], []⟩
theorem E_wire_bounds (w : World) (R : Ending → World → Prop) : cwp Try.prog A_wire_bounds (Try.f152.body.getD .skip) (retPost Try.prog Try.f152.results.toList R) (argE []) w = F_wire_bounds w R := by kernel_rfl
theorem C_wire_bounds {w : World} {R : Ending → World → Prop} (h : F_wire_bounds w R) : Calls Try.prog 152 #[] w R :=
 calls_cwp (A := A_wire_bounds) (args := []) mixed Try.func152 (c := Try.f152.body.getD .skip) (by kernel_rfl) (by kernel_rfl) (by kernel_rfl) ((E_wire_bounds w R).mpr h)
end Go.Proofs.Ytopcnkejobomaaa
namespace Go.Proofs.Ytopcnkejobomaaa
open Go.RowKit
section
variable {P : Program} {t : TypeId} {q : Bool}
instance (a b : Bool) [h : IsBo P t] : StepC P (o_bin .neq t q (.bool a) (.bool b)) True (.bool (decide (a ≠ b))) := ⟨fun _ w => by
  have := run_o_neq (P := P) (c := q) (w := w) (t := t) (x := .bool a) (y := .bool b) (fun _ _ => by simp only [eqGuard]; rfl) (by simp only [binOp]) (run_equalIn_bool' w 9999 t a b h.ok)
  rw [this]
  congr 3
  rw [Bool.eq_iff_iff]; simp⟩
instance (priority := 1100) : StepC P (o_un .not (.bool true)) True (.bool false) := ⟨fun _ w => by simp [o_un, sv, go_sem]⟩
instance (priority := 1100) : StepC P (o_un .not (.bool false)) True (.bool true) := ⟨fun _ w => by simp [o_un, sv, go_sem]⟩
end
end Go.Proofs.Ytopcnkejobomaaa
namespace Go.Proofs.Ytopcnkejobomaaa
open Go.RowKit
def exR {α : Type} (R : α → List Res) : Res := fun B => ∃ a, Hl (R a) B
theorem Mem.unex {α : Type} {R : α → List Res} {H : Hp} {w0 w : World} {L : List Res} (h : Mem H w0 (exR R :: L) w) : ∃ a, Mem H w0 (R a ++ L) w := by
  obtain ⟨B, ⟨B1, B2, rfl, ⟨a, h1⟩, h2⟩, hs⟩ := h.own
  exact ⟨a, ⟨B1 ++ B2, Hl.app.2 ⟨B1, B2, rfl, h1, h2⟩, hs⟩, h.fz⟩
theorem Mem.toex {α : Type} {R : α → List Res} {H : Hp} {w0 w : World} {L : List Res} (a : α) (h : Mem H w0 (R a ++ L) w) : Mem H w0 (exR R :: L) w := h.fold fun _ hb => ⟨a, hb⟩
instance (priority := 500) (L L' : List Res) (x : Res) [k : SubL L L'] : SubL (x :: L) L' := ⟨by
  obtain ⟨R, h⟩ := k.ok
  exact ⟨x :: R, h.cons x⟩⟩
def Clo {α : Type} (P : Program) (H : Hp) (w0 : World) (r : Res) (c : Value) (enc : α → Value) (f : α → Bool) : Prop :=
  ∀ (y : α) (R : List Res) (w : World) (K : Value → World → Prop) (X : List PanicEntry → World → Prop), Mem H w0 (r :: R) w → (∀ w', Mem H w0 (r :: R) w' → K (.bool (f y)) w') → mop P (o_call c [enc y]) w K X
section
variable {P : Program} {H : Hp} {w0 w : World} {L : List Res} {n cap e sz by_ : Nat} {t : TypeId} {A : Option Addr} {ps : List (List Fd)} {X X1 X2 X3 : List PanicEntry → World → Prop} {R : Ending → World → Prop}
theorem clone_gen [cc : SliC P t e sz by_] [IsSl P t] (hs : Sl (Hp.of w) sz A ps) (hn : n = ps.length) (hM : Mem H w0 L w) (hb : n ≤ 9223372036854775807 ∧ n * by_ ≤ 140737488355328)
    (hR : ∀ A' cap' w', Ext w w' → Mem H w0 (rowR e sz A' n cap' ps :: L) w' → R (.returned (.slice A' n cap')) w') :
    mop P (o_bin .eql t true (.slice A n cap) (.slice none 0 0)) w (fun x4 w1 => mif x4 (R (.returned (.slice none 0 0)) w1) (mop P (o_buildSlice t 0 []) w1 (fun x5 w2 => mop P (o_builtin .append #[t, t] t [false, false] [x5, .slice A n cap]) w2 (fun x7 w3 => R (.returned x7) w3) X2) X1)) X := by
  refine mop_c trivial ?_
  cases A with
  | none =>
    have : ps = [] := by
      rcases hs.at_ with h | ⟨b, o, c, h, _⟩
      · exact h
      · cases h
    subst this
    subst hn
    exact mif_true (hR none 0 w (Ext.refl w) (hM.row0 e sz))
  | some a =>
    refine mif_false ?_
    have k : Lits P sz 0 [] [] := inferInstance
    have hr := run_buildSlice (P := P) (t := t) (e := e) (sz := sz) (by_ := by_) (w := w) (ps := []) (qs := []) cc k (by simp)
    refine mop_run hr ?_
    have hx : Ext w (w.alloc (.cells (fls []).toArray e)) := (Only.refl _ w).alloc _
    have hM2 : Mem H w0 (rowR e sz (some ⟨w.heap.size, 0, none⟩) 0 0 [] :: L) (w.alloc (.cells (fls []).toArray e)) := by
      obtain ⟨B, hl, hs', hb'⟩ := hM.own
      refine ⟨⟨⟨w.heap.size, e, fls [], true⟩ :: B, ⟨[⟨w.heap.size, e, fls [], true⟩], B, rfl, ⟨Els.nil sz, rfl, .inr ⟨w.heap.size, [], rfl, by simp, by simp [fls], by simp, by simp⟩⟩, hl⟩, hs'.alloc e (fls []), fun b hm => ?_⟩, hM.fz.ext hx⟩
      rcases List.mem_cons.1 hm with rfl | hm
      · refine ⟨rfl, ?_⟩
        cases hh : H w.heap.size with
        | none => rfl
        | some c => have := hM.fz.lt hh; omega
      · exact hb' b hm
    subst hn
    have hsrc : Src P sz t (.slice (some a) ps.length cap) ps.length (fls ps) (w.alloc (.cells (fls []).toArray e)) := hs.src ((Fz.of w).ext hx) cc.und cap
    simp only [List.length_nil]
    refine mm_appX (n := 0) (cap := 0) hM2 ⟨.refl _⟩ hsrc hs.els rfl (by simp only [maxLen]; omega) (by rw [Nat.zero_add]; exact hb.2) fun A' cap' w' ho hM3 => ?_
    rw [Nat.zero_add, List.nil_append] at hM3
    rw [Nat.zero_add]
    have hx2 : Ext w w' := Only.trans hx ho fun i hi hg => by cases hg; omega
    exact hR A' cap' w' hx2 hM3
theorem Mem.setElem {R1 : List Res} {g : Nat} {k : Nat} {p : List Fd} (h : Mem H w0 (rowR e sz (some ⟨g, 0, none⟩) n cap ps :: R1) w) (hk : k < n) (hp : FOk p) (hs : fsz p = sz) : ∃ w', (storeCells ⟨g, 0 + k * sz, none⟩ (fl p) 0).run P w = .ok () w' ∧ Mem H w0 (rowR e sz (some ⟨g, 0, none⟩) n cap (ps.set k p) :: R1) w' := by
  obtain ⟨B, ⟨B1, B2, rfl, ⟨h1, h2, h3⟩, h4⟩, hs', hb⟩ := h.own
  rcases h3 with ⟨hA, _⟩ | ⟨g', sp, hA, rfl, h5, h6⟩
  · cases hA
  · cases hA
    have hs' : St w0 (⟨g, e, fls ps ++ sp, true⟩ :: B2) w := hs'
    have hle : k * sz + sz ≤ n * sz := by rw [← Nat.succ_mul]; exact Nat.mul_le_mul_right _ hk
    have hpl : (fl p).length = sz := by rw [hp.len, hs]
    have hfl : (fls ps).length = n * sz := by rw [h1.len, h2]
    have hst := run_storeCells_blf (P := P) (0 + k * sz) (fl p) 0 (fls ps ++ sp) w hs'.head (by rw [List.length_append, hfl, hpl]; omega) hp.one
    have hlay : lay (fls ps ++ sp) (fl p) (0 + k * sz + 0) = fls (ps.set k p) ++ sp := by
      have hk' : k < ps.length := by omega
      have e1 : ps = ps.take k ++ ps[k] :: ps.drop (k + 1) := by rw [List.getElem_cons_drop, List.take_append_drop]
      have ht : (fls (ps.take k)).length = k * sz := by rw [(h1.take k).len, List.length_take, Nat.min_eq_left (by omega)]
      have hx : (fl ps[k]).length = sz := by
        have := h1.ok ps[k] (List.getElem_mem _)
        rw [this.1.len, this.2]
      rw [List.set_eq_take_append_cons_drop, if_pos hk']
      conv => lhs; rw [e1]
      rw [fls_app, fls_app, fls_cons, fls_cons]
      unfold lay
      rw [Nat.zero_add, Nat.add_zero, hpl]
      rw [List.append_assoc, List.append_assoc, List.append_assoc, List.append_assoc, List.append_assoc]
      rw [List.take_left' ht]
      congr 1
      rw [show k * sz + sz = (fls (ps.take k) ++ fl ps[k]).length by rw [List.length_append, ht, hx], ← List.append_assoc (fls (ps.take k)), List.drop_left' rfl]
    refine ⟨_, hst, ?_⟩
    rw [hlay]
    have hl2 : (fls (ps.set k p) ++ sp).length = (fls ps ++ sp).length := by
      rw [← hlay]
      exact lay_length _ _ _ (by rw [List.length_append, hfl, hpl]; omega)
    have hels : Els sz (ps.set k p) := ⟨fun q hq => by
      rcases List.mem_or_eq_of_mem_set hq with hq | rfl
      · exact h1.ok q hq
      · exact ⟨hp, hs⟩⟩
    have hg := hb ⟨g, e, fls ps ++ sp, true⟩ (by simp)
    refine ⟨⟨⟨g, e, fls (ps.set k p) ++ sp, true⟩ :: B2, ⟨[⟨g, e, fls (ps.set k p) ++ sp, true⟩], B2, rfl, ⟨hels, by simpa using h2, .inr ⟨g, sp, rfl, rfl, by rw [hl2]; exact h5, h6⟩⟩, h4⟩, hs'.setRow hl2, fun b hm => ?_⟩, h.fz.same fun b c hc => setRow_other w g b _ ?_⟩
    · rcases List.mem_cons.1 hm with rfl | hm
      · exact ⟨rfl, hg.2⟩
      · exact hb b (List.mem_append.2 (.inr hm))
    · rintro rfl
      have := hg.2
      simp only [hc] at this
      cases this
theorem mm_str {R1 : List Res} {g k : Nat} {tt : TypeId} {q : Bool} {v : Value} {p : List Fd} {K : Value → World → Prop} {X : List PanicEntry → World → Prop} (h : Mem H w0 L w) [c : ShpC P tt q sz] [a : AtA L (some ⟨g, 0, none⟩) n cap e sz ps R1] [f : Vf v sz p] (hk : k < n)
    (hK : ∀ w', Mem H w0 (rowR e sz (some ⟨g, 0, none⟩) n cap (ps.set k p) :: R1) w' → K undef w') : mop P (o_store tt (.pointer (some ⟨g, 0 + k * sz, none⟩)) v) w K X := by
  obtain ⟨ev, hn, hp⟩ := f.ok
  obtain ⟨w', hr, hm⟩ := (h.perm a.perm).setElem (P := P) hk hp hn
  refine mop_skip ?_ (hK w' hm)
  have e2 : v.cells.size = sz := by rw [← Array.length_toList, ev, hp.len, hn]
  simp [o_store, su, Instr.storeAt, Instr.sureAddr, storeVar, run_size (shp_agg (w := w) c.ok).2, ev, e2]
  rw [Nat.zero_add] at hr
  simp [hr]
end
end Go.Proofs.Ytopcnkejobomaaa
namespace Go.Proofs.Ytopcnkejobomaaa
open Go.RowKit
def Rl.fz (K : Hp) : Rl := ⟨fun a b => Fz K a → Fz K b, fun _ h => h, fun h k x => k (h x), fun h x => x.ext h.ext⟩
def hadd (H : Hp) (g : Nat) (cs : List Value) : Hp := fun k => if k = g then some cs.toArray else H k
section
variable {P : Program} {H H' K : Hp} {w0 w w' : World} {L L' R R' : List Res} {g i : Nat} {t t' : TypeId} {fs gs fs' : List Fd} {put : Res → List Res} {q : Bool} {n m cap e e' sz by_ : Nat} {v : Value} {Kt : Value → World → Prop} {X : List PanicEntry → World → Prop} {Kq : Value → Prop} {A : Option Addr} {ps qs : List (List Fd)}
theorem Fz.hadd {cs : List Value} (h : Fz H w) (b : Blf w g t cs) : Fz (hadd H g cs) w := fun k c hk => by
  unfold Go.Proofs.Ytopcnkejobomaaa.hadd at hk
  split at hk
  · rename_i e
    subst e
    cases hk
    obtain ⟨fr, hb, _⟩ := b
    exact ⟨t, fr, hb⟩
  · exact h k c hk
theorem FbF.add {fs : List Fd} (h : FOk fs) : FbF (hadd K g (fl fs)) g fs := ⟨h, (fl fs).toArray, by simp [hadd], fun j u hu => by simpa using hu⟩
theorem Fz.mono {w : World} (h : Fz H' w) (k : H.le H') : Fz H w := fun b c hb => h b c (k b c hb)
def K2 (H : Hp) (g : Nat) (fs : List Fd) (g2 : Nat) (fs2 : List Fd) : Hp := hadd (hadd H g (fl fs)) g2 (fl fs2)
end
end Go.Proofs.Ytopcnkejobomaaa
namespace Go.Proofs.Ytopcnkejobomaaa
open Go.RowKit
class PurC (P : Program) (f : Nat) (args : List Value) (c : outParam Prop) (v : outParam Value) : Prop where
  ok : c → ∀ (w : World), Calls P f args.toArray w fun en w' => en = .returned v ∧ St w [] w'
section
variable {P : Program} {H K : Hp} {w0 w : World} {L : List Res} {f : Nat} {args : List Value} {c : Prop} {v : Value} {Kt : Value → World → Prop} {X : List PanicEntry → World → Prop}
theorem mm_purC (h : Mem H w0 L w) [hf : FunC P f] [p : PurC P f args c v] (hc : c) (hk : ∀ w', Mem H w0 L w' → Kt v w') : mop P (o_call (fv f) args) w Kt X := mm_pure h (p.ok hc w) hk
theorem dm_purC {ext : Bool} (h : Mem H w0 L w) [hf : FunC P f] [p : PurC P f args c v] (hc : c) (hk : ∀ w', Ext w w' → Mem H w0 L w' → Kt v w') : df P w (o_call (fv f) args) ext Kt := dm_pure h (fun w _ => p.ok hc w) hk
end
end Go.Proofs.Ytopcnkejobomaaa
namespace Go.Proofs.Ytopcnkejobomaaa
open Go.RowKit
section
variable {P : Program} {H : Hp} {w0 w : World} {L : List Res} {g n : Nat} {t t' : TypeId} {fs : List Fd} {put : Res → List Res} {v : Value} {K : Value → World → Prop} {X : List PanicEntry → World → Prop}
theorem SubA.set {o j : Nat} {ls : List Value} {putA : List Value → List Fd} (s : SubA fs o n ls putA) (hf : FOk fs) (hj : j < n) (hv : v.oneCell' = true) : FOk (putA (ls.set j v)) ∧ lay (fl fs) [v] (o + j) = fl (putA (ls.set j v)) ∧ o + j + 1 ≤ (fl fs).length := by
  obtain ⟨a, b, rfl, rfl, h3⟩ := s.ok
  have hls : FdOk (.arr n ls) := hf.ok _ (by simp)
  have hl : ls.length = n := hls.len
  have ha := hf.left.left.len
  refine ⟨?_, ?_, ?_⟩
  · rw [h3]
    refine (hf.left.left.app ⟨fun f hm => ?_⟩).app hf.right
    rw [List.mem_singleton.1 hm]
    refine ⟨by simpa [Fd.cells, Fd.size] using hl, fun u hu => ?_⟩
    rcases List.mem_or_eq_of_mem_set hu with hu | rfl
    · exact hls.one u hu
    · exact hv
  · rw [h3]
    unfold lay
    have e1 : fl (a ++ [.arr n ls] ++ b) = fl a ++ (ls ++ fl b) := by simp [fl_append, fl, Fd.cells]
    have e2 : fl (a ++ [.arr n (ls.set j v)] ++ b) = fl a ++ (ls.set j v ++ fl b) := by simp [fl_append, fl, Fd.cells]
    rw [e1, e2, ← ha, List.take_length_add_append, List.take_append_of_le_length (by omega), List.length_singleton, Nat.add_assoc, List.drop_length_add_append, List.drop_append_of_le_length (by omega)]
    rw [List.set_eq_take_append_cons_drop, if_pos (by omega)]
    simp
  · simp [fl_append, fl, Fd.cells]
    omega
theorem run_msta {o j : Nat} {ls : List Value} {putA : List Value → List Fd} (h : Mem H w0 L w) (cc : ShpC P t false 1) (k : AtB L g t' fs put) (s : SubA fs o n ls putA) (hv : One v) (hj : j < n) : ∃ w', (o_store t (.pointer (some ⟨g, o + j, none⟩)) v).run P w = .ok .skip w' ∧ Mem H w0 (put (fb g t' (putA (ls.set j v)))) w' := by
  obtain ⟨hb, hf⟩ := h.blf k
  obtain ⟨h1, h2, h3⟩ := s.set hf hj hv.ok
  have hl : (fl (putA (ls.set j v))).length = (fl fs).length := by rw [← h2]; exact lay_length _ _ _ (by simpa using h3)
  have hst := run_storeCells_blf (P := P) (o + j) [v] 0 (fl fs) w hb (by simpa using h3) (fun u hu => by rw [List.mem_singleton.1 hu]; exact hv.ok)
  refine ⟨_, ?_, h.setRow k h1 hl⟩
  simp only [Nat.add_zero, h2] at hst
  have e : v.cells.toList = [v] := by have := hv.ok; cases v <;> simp_all [Value.cells, Value.oneCell']
  have e2 : v.cells.size = 1 := by rw [← Array.length_toList, e]; rfl
  simp [o_store, su, Instr.storeAt, Instr.sureAddr, storeVar, run_size (shp_agg (w := w) cc.ok).2, e, hst, e2]
theorem mm_sta {o j : Nat} {ls : List Value} {putA : List Value → List Fd} (h : Mem H w0 L w) [cc : ShpC P t false 1] [k : AtB L g t' fs put] [s : SubA fs o n ls putA] [hv : One v] (hj : j < n) (hk : ∀ w', Mem H w0 (put (fb g t' (putA (ls.set j v)))) w' → K undef w') : mop P (o_store t (.pointer (some ⟨g, o + j, none⟩)) v) w K X := by
  obtain ⟨w', h1, h2⟩ := run_msta h cc k s hv hj
  exact mop_skip h1 (hk w' h2)
theorem mm_ldj {o j : Nat} {ls : List Value} {putA : List Value → List Fd} (h : Mem H w0 L w) [cc : ShpC P t false 1] [k : AtB L g t' fs put] [s : SubA fs o n ls putA] (hv : ls[j]? = some v) (hk : K v w) : mop P (o_load t (.pointer (some ⟨g, o + j, none⟩))) w K X := mm_lda h hv hk
end
end Go.Proofs.Ytopcnkejobomaaa
namespace Go.Proofs.Ytopcnkejobomaaa
open Go.RowKit
theorem mif_nt {F G : Prop} (h : G) : mif (.bool (!true)) F G := mif_false h
theorem mif_nf {F G : Prop} (h : F) : mif (.bool (!false)) F G := mif_true h
end Go.Proofs.Ytopcnkejobomaaa
namespace Go.Proofs.Ytopcnkejobomaaa
open Go.RowKit Go.Lib
set_option maxRecDepth 100000 in
theorem up_fin : ∀ y : Fin 128, bits .and .i64 y.val 1 = y.val % 2 ∧ bits .or .i64 (bits .andNot .i64 y.val (pw (level y.val + 1))) (pw (level y.val)) = up1 y.val ∧ level (up1 y.val) = level y.val + 1 ∧ pw (level y.val) ≤ y.val + 1 ∧ level y.val ≤ 7 := by decide +kernel
set_option maxRecDepth 100000 in
theorem fd_fin : ∀ n : Fin 65, ∀ x : Fin 127, thr (n.val : Int) (x.val : Int) → 0 ≤ (fd n.val x.val).1 ∧ 1 ≤ (fd n.val x.val).2.1 ∧ (fd n.val x.val).1 + (fd n.val x.val).2.1 ≤ 64 := by decide +kernel
theorem up_eq {x : Int} (h : 0 ≤ x ∧ x < 128) : bits .and .i64 x 1 = x % 2 ∧ bits .or .i64 (bits .andNot .i64 x (pw (level x + 1))) (pw (level x)) = up1 x ∧ level (up1 x) = level x + 1 ∧ pw (level x) ≤ x + 1 ∧ level x ≤ 7 := by
  have := up_fin ⟨x.toNat, by omega⟩
  simpa only [Int.toNat_of_nonneg h.1] using this
theorem fd_eq {n x : Int} (h : thr n x) : 0 ≤ (fd n x).1 ∧ 1 ≤ (fd n x).2.1 ∧ (fd n x).1 + (fd n x).2.1 ≤ 64 := by
  obtain ⟨h1, h2, h3⟩ := id h
  have := fd_fin ⟨n.toNat, by omega⟩ ⟨x.toNat, by omega⟩
  simp only [Int.toNat_of_nonneg h2, Int.toNat_of_nonneg (show 0 ≤ n by omega)] at this
  exact this h
theorem bough_eq {n x : Int} (h : thr n x) : pLeft n x = lf n x ∧ pRight n x = rt n x ∧ pAbove n x = ab n x ∧ pBeside n x = bs n x ∧ pFrom n x = fro n x ∧ pTo n x = til n x ∧
    (level x ≠ 0 → okr 8 n (x + pw (level x - 1)) = true) ∧ (x ≠ root n → oku 8 n x = true) ∧ root n = rRoot n := by
  obtain ⟨h1, h2, h3⟩ := id h
  have := bough_fin ⟨n.toNat, by omega⟩ ⟨x.toNat, by omega⟩
  simp only [Int.toNat_of_nonneg h2, Int.toNat_of_nonneg (show 0 ≤ n by omega)] at this
  exact this h
theorem lev_rng : ∀ (f : Nat) (x : Int), 0 ≤ lev f x ∧ lev f x ≤ f
  | 0, x => by simp [lev]
  | f + 1, x => by
    have := lev_rng f (x / 2)
    unfold lev
    split <;> omega
theorem level_rng (x : Int) : 0 ≤ level x ∧ level x ≤ 8 := lev_rng 8 x
theorem pw_rng {k : Int} (h : k ≤ 9) : 1 ≤ pw k ∧ pw k ≤ 512 := by
  have h2 : (2 : Nat) ^ k.toNat ≤ 2 ^ 9 := Nat.pow_le_pow_right (by decide) (by omega)
  have h3 : 0 < (2 : Nat) ^ k.toNat := Nat.pow_pos (by decide)
  have h4 : pw k = ((2 ^ k.toNat : Nat) : Int) := by unfold pw; push_cast; rfl
  rw [h4]
  omega
instance {P : Program} {t : TypeId} {q : Bool} {k' : IntKind} (b : Int) : StepC P (o_bin .shl t q (.int .i64 1) (.int k' b)) (0 ≤ b ∧ b < 62) (.int .i64 (pw b)) := ⟨fun h => by
  have := p_shl (P := P) t q .i64 k' 1 b h.1 (by show b < 64; omega)
  have h2 : (2 : Nat) ^ b.toNat ≤ 2 ^ 62 := Nat.pow_le_pow_right (by decide) (by omega)
  have h4 : (2 : Int) ^ b.toNat = ((2 ^ b.toNat : Nat) : Int) := by push_cast; rfl
  have h5 : -9223372036854775808 ≤ (2 : Int) ^ b.toNat ∧ (2 : Int) ^ b.toNat < 9223372036854775808 := by
    generalize (2 : Nat) ^ b.toNat = m at h2 h4
    rw [h4]
    omega
  rw [Int.one_mul, wrap_in h5] at this
  exact this⟩
theorem p_andNot {P : Program} (t : TypeId) (c : Bool) (k : IntKind) (a b : Int) : Pur P (o_bin .andNot t c (.int k a) (.int k b)) (.int k (bits .andNot k a b)) := fun w => by
  simp [o_bin, sv, eqGuard, binOp, go_sem]
instance {P : Program} {t : TypeId} {q : Bool} {k : IntKind} (a b : Int) : StepC P (o_bin .andNot t q (.int k a) (.int k b)) True (.int k (bits .andNot k a b)) := ⟨fun _ => p_andNot t q k a b⟩
section
variable {H : Hp} {w0 w : World} {L : List Res}
theorem there_ok (n x : Int) (w : World) : Calls Try.prog 89 #[.int .i64 n, .int .i64 x] w fun en w' => en = .returned (.bool (decide (thr n x))) ∧ St w [] w' := by
  have hM := Mem.start (Fz.of w)
  refine C_bough_there ?_
  unfold F_bough_there
  ((with_reducible (refine mop_cS trivial ?_ ?_)))
  · intro h1
    ((with_reducible (refine mguard_yes ?_; refine mop_c trivial ?_; refine mguard_yes ?_)))
    ((with_reducible (refine mop_cS trivial ?_ ?_)))
    · intro h2
      ((with_reducible (refine mop_c trivial ?_; refine mguard_yes ?_; refine mop_c trivial ?_; refine mguard_yes ?_)))
      ((with_reducible (refine mop_cS trivial ?_ ?_)))
      · intro h3
        ((with_reducible (refine mop_c trivial ?_; refine mguard_yes ?_; refine mop_c trivial ?_; refine mguard_yes ?_; refine mop_c trivial ?_; refine mguard_yes ?_; refine mop_c ?_ ?_)); (focus omega); (with_reducible (refine mguard_yes ?_; refine mop_c ?_ ?_)); (focus omega); (with_reducible (refine mguard_yes ?_)))
        ((with_reducible (refine mop_cS trivial ?_ ?_)))
        · intro h4
          ((with_reducible (refine mop_c trivial ?_)))
          exact ⟨by rw [decide_eq_true (show thr n x from ⟨⟨h1, h2⟩, h3, h4⟩)], hM.st⟩
        · intro h4
          ((with_reducible (refine mop_c trivial ?_)))
          exact ⟨by rw [decide_eq_false (show ¬ thr n x from fun h => h4 h.2.2)], hM.st⟩
      · intro h3
        ((with_reducible (refine mop_c trivial ?_; (iterate 5 refine mguard_n2 ?_); refine mop_c trivial ?_)))
        exact ⟨by rw [decide_eq_false (show ¬ thr n x from fun h => h3 h.2.1)], hM.st⟩
    · intro h2
      ((with_reducible (refine mop_c trivial ?_; refine mguard_n2 ?_; refine mguard_n2 ?_; refine mop_c trivial ?_; (iterate 5 refine mguard_n2 ?_); refine mop_c trivial ?_)))
      exact ⟨by rw [decide_eq_false (show ¬ thr n x from fun h => h2 h.1.2)], hM.st⟩
  · intro h1
    ((with_reducible (refine mguard_n2 ?_; refine mguard_n2 ?_; refine mop_c trivial ?_; refine mguard_n2 ?_; refine mguard_n2 ?_; refine mop_c trivial ?_; (iterate 5 refine mguard_n2 ?_); refine mop_c trivial ?_)))
    exact ⟨by rw [decide_eq_false (show ¬ thr n x from fun h => h1 h.1.1)], hM.st⟩
instance (n x : Int) : PurC Try.prog 89 [.int .i64 n, .int .i64 x] True (.bool (decide (thr n x))) := ⟨fun _ w => there_ok n x w⟩
theorem rthere_ok (n x : Int) (w : World) : Calls Try.prog 50 #[.int .i64 n, .int .i64 x] w fun en w' => en = .returned (.bool (decide (thr n x))) ∧ St w [] w' := by
  have hM := Mem.start (Fz.of w)
  refine C_bevyref07_There ?_
  unfold F_bevyref07_There
  ((with_reducible (refine mop_cS trivial ?_ ?_)))
  · intro h1
    ((with_reducible (refine mguard_yes ?_; refine mop_c trivial ?_; refine mguard_yes ?_)))
    ((with_reducible (refine mop_cS trivial ?_ ?_)))
    · intro h2
      ((with_reducible (refine mop_c trivial ?_; refine mguard_yes ?_; refine mop_c trivial ?_; refine mguard_yes ?_)))
      ((with_reducible (refine mop_cS trivial ?_ ?_)))
      · intro h3
        ((with_reducible (refine mop_c trivial ?_; refine mguard_yes ?_; refine mop_c trivial ?_; refine mguard_yes ?_; refine mop_c trivial ?_; refine mguard_yes ?_; refine mop_c ?_ ?_)); (focus omega); (with_reducible (refine mguard_yes ?_; refine mop_c ?_ ?_)); (focus omega); (with_reducible (refine mguard_yes ?_)))
        ((with_reducible (refine mop_cS trivial ?_ ?_)))
        · intro h4
          ((with_reducible (refine mop_c trivial ?_)))
          exact ⟨by rw [decide_eq_true (show thr n x from ⟨⟨h1, h2⟩, h3, h4⟩)], hM.st⟩
        · intro h4
          ((with_reducible (refine mop_c trivial ?_)))
          exact ⟨by rw [decide_eq_false (show ¬ thr n x from fun h => h4 h.2.2)], hM.st⟩
      · intro h3
        ((with_reducible (refine mop_c trivial ?_; (iterate 5 refine mguard_n2 ?_); refine mop_c trivial ?_)))
        exact ⟨by rw [decide_eq_false (show ¬ thr n x from fun h => h3 h.2.1)], hM.st⟩
    · intro h2
      ((with_reducible (refine mop_c trivial ?_; refine mguard_n2 ?_; refine mguard_n2 ?_; refine mop_c trivial ?_; (iterate 5 refine mguard_n2 ?_); refine mop_c trivial ?_)))
      exact ⟨by rw [decide_eq_false (show ¬ thr n x from fun h => h2 h.1.2)], hM.st⟩
  · intro h1
    ((with_reducible (refine mguard_n2 ?_; refine mguard_n2 ?_; refine mop_c trivial ?_; refine mguard_n2 ?_; refine mguard_n2 ?_; refine mop_c trivial ?_; (iterate 5 refine mguard_n2 ?_); refine mop_c trivial ?_)))
    exact ⟨by rw [decide_eq_false (show ¬ thr n x from fun h => h1 h.1.1)], hM.st⟩
instance (n x : Int) : PurC Try.prog 50 [.int .i64 n, .int .i64 x] True (.bool (decide (thr n x))) := ⟨fun _ w => rthere_ok n x w⟩
theorem level_ok (x : Int) (hx : 0 ≤ x ∧ x < 128) (w : World) : Calls Try.prog 90 #[.int .i64 x] w fun en w' => en = .returned (.int .i64 (level x)) ∧ St w [] w' := by
  have hM := Mem.start (Fz.of w)
  refine C_bough_level ?_
  unfold F_bough_level
  refine ⟨fun v u w' => ∃ (y k : Int) (f : Nat), v = .int .i64 y ∧ u = .int .i64 k ∧ f ≤ 7 ∧ k = 7 - f ∧ 0 ≤ y ∧ y < 2 ^ f ∧ level x = k + lev (f + 1) y ∧ hM.now w', fun _ u _ => match u with | .int _ k => 7 - k.toNat | _ => 0, ⟨x, 0, 7, rfl, rfl, by omega, by omega, hx.1, hx.2, by unfold level; rw [Int.zero_add], hM⟩, ?_⟩
  rintro v u i w2 ⟨y, k, f, rfl, rfl, hf, hk, hy, hy2, hl, hM⟩
  have h7 : (2 : Int) ^ f ≤ 128 := by
    have h2 : (2 : Nat) ^ f ≤ 2 ^ 7 := Nat.pow_le_pow_right (by decide) hf
    have h4 : (2 : Int) ^ f = ((2 ^ f : Nat) : Int) := by push_cast; rfl
    omega
  obtain ⟨hb, _⟩ := up_eq (x := y) (by omega)
  ((with_reducible (refine mop_c trivial ?_)))
  rw [hb]
  ((with_reducible (refine mop_cS trivial ?_ ?_)))
  · intro ho
    cases f with
    | zero => simp at hy2; omega
    | succ f =>
      ((with_reducible (refine mif_true ?_; refine mop_c ?_ ?_)); (focus omega); (with_reducible (refine mop_c ?_ ?_)); (focus omega))
      have hd : y / 2 ^ (1 : Int).toNat = y / 2 := rfl
      rw [hd]
      have hp : (2 : Int) ^ (f + 1) = 2 ^ f * 2 := Int.pow_succ 2 f
      refine ⟨⟨y / 2, k + 1, f, rfl, rfl, by omega, by omega, by omega, by omega, ?_, hM⟩, ?_⟩
      · rw [hl]
        conv => lhs; rw [lev, if_pos ho]
        omega
      · simp only
        omega
  · intro ho
    ((with_reducible (refine mif_false ?_)))
    refine ⟨?_, hM.st⟩
    rw [hl, lev, if_neg ho]
    simp
instance (x : Int) : PurC Try.prog 90 [.int .i64 x] (0 ≤ x ∧ x < 128) (.int .i64 (level x)) := ⟨fun h w => level_ok x h w⟩
theorem broot_ok (n : Int) (w : World) : Calls Try.prog 55 #[.int .i64 n] w fun en w' => en = .returned (.int .i64 (root n)) ∧ St w [] w' := by
  have hM := Mem.start (Fz.of w)
  refine C_bough_Root ?_
  unfold F_bough_Root
  by_cases ht : thr n 0
  · rw [show root n = rtN n - 1 from if_pos ht]
    have hn := ht.1
    ((with_reducible (refine mm_purC hM ?_ ?_)); (focus (first | exact trivial | assumption | omega)); (with_reducible (clear hM; intro _ hM; refine mop_c trivial ?_)))
    rw [decide_eq_true ht]
    ((with_reducible (refine mif_nt ?_)))
    refine ⟨fun v w' => ∃ k : Int, v = .int .i64 k ∧ (k = 1 ∨ k = 2 ∨ k = 4 ∨ k = 8 ∨ k = 16 ∨ k = 32 ∨ k = 64) ∧ (k = 1 ∨ k < 2 * n) ∧ hM.now w', fun v _ => match v with | .int _ k => 100 - k.toNat | _ => 0, ⟨1, rfl, .inl rfl, .inl rfl, hM⟩, ?_⟩
    rintro v i w2 ⟨k, rfl, h1, h2, hM⟩
    ((with_reducible (refine mop_cS trivial ?_ ?_)))
    · intro h
      ((with_reducible (refine mif_true ?_; refine mop_c ?_ ?_)); (focus omega))
      exact ⟨⟨k * 2, rfl, by omega, by omega, hM⟩, by simp only; omega⟩
    · intro h
      ((with_reducible (refine mif_false ?_; refine mop_c ?_ ?_)); (focus omega))
      refine ⟨?_, hM.st⟩
      rw [show rtN n = k by unfold rtN; repeat' split
                            all_goals omega]
  · rw [show root n = -1 from if_neg ht]
    ((with_reducible (refine mm_purC hM ?_ ?_)); (focus (first | exact trivial | assumption | omega)); (with_reducible (clear hM; intro _ hM; refine mop_c trivial ?_)))
    rw [decide_eq_false ht]
    ((with_reducible (refine mif_nf ?_)))
    exact ⟨rfl, hM.st⟩
instance (n : Int) : PurC Try.prog 55 [.int .i64 n] True (.int .i64 (root n)) := ⟨fun _ w => broot_ok n w⟩
theorem half_ok (n : Int) (hn : 1 ≤ n ∧ n ≤ 64) (w : World) : Calls Try.prog 91 #[.int .i64 n] w fun en w' => en = .returned (.int .i64 (halfI n)) ∧ St w [] w' := by
  have hM := Mem.start (Fz.of w)
  refine C_bevyref07_half ?_
  unfold F_bevyref07_half
  refine ⟨fun v w' => ∃ k : Int, v = .int .i64 k ∧ (k = 1 ∨ k = 2 ∨ k = 4 ∨ k = 8 ∨ k = 16 ∨ k = 32) ∧ (k = 1 ∨ k < n) ∧ hM.now w', fun v _ => match v with | .int _ k => 100 - k.toNat | _ => 0, ⟨1, rfl, .inl rfl, .inl rfl, hM⟩, ?_⟩
  rintro v i w2 ⟨k, rfl, h1, h2, hM⟩
  ((with_reducible (refine mop_c ?_ ?_)); (focus omega))
  ((with_reducible (refine mop_cS trivial ?_ ?_)))
  · intro h
    ((with_reducible (refine mif_true ?_; refine mop_c ?_ ?_)); (focus omega))
    exact ⟨⟨2 * k, rfl, by omega, by omega, hM⟩, by simp only; omega⟩
  · intro h
    ((with_reducible (refine mif_false ?_)))
    refine ⟨?_, hM.st⟩
    rw [show halfI n = k by unfold halfI; repeat' split
                            all_goals omega]
instance (n : Int) : PurC Try.prog 91 [.int .i64 n] (1 ≤ n ∧ n ≤ 64) (.int .i64 (halfI n)) := ⟨fun h w => half_ok n h w⟩
theorem half_b {n : Int} (h : 1 ≤ n ∧ n ≤ 64) : 1 ≤ halfI n ∧ halfI n ≤ 32 ∧ (2 ≤ n → halfI n < n) ∧ n ≤ 2 * halfI n := by
  unfold halfI
  repeat' split
  all_goals omega
theorem rroot_ok (a n : Int) (h : (0 ≤ a ∧ a ≤ 100) ∧ 1 ≤ n ∧ n ≤ 64) (w : World) : Calls Try.prog 51 #[.int .i64 a, .int .i64 n] w fun en w' => en = .returned (.int .i64 (rootI a n)) ∧ St w [] w' := by
  have hM := Mem.start (Fz.of w)
  refine C_bevyref07_root ?_
  unfold F_bevyref07_root rootI
  have hb := half_b h.2
  ((with_reducible (refine mop_cS trivial ?_ ?_)))
  · intro h1
    ((with_reducible (refine mif_true ?_; refine mop_c ?_ ?_)); (focus omega))
    exact ⟨by rw [if_pos h1], hM.st⟩
  · intro h1
    ((with_reducible (refine mif_false ?_; refine mm_purC hM ?_ ?_)); (focus (first | exact trivial | assumption | omega)); (with_reducible (clear hM; intro _ hM; refine mop_c ?_ ?_)); (focus omega); (with_reducible (refine mop_c ?_ ?_)); (focus omega); (with_reducible (refine mop_c ?_ ?_)); (focus omega))
    exact ⟨by rw [if_neg h1], hM.st⟩
instance (a n : Int) : PurC Try.prog 51 [.int .i64 a, .int .i64 n] ((0 ≤ a ∧ a ≤ 100) ∧ 1 ≤ n ∧ n ≤ 64) (.int .i64 (rootI a n)) := ⟨fun h w => rroot_ok a n h w⟩
def okf : Nat → Int → Bool
  | 0, n => decide (n = 1)
  | f + 1, n => decide (n = 1) || (okf f (halfI n) && okf f (n - halfI n))
set_option maxRecDepth 100000 in
theorem okf_fin : ∀ n : Fin 65, 1 ≤ n.val → okf 6 n.val = true := by decide +kernel
theorem find_ok : ∀ (f : Nat) (a n x p b : Int), okf f n = true → 0 ≤ a → 1 ≤ n → a + n ≤ 64 → 2 * a ≤ x → x ≤ 2 * (a + n) - 2 → ∀ w, Calls Try.prog 92 #[.int .i64 a, .int .i64 n, .int .i64 x, .int .i64 p, .int .i64 b] w fun en w' => en = .returned (.tuple #[.int .i64 (fnd (f + 1) a n x p b).1, .int .i64 (fnd (f + 1) a n x p b).2.1, .int .i64 (fnd (f + 1) a n x p b).2.2.1, .int .i64 (fnd (f + 1) a n x p b).2.2.2]) ∧ St w [] w' := by
  intro f
  induction f with
  | zero =>
    intro a n x p b ho ha hn hs hx hy w
    have hM := Mem.start (Fz.of w)
    have h1 : n = 1 := by simpa [okf] using ho
    subst h1
    have hr : rootI a 1 = x := by unfold rootI; rw [if_pos rfl]; omega
    refine C_bevyref07_find ?_
    unfold F_bevyref07_find
    ((with_reducible (refine mm_purC hM ?_ ?_)); (focus (first | exact trivial | assumption | omega)); (with_reducible (clear hM; intro _ hM; refine mop_cT trivial ?_ ?_)); (focus (first | assumption | omega | with_reducible rfl | exact fun h => Bool.noConfusion h)); (with_reducible (refine mif_true ?_)))
    exact ⟨by simp only [fnd, if_pos hr], hM.st⟩
  | succ f ih =>
    intro a n x p b ho ha hn hs hx hy w
    have hM := Mem.start (Fz.of w)
    refine C_bevyref07_find ?_
    unfold F_bevyref07_find
    by_cases hr : rootI a n = x
    · ((with_reducible (refine mm_purC hM ?_ ?_)); (focus (first | exact trivial | assumption | omega)); (with_reducible (clear hM; intro _ hM; refine mop_cT trivial ?_ ?_)); (focus (first | assumption | omega | with_reducible rfl | exact fun h => Bool.noConfusion h)); (with_reducible (refine mif_true ?_)))
      exact ⟨by simp only [fnd, if_pos hr], hM.st⟩
    · have h1 : n ≠ 1 := by
        rintro rfl
        apply hr
        unfold rootI
        rw [if_pos rfl]
        omega
      have hre : rootI a n = 2 * (a + halfI n) - 1 := by unfold rootI; rw [if_neg h1]
      obtain ⟨b1, b2, b3, b4⟩ := half_b (n := n) (by omega)
      have b3 := b3 (by omega)
      simp only [okf, Bool.or_eq_true, decide_eq_true_eq, Bool.and_eq_true] at ho
      have ho := ho.resolve_left h1
      have e1 : fnd (f + 1 + 1) a n x p b = if x < rootI a n then fnd (f + 1) a (halfI n) x (rootI a n) (rootI (a + halfI n) (n - halfI n)) else fnd (f + 1) (a + halfI n) (n - halfI n) x (rootI a n) (rootI a (halfI n)) := by
        conv => lhs; rw [fnd, if_neg hr]
      ((with_reducible (refine mm_purC hM ?_ ?_)); (focus (first | exact trivial | assumption | omega)); (with_reducible (clear hM; intro _ hM; refine mop_cF trivial ?_ ?_)); (focus (first | assumption | omega | with_reducible rfl | exact fun h => Bool.noConfusion h)); (with_reducible (refine mif_false ?_; refine mm_purC hM ?_ ?_)); (focus (first | exact trivial | assumption | omega)); (with_reducible (clear hM; intro _ hM; refine mm_purC hM ?_ ?_)); (focus (first | exact trivial | assumption | omega)); (with_reducible (clear hM; intro _ hM; refine mop_c ?_ ?_)); (focus omega); (with_reducible (refine mop_c ?_ ?_)); (focus omega); (with_reducible (refine mm_purC hM ?_ ?_)); (focus (first | exact trivial | assumption | omega)); (with_reducible (clear hM; intro _ hM)))
      ((with_reducible (refine mop_cS trivial ?_ ?_)))
      · intro hl
        rw [if_pos hl] at e1
        ((with_reducible (refine mif_true ?_)))
        refine mm_pure hM (ih a (halfI n) x _ _ ho.1 ha b1 (by omega) hx (by omega) _) (fun w hM => ?_)
        skip
        rw [e1]
        exact ⟨rfl, hM.st⟩
      · intro hl
        rw [if_neg hl] at e1
        ((with_reducible (refine mif_false ?_; refine mop_c ?_ ?_)); (focus omega); (with_reducible (refine mop_c ?_ ?_)); (focus omega))
        refine mm_pure hM (ih (a + halfI n) (n - halfI n) x _ _ ho.2 (by omega) (by omega) (by omega) (by omega) (by omega) _) (fun w hM => ?_)
        skip
        rw [e1]
        exact ⟨rfl, hM.st⟩
theorem fd_ok (n x : Int) (h : thr n x) (w : World) : Calls Try.prog 92 #[.int .i64 0, .int .i64 n, .int .i64 x, .int .i64 (-1), .int .i64 (-1)] w fun en w' => en = .returned (.tuple #[.int .i64 (fd n x).1, .int .i64 (fd n x).2.1, .int .i64 (fd n x).2.2.1, .int .i64 (fd n x).2.2.2]) ∧ St w [] w' := by
  obtain ⟨h1, h2, h3⟩ := h
  have := okf_fin ⟨n.toNat, by omega⟩ (by simp only; omega)
  simp only [Int.toNat_of_nonneg (show 0 ≤ n by omega)] at this
  exact find_ok 6 0 n x (-1) (-1) this (by omega) (by omega) (by omega) (by omega) (by omega) w
instance (n x : Int) : PurC Try.prog 92 [.int .i64 0, .int .i64 n, .int .i64 x, .int .i64 (-1), .int .i64 (-1)] (thr n x) (.tuple #[.int .i64 (fd n x).1, .int .i64 (fd n x).2.1, .int .i64 (fd n x).2.2.1, .int .i64 (fd n x).2.2.2]) := ⟨fun h w => fd_ok n x h w⟩
end
end Go.Proofs.Ytopcnkejobomaaa
namespace Go.Proofs.Ytopcnkejobomaaa
open Go.RowKit Go.Lib
set_option maxRecDepth 100000 in
theorem ab_fin : ∀ n : Fin 65, ∀ x : Fin 127, thr (n.val : Int) (x.val : Int) → ab n.val x.val < 0 ∨ thr n.val (ab n.val x.val) := by decide +kernel
theorem ab_thr {n x : Int} (h : thr n x) (ha : ¬ ab n x < 0) : thr n (ab n x) := by
  obtain ⟨h1, h2, h3⟩ := id h
  have := ab_fin ⟨n.toNat, by omega⟩ ⟨x.toNat, by omega⟩
  simp only [Int.toNat_of_nonneg h2, Int.toNat_of_nonneg (show 0 ≤ n by omega)] at this
  exact (this h).resolve_left ha
instance {P : Program} (a b c d : Value) : StepC P (o_extract (.tuple #[a, b, c, d]) 0) True a := ⟨fun _ => p_extract [a, b, c, d] 0 a rfl⟩
instance {P : Program} (a b c d : Value) : StepC P (o_extract (.tuple #[a, b, c, d]) 1) True b := ⟨fun _ => p_extract [a, b, c, d] 1 b rfl⟩
instance {P : Program} (a b c d : Value) : StepC P (o_extract (.tuple #[a, b, c, d]) 2) True c := ⟨fun _ => p_extract [a, b, c, d] 2 c rfl⟩
instance {P : Program} (a b c d : Value) : StepC P (o_extract (.tuple #[a, b, c, d]) 3) True d := ⟨fun _ => p_extract [a, b, c, d] 3 d rfl⟩
theorem min_if (a n : Int) : min a n = if n < a then n else a := by split <;> omega
section
variable {H : Hp} {w0 w : World} {L : List Res}
theorem lf_of {n x : Int} (h : ¬ thr n x) : lf n x = -1 := if_neg h
theorem rt_of {n x : Int} (h : ¬ thr n x) : rt n x = -1 := if_neg h
theorem ab_of {n x : Int} (h : ¬ thr n x) : ab n x = -1 := if_neg h
theorem bs_of {n x : Int} (h : ¬ thr n x) : bs n x = -1 := if_neg h
theorem fro_of {n x : Int} (h : ¬ thr n x) : fro n x = 0 := if_neg h
theorem til_of {n x : Int} (h : ¬ thr n x) : til n x = 0 := if_neg h
theorem bleft_ok (n x : Int) (w : World) : Calls Try.prog 48 #[.int .i64 n, .int .i64 x] w fun en w' => en = .returned (.int .i64 (lf n x)) ∧ St w [] w' := by
  have hM := Mem.start (Fz.of w)
  refine C_bough_Left ?_
  unfold F_bough_Left
  refine ⟨fun v w' => v = .int .i64 (if thr n x then level x else 0) ∧ hM.now w', ?_, ?_⟩
  · by_cases ht : thr n x
    · obtain ⟨h1, h2, h3⟩ := id ht
      ((with_reducible (refine mm_purC hM ?_ (fun _ hM2 => ?_))); (focus (first | exact trivial | assumption | omega)); (with_reducible (replace hM := hM2; clear hM2)))
      rw [decide_eq_true ht]
      ((with_reducible (refine mif_true ?_; refine mm_purC hM ?_ ?_)); (focus (first | exact trivial | assumption | omega)); (with_reducible (clear hM; intro _ hM)))
      exact ⟨by rw [if_pos ht], hM⟩
    · ((with_reducible (refine mm_purC hM ?_ (fun _ hM2 => ?_))); (focus (first | exact trivial | assumption | omega)); (with_reducible (replace hM := hM2; clear hM2)))
      rw [decide_eq_false ht]
      ((with_reducible (refine mif_false ?_)))
      exact ⟨by rw [if_neg ht], hM⟩
  rintro v u w2 ⟨rfl, hM⟩
  by_cases ht : thr n x
  · obtain ⟨h1, h2, h3⟩ := id ht
    rw [if_pos ht]
    have hl := level_rng x
    rw [← (bough_eq ht).1]
    ((with_reducible (refine mop_cS trivial ?_ ?_)))
    · intro h
      ((with_reducible (refine mif_true ?_)))
      exact ⟨by unfold pLeft; rw [if_neg (fun h' => h'.2 h)], hM.st⟩
    · intro h
      have hp := pw_rng (k := level x - 1) (by omega)
      ((with_reducible (refine mif_false ?_; refine mop_c ?_ ?_)); (focus omega); (with_reducible (refine mop_c ?_ ?_)); (focus omega); (with_reducible (refine mop_c ?_ ?_)); (focus omega))
      exact ⟨by unfold pLeft; rw [if_pos ⟨ht, h⟩], hM.st⟩
  · rw [if_neg ht, lf_of ht]
    ((with_reducible (refine mop_cT trivial ?_ ?_)); (focus (first | assumption | omega | with_reducible rfl | exact fun h => Bool.noConfusion h)); (with_reducible (refine mif_true ?_)))
    exact ⟨rfl, hM.st⟩
instance (n x : Int) : PurC Try.prog 48 [.int .i64 n, .int .i64 x] True (.int .i64 (lf n x)) := ⟨fun _ w => bleft_ok n x w⟩
theorem bright_ok (n x : Int) (w : World) : Calls Try.prog 49 #[.int .i64 n, .int .i64 x] w fun en w' => en = .returned (.int .i64 (rt n x)) ∧ St w [] w' := by
  have hM := Mem.start (Fz.of w)
  refine C_bough_Right ?_
  unfold F_bough_Right
  refine ⟨fun v w' => v = .int .i64 (if thr n x then level x else 0) ∧ hM.now w', ?_, ?_⟩
  · by_cases ht : thr n x
    · obtain ⟨h1, h2, h3⟩ := id ht
      ((with_reducible (refine mm_purC hM ?_ (fun _ hM2 => ?_))); (focus (first | exact trivial | assumption | omega)); (with_reducible (replace hM := hM2; clear hM2)))
      rw [decide_eq_true ht]
      ((with_reducible (refine mif_true ?_; refine mm_purC hM ?_ ?_)); (focus (first | exact trivial | assumption | omega)); (with_reducible (clear hM; intro _ hM)))
      exact ⟨by rw [if_pos ht], hM⟩
    · ((with_reducible (refine mm_purC hM ?_ (fun _ hM2 => ?_))); (focus (first | exact trivial | assumption | omega)); (with_reducible (replace hM := hM2; clear hM2)))
      rw [decide_eq_false ht]
      ((with_reducible (refine mif_false ?_)))
      exact ⟨by rw [if_neg ht], hM⟩
  rintro v u w2 ⟨rfl, hM⟩
  by_cases ht : thr n x
  · obtain ⟨h1, h2, h3⟩ := id ht
    rw [if_pos ht]
    have hl := level_rng x
    obtain ⟨-, hR, -, -, -, -, hk, -, -⟩ := bough_eq ht
    rw [← hR]
    ((with_reducible (refine mop_cS trivial ?_ ?_)))
    · intro h
      ((with_reducible (refine mif_true ?_)))
      exact ⟨by unfold pRight; rw [if_neg (fun h' => h'.2 h)], hM.st⟩
    · intro h
      have hp := pw_rng (k := level x - 1) (by omega)
      have hk := hk h
      ((with_reducible (refine mif_false ?_; refine mop_c ?_ ?_)); (focus omega); (with_reducible (refine mop_c ?_ ?_)); (focus omega); (with_reducible (refine mop_c ?_ ?_)); (focus omega))
      rw [show pRight n x = rg 8 n (x + pw (level x - 1)) from if_pos ⟨ht, h⟩]
      refine ⟨fun v w' => ∃ (f : Nat) (y : Int), v = .int .i64 y ∧ okr f n y = true ∧ rg 8 n (x + pw (level x - 1)) = rg f n y ∧ hM.now w', fun v _ => match v with | .int _ k => k.toNat | _ => 0, ⟨8, _, rfl, hk, rfl, hM⟩, ?_⟩
      rintro v i w2 ⟨f, y, rfl, ho, he, hM⟩
      cases f with
      | zero => simp [okr] at ho
      | succ f =>
        simp only [okr, Bool.and_eq_true, Bool.or_eq_true, decide_eq_true_eq] at ho
        obtain ⟨hy, ho⟩ := ho
        by_cases hty : thr n y
        · ((with_reducible (refine mm_purC hM ?_ ?_)); (focus (first | exact trivial | assumption | omega)); (with_reducible (clear hM; intro _ hM; refine mop_c trivial ?_)))
          rw [decide_eq_true hty]
          ((with_reducible (refine mif_nt ?_)))
          exact ⟨by rw [he, rg, if_pos hty], hM.st⟩
        · obtain ⟨hl1, ho⟩ := ho.resolve_left hty
          have hl := level_rng y
          have hp := pw_rng (k := level y - 1) (by omega)
          ((with_reducible (refine mm_purC hM ?_ ?_)); (focus (first | exact trivial | assumption | omega)); (with_reducible (clear hM; intro _ hM; refine mop_c trivial ?_)))
          rw [decide_eq_false hty]
          ((with_reducible (refine mif_nf ?_; refine mm_purC hM ?_ ?_)); (focus (first | exact trivial | assumption | omega)); (with_reducible (clear hM; intro _ hM; refine mop_c ?_ ?_)); (focus omega); (with_reducible (refine mop_c ?_ ?_)); (focus omega); (with_reducible (refine mop_c ?_ ?_)); (focus omega))
          refine ⟨⟨f, _, rfl, ho, by rw [he, rg, if_neg hty], hM⟩, ?_⟩
          cases f with
          | zero => simp [okr] at ho
          | succ f =>
            simp only [okr, Bool.and_eq_true, decide_eq_true_eq] at ho
            simp only
            omega
  · rw [if_neg ht, rt_of ht]
    ((with_reducible (refine mop_cT trivial ?_ ?_)); (focus (first | assumption | omega | with_reducible rfl | exact fun h => Bool.noConfusion h)); (with_reducible (refine mif_true ?_)))
    exact ⟨rfl, hM.st⟩
instance (n x : Int) : PurC Try.prog 49 [.int .i64 n, .int .i64 x] True (.int .i64 (rt n x)) := ⟨fun _ w => bright_ok n x w⟩
theorem babove_ok (n x : Int) (w : World) : Calls Try.prog 109 #[.int .i64 n, .int .i64 x] w fun en w' => en = .returned (.int .i64 (ab n x)) ∧ St w [] w' := by
  have hM := Mem.start (Fz.of w)
  refine C_bough_Above ?_
  unfold F_bough_Above
  refine ⟨fun v w' => v = .bool (decide (¬ thr n x ∨ x = root n)) ∧ hM.now w', ?_, ?_⟩
  · by_cases ht : thr n x
    · ((with_reducible (refine mm_purC hM ?_ (fun _ hM2 => ?_))); (focus (first | exact trivial | assumption | omega)); (with_reducible (replace hM := hM2; clear hM2; refine mop_c trivial ?_)))
      rw [decide_eq_true ht, Bool.not_true]
      ((with_reducible (refine mguard_yes ?_; refine mop_c trivial ?_; refine mguard_yes ?_; refine mop_c trivial ?_; refine mguard_yes ?_; refine mm_purC hM ?_ ?_)); (focus (first | exact trivial | assumption | omega)); (with_reducible (clear hM; intro _ hM; refine mguard_yes ?_)))
      ((with_reducible (refine mop_cS trivial ?_ ?_)))
      · intro h
        ((with_reducible (refine mop_c trivial ?_)))
        exact ⟨by rw [decide_eq_true (.inr h)], hM⟩
      · intro h
        ((with_reducible (refine mop_c trivial ?_)))
        exact ⟨by rw [decide_eq_false (by simp [ht, h])], hM⟩
    · ((with_reducible (refine mm_purC hM ?_ (fun _ hM2 => ?_))); (focus (first | exact trivial | assumption | omega)); (with_reducible (replace hM := hM2; clear hM2; refine mop_c trivial ?_)))
      rw [decide_eq_false ht, Bool.not_false]
      ((with_reducible ((iterate 4 refine mguard_n1 ?_); refine mop_c trivial ?_)))
      exact ⟨by rw [decide_eq_true (.inl ht)], hM⟩
  rintro v u w2 ⟨rfl, hM⟩
  by_cases ht : thr n x
  · obtain ⟨-, -, hA, -, -, -, -, hu, -⟩ := bough_eq ht
    rw [← hA]
    by_cases hr : x = root n
    · rw [decide_eq_true (.inr hr)]
      ((with_reducible (refine mif_true ?_)))
      exact ⟨by unfold pAbove; rw [if_neg (fun h => h.2 hr)], hM.st⟩
    · rw [decide_eq_false (by simp [ht, hr])]
      have hu := hu hr
      ((with_reducible (refine mif_false ?_)))
      rw [show pAbove n x = ug 8 n x from if_pos ⟨ht, hr⟩]
      refine ⟨fun v w' => ∃ (f : Nat) (y : Int), v = .int .i64 y ∧ oku f n y = true ∧ ug 8 n x = ug f n y ∧ hM.now w', fun v _ => match v with | .int _ k => (8 - level k).toNat | _ => 0, ⟨8, _, rfl, hu, rfl, hM⟩, ?_⟩
      rintro v i w2 ⟨f, y, rfl, ho, he, hM⟩
      cases f with
      | zero => simp [oku] at ho
      | succ f =>
        simp only [oku, Bool.and_eq_true, Bool.or_eq_true, decide_eq_true_eq] at ho
        obtain ⟨hy, ho⟩ := ho
        obtain ⟨-, hb, hv, -, h7⟩ := up_eq hy
        have hl := level_rng y
        ((with_reducible (refine mm_purC hM ?_ ?_)); (focus (first | exact trivial | assumption | omega)); (with_reducible (clear hM; intro _ hM; refine dp_c ?_ ?_)); (focus omega); (with_reducible (refine dp_c ?_ ?_)); (focus omega); (with_reducible (refine dp_c trivial ?_; refine dp_c ?_ ?_)); (focus omega); (with_reducible (refine dp_c trivial ?_; refine mm_end hM ?_; clear hM; intro _ hM; refine mm_purC hM ?_ ?_)); (focus (first | exact trivial | assumption | omega)); (with_reducible (clear hM; intro _ hM)))
        rw [hb]
        by_cases hty : thr n (up1 y)
        · skip
          rw [decide_eq_true hty]
          ((with_reducible (refine mif_true ?_)))
          exact ⟨by rw [he, ug, if_pos hty], hM.st⟩
        · have ho := ho.resolve_left hty
          skip
          rw [decide_eq_false hty]
          ((with_reducible (refine mif_false ?_)))
          refine ⟨⟨f, _, rfl, ho, by rw [he, ug, if_neg hty], hM⟩, ?_⟩
          simp only
          omega
  · rw [decide_eq_true (.inl ht), ab_of ht]
    ((with_reducible (refine mif_true ?_)))
    exact ⟨rfl, hM.st⟩
instance (n x : Int) : PurC Try.prog 109 [.int .i64 n, .int .i64 x] True (.int .i64 (ab n x)) := ⟨fun _ w => babove_ok n x w⟩
theorem bbeside_ok (n x : Int) (w : World) : Calls Try.prog 63 #[.int .i64 n, .int .i64 x] w fun en w' => en = .returned (.int .i64 (bs n x)) ∧ St w [] w' := by
  have hM := Mem.start (Fz.of w)
  refine C_bough_Beside ?_
  unfold F_bough_Beside
  by_cases ht : thr n x
  · obtain ⟨-, -, hA, hB, -⟩ := bough_eq ht
    rw [← hB]
    unfold pBeside
    rw [hA]
    ((with_reducible (refine mm_purC hM ?_ ?_)); (focus (first | exact trivial | assumption | omega)); (with_reducible (clear hM; intro _ hM)))
    ((with_reducible (refine mop_cS trivial ?_ ?_)))
    · intro h
      ((with_reducible (refine mif_true ?_)))
      exact ⟨by rw [if_pos h], hM.st⟩
    · intro h
      rw [if_neg h]
      have hta : thr n (ab n x) := ab_thr ht h
      obtain ⟨hl, hr, -⟩ := bough_eq hta
      rw [hl, hr]
      ((with_reducible (refine mif_false ?_)))
      ((with_reducible (refine mop_cS trivial ?_ ?_)))
      · intro h2
        ((with_reducible (refine mif_true ?_; refine mm_purC hM ?_ ?_)); (focus (first | exact trivial | assumption | omega)); (with_reducible (clear hM; intro _ hM)))
        exact ⟨by rw [if_pos h2], hM.st⟩
      · intro h2
        ((with_reducible (refine mif_false ?_; refine mm_purC hM ?_ ?_)); (focus (first | exact trivial | assumption | omega)); (with_reducible (clear hM; intro _ hM)))
        exact ⟨by rw [if_neg h2], hM.st⟩
  · rw [bs_of ht]
    have := ab_of ht
    ((with_reducible (refine mm_purC hM ?_ ?_)); (focus (first | exact trivial | assumption | omega)); (with_reducible (clear hM; intro _ hM; refine mop_cT trivial ?_ ?_)); (focus (first | assumption | omega | with_reducible rfl | exact fun h => Bool.noConfusion h)); (with_reducible (refine mif_true ?_)))
    exact ⟨rfl, hM.st⟩
instance (n x : Int) : PurC Try.prog 63 [.int .i64 n, .int .i64 x] True (.int .i64 (bs n x)) := ⟨fun _ w => bbeside_ok n x w⟩
theorem bleaves_ok (n x : Int) (w : World) : Calls Try.prog 111 #[.int .i64 n, .int .i64 x] w fun en w' => en = .returned (.tuple #[.int .i64 (fro n x), .int .i64 (til n x)]) ∧ St w [] w' := by
  have hM := Mem.start (Fz.of w)
  refine C_bough_Leaves ?_
  unfold F_bough_Leaves
  by_cases ht : thr n x
  · obtain ⟨h1, h2, h3⟩ := id ht
    obtain ⟨-, -, -, -, hF, hT, -⟩ := bough_eq ht
    obtain ⟨-, -, -, hq, h7⟩ := up_eq (x := x) (by omega)
    have hl := level_rng x
    have hp := pw_rng (k := level x) (by omega)
    rw [← hF, ← hT]
    unfold pFrom pTo
    rw [if_pos ht, if_pos ht, min_if]
    ((with_reducible (refine mm_purC hM ?_ ?_)); (focus (first | exact trivial | assumption | omega)); (with_reducible (clear hM; intro _ hM; refine mop_c trivial ?_)))
    rw [decide_eq_true ht]
    ((with_reducible (refine mif_nt ?_; refine mm_purC hM ?_ ?_)); (focus (first | exact trivial | assumption | omega)); (with_reducible (clear hM; intro _ hM; refine mop_c ?_ ?_)); (focus omega); (with_reducible (refine mop_c ?_ ?_)); (focus omega); (with_reducible (refine mop_c ?_ ?_)); (focus omega); (with_reducible (refine mop_c ?_ ?_)); (focus omega); (with_reducible (refine mop_c ?_ ?_)); (focus omega); (with_reducible (refine mop_c ?_ ?_)); (focus omega); (with_reducible (refine mop_c ?_ ?_)); (focus omega))
    exact ⟨rfl, hM.st⟩
  · rw [fro_of ht, til_of ht]
    ((with_reducible (refine mm_purC hM ?_ ?_)); (focus (first | exact trivial | assumption | omega)); (with_reducible (clear hM; intro _ hM; refine mop_c trivial ?_)))
    rw [decide_eq_false ht]
    ((with_reducible (refine mif_nf ?_)))
    exact ⟨rfl, hM.st⟩
instance (n x : Int) : PurC Try.prog 111 [.int .i64 n, .int .i64 x] True (.tuple #[.int .i64 (fro n x), .int .i64 (til n x)]) := ⟨fun _ w => bleaves_ok n x w⟩
theorem bholds_ok (n x p : Int) (w : World) : Calls Try.prog 68 #[.int .i64 n, .int .i64 x, .int .i64 p] w fun en w' => en = .returned (.bool (decide (hld n x p))) ∧ St w [] w' := by
  have hM := Mem.start (Fz.of w)
  refine C_bough_Holds ?_
  unfold F_bough_Holds
  ((with_reducible (refine mm_purC hM ?_ ?_)); (focus (first | exact trivial | assumption | omega)); (with_reducible (clear hM; intro _ hM; refine mop_c trivial ?_; refine mop_c trivial ?_)))
  ((with_reducible (refine mop_cS trivial ?_ ?_)))
  · intro h1
    ((with_reducible (refine mguard_yes ?_; refine mop_c trivial ?_; refine mguard_yes ?_; refine mop_c trivial ?_; refine mguard_yes ?_)))
    ((with_reducible (refine mop_cS trivial ?_ ?_)))
    · intro h2
      ((with_reducible (refine mop_c trivial ?_)))
      exact ⟨by rw [decide_eq_true (show hld n x p from ⟨h1, h2⟩)], hM.st⟩
    · intro h2
      ((with_reducible (refine mop_c trivial ?_)))
      exact ⟨by rw [decide_eq_false (show ¬ hld n x p from fun h => h2 h.2)], hM.st⟩
  · intro h1
    ((with_reducible ((iterate 3 refine mguard_n2 ?_); refine mop_c trivial ?_)))
    exact ⟨by rw [decide_eq_false (show ¬ hld n x p from fun h => h1 h.1)], hM.st⟩
instance (n x p : Int) : PurC Try.prog 68 [.int .i64 n, .int .i64 x, .int .i64 p] True (.bool (decide (hld n x p))) := ⟨fun _ w => bholds_ok n x p w⟩
theorem rabove_ok (n x : Int) (w : World) : Calls Try.prog 107 #[.int .i64 n, .int .i64 x] w fun en w' => en = .returned (.int .i64 (ab n x)) ∧ St w [] w' := by
  have hM := Mem.start (Fz.of w)
  refine C_bevyref07_Above ?_
  unfold F_bevyref07_Above
  by_cases ht : thr n x
  · rw [show ab n x = (fd n x).2.2.1 from if_pos ht]
    ((with_reducible (refine mm_purC hM ?_ ?_)); (focus (first | exact trivial | assumption | omega)); (with_reducible (clear hM; intro _ hM; refine mop_c trivial ?_)))
    rw [decide_eq_true ht]
    ((with_reducible (refine mif_nt ?_; refine mm_purC hM ?_ ?_)); (focus (first | exact trivial | assumption | omega)); (with_reducible (clear hM; intro _ hM; (iterate 4 refine mop_c trivial ?_))))
    exact ⟨rfl, hM.st⟩
  · rw [ab_of ht]
    ((with_reducible (refine mm_purC hM ?_ ?_)); (focus (first | exact trivial | assumption | omega)); (with_reducible (clear hM; intro _ hM; refine mop_c trivial ?_)))
    rw [decide_eq_false ht]
    ((with_reducible (refine mif_nf ?_)))
    exact ⟨rfl, hM.st⟩
instance (n x : Int) : PurC Try.prog 107 [.int .i64 n, .int .i64 x] True (.int .i64 (ab n x)) := ⟨fun _ w => rabove_ok n x w⟩
end
end Go.Proofs.Ytopcnkejobomaaa
namespace Go.Proofs.Ytopcnkejobomaaa
open Go.RowKit
def cand (k l : Nat) : Int := (l / 2 ^ k * 2 ^ (k + 1) + 2 ^ k - 1 : Nat)
def cands (n l : Nat) : List Int := ([1, 2, 3, 4, 5, 6].map fun k => cand k l).filter fun x => decide (x ≤ 2 * (n : Int) - 2)
set_option maxRecDepth 100000 in
theorem dir_fin : ∀ n : Fin 65, ∀ l : Fin 64, l.val < n.val → dirL n.val l.val = cands n.val l.val := by decide +kernel
set_option maxRecDepth 100000 in
theorem hold_fin : ∀ i : Fin 63, ∀ l : Fin 64, (1 ≤ level (2 * (i.val : Int) + 1) ∧ level (2 * (i.val : Int) + 1) ≤ 6) ∧ (((2 * (i.val : Int) + 1 + 1 - pw (level (2 * i.val + 1))) / 2 ≤ l.val ∧ (l.val : Int) < (2 * i.val + 1 + 1 + pw (level (2 * i.val + 1))) / 2) ↔ cand (level (2 * i.val + 1)).toNat l.val = 2 * i.val + 1) := by decide +kernel
set_option maxRecDepth 100000 in
theorem cand_fin : ∀ k : Fin 7, ∀ l : Fin 64, 1 ≤ k.val → cand k.val l.val % 2 = 1 ∧ 0 ≤ cand k.val l.val ∧ cand k.val l.val < 127 ∧ level (cand k.val l.val) = k.val := by decide +kernel
def okd : Nat → Int → Int → Bool
  | 0, n, x => decide (ab n x < 0)
  | f + 1, n, x => decide (ab n x < 0) || okd f n (ab n x)
set_option maxRecDepth 100000 in
theorem okd_fin : ∀ n : Fin 65, ∀ x : Fin 127, thr (n.val : Int) (x.val : Int) → okd 8 n.val x.val = true := by decide +kernel
set_option maxRecDepth 100000 in
theorem lvl_fin : ∀ n : Fin 65, ∀ x : Fin 127, thr (n.val : Int) (x.val : Int) → ab n.val x.val < 0 ∨ level x.val < level (ab n.val x.val) ∧ level (ab n.val x.val) ≤ 7 := by decide +kernel
end Go.Proofs.Ytopcnkejobomaaa
