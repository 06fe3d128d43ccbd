/- Equality of flat structs and arrays: of the cells. No program is named here. -/
import Derived.Test.YtopcnkejobomaaaMem
import Derived.DeepKeys
namespace Go.Proofs.Ytopcnkejobomaaa
open Go.RowKit

/-- What a cell is. -/
inductive CK where
  | bool
  | int (k : IntKind)
  | str
  | no
def ck : Value → CK
  | .bool _ => .bool
  | .int k _ => .int k
  | .string _ => .str
  | _ => .no
def kindsF (P : Program) (g : TypeId → Option (List CK)) : List Field → Nat → Option (List CK)
  | [], _ => some []
  | f :: fs, off => bif f.name != "_" && Nat.beq f.offset off then
      match g f.type with
      | some k => bif Nat.beq (P.cellsOf f.type) k.length then (kindsF P g fs (off + k.length)).map (k ++ ·) else none
      | none => none
    else none
/-- The kinds of a flat type's cells. -/
def kinds (P : Program) : Nat → TypeId → Option (List CK)
  | 0, _ => none
  | d + 1, t =>
    match P.underlying t with
    | some .bool => some [.bool]
    | some (.int k) => some [.int k]
    | some .string => some [.str]
    | some (.array n e) => (kinds P d e).bind fun k => bif Nat.beq (P.cellsOf e) k.length && (P.info? e).isSome then some ((List.replicate n k).flatten) else none
    | some (.struct fs) => bif P.stoodInHeld t then none else kindsF P (kinds P d) fs.toList 0
    | _ => none
/-- xs are the cells of x. -/
def Tv (P : Program) (t : TypeId) (xs : List Value) (x : Value) : Prop :=
  match P.underlying t with
  | some (.struct _) | some (.array _ _) => x = .agg xs.toArray
  | _ => xs = [x]
section
variable {P : Program} {w : World}
theorem kinds_und {d : Nat} {t : TypeId} {ks : List CK} (h : kinds P d t = some ks) : ∃ D i, P.underlying t = some D ∧ P.info? t = some i := by
  cases d with
  | zero => cases h
  | succ d =>
    unfold kinds at h
    cases hu : P.underlying t with
    | none => simp [hu] at h
    | some D =>
      obtain ⟨i, hi⟩ := info_of_underlying hu
      exact ⟨D, i, rfl, hi⟩
theorem run_part {d : Nat} {t : TypeId} {ks : List CK} (hk : kinds P d t = some ks) (hc : P.cellsOf t = ks.length) (xs : List Value) (off : Nat) (h : off + ks.length ≤ xs.length) :
    ∃ x, (part t xs.toArray off).run P w = .ok x w ∧ Tv P t ((xs.drop off).take ks.length) x := by
  obtain ⟨D, i, hd, hi⟩ := kinds_und hk
  have hs : ks.length = i.size := by rw [← hc]; simp [Program.cellsOf, hi]
  have hsz : (sizeOf t).run P w = .ok i.size w := run_size (by simp [hi]) w
  have agg : (isAgg t).run P w = .ok true w → ∃ x, (part t xs.toArray off).run P w = .ok x w ∧ x = .agg ((xs.drop off).take ks.length).toArray := fun ha => by
    refine ⟨_, by simp [part, ha, hsz]; rfl, ?_⟩
    rw [hs]
  have sca : (isAgg t).run P w = .ok false w → ks.length = 1 → ∃ x, (part t xs.toArray off).run P w = .ok x w ∧ (xs.drop off).take ks.length = [x] := fun ha h1 => by
    have hlt : off < xs.length := by omega
    refine ⟨xs[off], by simp [part, ha, hlt], ?_⟩
    rw [h1, List.drop_eq_getElem_cons hlt]
    rfl
  cases d with
  | zero => cases hk
  | succ d =>
    unfold kinds at hk
    unfold Tv
    simp only [hd] at hk ⊢
    cases D
    case struct fs => exact agg (by simp [isAgg, run_underlying hd])
    case array n e => exact agg (by simp [isAgg, run_underlying hd])
    all_goals
      first
        | (cases hk; done)
        | exact sca (by simp [isAgg, run_underlying hd]) (by cases hk; rfl)
/-- The cells are of these kinds. -/
def Of (xs : List Value) (ks : List CK) : Prop := xs.map ck = ks
theorem Of.len {xs : List Value} {ks : List CK} (h : Of xs ks) : xs.length = ks.length := by rw [← h]; simp
def EqOk (P : Program) (n : Nat) (t : TypeId) (ks : List CK) : Prop := ∀ (w : World) (xs ys : List Value) (x y : Value), Of xs ks → Of ys ks → Tv P t xs x → Tv P t ys y → ∃ r : Bool, (Op.equalIn n t x y).run P w = .ok r w ∧ (r = true ↔ xs = ys)
theorem Of.part {xs : List Value} {l k r : List CK} (h : Of xs (l ++ k ++ r)) : Of ((xs.drop l.length).take k.length) k := by
  unfold Of at h ⊢
  rw [List.map_take, List.map_drop, h, List.append_assoc, List.drop_left', List.take_left'] <;> rfl
theorem eqFields_ok {n : Nat} {d : Nat} (ih : ∀ t ks, kinds P d t = some ks → EqOk P n t ks) (w : World) : ∀ (fs : List Field) (off : Nat) (ks l : List CK) (xs ys : List Value), kindsF P (kinds P d) fs off = some ks → l.length = off → Of xs (l ++ ks) → Of ys (l ++ ks) →
    ∃ r : Bool, (Op.eqFields n xs.toArray ys.toArray fs).run P w = .ok r w ∧ (r = true ↔ xs.drop off = ys.drop off)
  | [], off, ks, l, xs, ys, h, hl, hx, hy => by
    cases h
    refine ⟨true, rfl, by simp only [true_iff]; rw [List.drop_eq_nil_of_le (by rw [hx.len]; simp; omega), List.drop_eq_nil_of_le (by rw [hy.len]; simp; omega)]⟩
  | f :: fs, off, ks, l, xs, ys, h, hl, hx, hy => by
    unfold kindsF at h
    cases hb : (f.name != "_" && Nat.beq f.offset off) with
    | false => simp [hb] at h
    | true =>
      cases hk : kinds P d f.type with
      | none => simp [hb, hk] at h
      | some k =>
        cases hc : Nat.beq (P.cellsOf f.type) k.length with
        | false => simp [hb, hk, hc] at h
        | true =>
          simp only [hb, hk, hc, cond_true, Option.map_eq_some_iff] at h
          obtain ⟨ks', hks, rfl⟩ := h
          simp only [Bool.and_eq_true, bne_iff_ne, ne_eq] at hb
          have ho : f.offset = off := Nat.eq_of_beq_eq_true hb.2
          have hc := Nat.eq_of_beq_eq_true hc
          have lx := hx.len
          have ly := hy.len
          simp only [List.length_append] at lx ly
          obtain ⟨a, ha, ta⟩ := run_part (w := w) hk hc xs off (by omega)
          obtain ⟨b, hb', tb⟩ := run_part (w := w) hk hc ys off (by omega)
          have ox : Of ((xs.drop off).take k.length) k := by rw [← hl]; exact Of.part (r := ks') (by rwa [List.append_assoc])
          have oy : Of ((ys.drop off).take k.length) k := by rw [← hl]; exact Of.part (r := ks') (by rwa [List.append_assoc])
          obtain ⟨r, hr, hiff⟩ := ih _ _ hk w _ _ a b ox oy ta tb
          obtain ⟨r', hr', hiff'⟩ := eqFields_ok ih w fs (off + k.length) ks' (l ++ k) xs ys hks (by simp [hl]) (by rwa [List.append_assoc]) (by rwa [List.append_assoc])
          have split : ∀ zs : List Value, zs.drop off = (zs.drop off).take k.length ++ zs.drop (off + k.length) := fun zs => by rw [← List.drop_drop, List.take_append_drop]
          simp only [Op.eqFields, hb.1, ne_eq, not_false_eq_true, if_true, Sem.run_bind, ho, ha, hb', hr, Result.andThen_ok]
          cases r with
          | false =>
            refine ⟨false, rfl, ?_⟩
            simp only [Bool.false_eq_true, false_iff] at hiff ⊢
            intro e
            exact hiff (by rw [e])
          | true =>
            refine ⟨r', by simpa using hr', ?_⟩
            rw [hiff']
            have e1 := hiff.1 rfl
            constructor
            · intro e; rw [split xs, split ys, e1, e]
            · intro e
              rw [split xs, split ys, e1] at e
              exact List.append_cancel_left e
theorem eqItems_ok {n : Nat} {d : Nat} {e : TypeId} {k : List CK} (hk : kinds P d e = some k) (hc : P.cellsOf e = k.length) (ih : EqOk P n e k) (w : World) (xs ys : List Value) {m : Nat} (hx : Of xs (List.replicate m k).flatten) (hy : Of ys (List.replicate m k).flatten) :
    ∀ j i, i + j = m → ∃ r : Bool, (Op.eqItems n e k.length xs.toArray ys.toArray (List.range' i j)).run P w = .ok r w ∧ (r = true ↔ xs.drop (i * k.length) = ys.drop (i * k.length))
  | 0, i, hm => by
    have lx := hx.len
    have ly := hy.len
    simp at lx ly
    refine ⟨true, rfl, by simp only [true_iff]; rw [List.drop_eq_nil_of_le (by rw [lx]; exact Nat.le_of_eq (by rw [show m = i by omega])), List.drop_eq_nil_of_le (by rw [ly]; exact Nat.le_of_eq (by rw [show m = i by omega]))]⟩
  | j + 1, i, hm => by
    have lx := hx.len
    have ly := hy.len
    simp at lx ly
    have hle : i * k.length + k.length ≤ m * k.length := by rw [← Nat.succ_mul]; exact Nat.mul_le_mul_right _ (by omega)
    obtain ⟨a, ha, ta⟩ := run_part (w := w) hk hc xs (i * k.length) (by omega)
    obtain ⟨b, hb', tb⟩ := run_part (w := w) hk hc ys (i * k.length) (by omega)
    have sp : (List.replicate m k).flatten = (List.replicate i k).flatten ++ k ++ (List.replicate j k).flatten := by
      rw [← hm, ← List.replicate_append_replicate, List.flatten_append, List.replicate_succ, List.flatten_cons, List.append_assoc]
    have li : (List.replicate i k).flatten.length = i * k.length := by simp
    have ox : Of ((xs.drop (i * k.length)).take k.length) k := by rw [← li]; exact Of.part (by rw [← sp]; exact hx)
    have oy : Of ((ys.drop (i * k.length)).take k.length) k := by rw [← li]; exact Of.part (by rw [← sp]; exact hy)
    obtain ⟨r, hr, hiff⟩ := ih w _ _ a b ox oy ta tb
    obtain ⟨r', hr', hiff'⟩ := eqItems_ok hk hc ih w xs ys hx hy j (i + 1) (by omega)
    have split : ∀ zs : List Value, zs.drop (i * k.length) = (zs.drop (i * k.length)).take k.length ++ zs.drop ((i + 1) * k.length) := fun zs => by rw [Nat.succ_mul, ← List.drop_drop, List.take_append_drop]
    simp only [List.range'_succ, Op.eqItems, Sem.run_bind, ha, hb', hr, Result.andThen_ok]
    cases r with
    | false =>
      refine ⟨false, rfl, ?_⟩
      simp only [Bool.false_eq_true, false_iff] at hiff ⊢
      intro e
      exact hiff (by rw [e])
    | true =>
      refine ⟨r', by simpa using hr', ?_⟩
      rw [hiff']
      have e1 := hiff.1 rfl
      constructor
      · intro e; rw [split xs, split ys, e1, e]
      · intro e
        rw [split xs, split ys, e1] at e
        exact List.append_cancel_left e
theorem equalIn_ok (c : Nat) : ∀ (d : Nat) (t : TypeId) (ks : List CK), kinds P d t = some ks → EqOk P (c + d) t ks
  | 0, _, _, h => by cases h
  | d + 1, t, ks, h => by
    intro w xs ys x y hx hy tx ty
    have ih := equalIn_ok c d
    obtain ⟨D, i, hu, hi⟩ := kinds_und h
    unfold kinds at h
    unfold Tv at tx ty
    simp only [hu] at h tx ty
    have sca : ks.length = 1 → ∃ a b, xs = [a] ∧ ys = [b] := fun h1 => by
      have lx := hx.len
      have ly := hy.len
      match xs, ys, lx, ly with
      | [a], [b], _, _ => exact ⟨a, b, rfl, rfl⟩
      | [], _, lx, _ => simp at lx; omega
      | _ :: _ :: _, _, lx, _ => simp at lx; omega
      | [_], [], _, ly => simp at ly; omega
      | [_], _ :: _ :: _, _, ly => simp at ly; omega
    rw [show c + (d + 1) = (c + d) + 1 from rfl]
    cases D
    case bool =>
      cases h
      obtain ⟨a, b, rfl, rfl⟩ := sca rfl
      cases tx; cases ty
      simp only [Of, List.map_cons, List.map_nil, List.cons.injEq, and_true] at hx hy
      cases x <;> simp [ck] at hx
      cases y <;> simp [ck] at hy
      rename_i p q
      exact ⟨p == q, run_equalIn_bool' w _ _ _ _ hu, by simp⟩
    case int k =>
      cases h
      obtain ⟨a, b, rfl, rfl⟩ := sca rfl
      cases tx; cases ty
      simp only [Of, List.map_cons, List.map_nil, List.cons.injEq, and_true] at hx hy
      cases x <;> simp [ck] at hx
      cases y <;> simp [ck] at hy
      subst hx; subst hy
      rename_i p _ q
      exact ⟨p == q, run_equalIn_int w _ _ _ _ _ _ hu, by simp⟩
    case string =>
      cases h
      obtain ⟨a, b, rfl, rfl⟩ := sca rfl
      cases tx; cases ty
      simp only [Of, List.map_cons, List.map_nil, List.cons.injEq, and_true] at hx hy
      cases x <;> simp [ck] at hx
      cases y <;> simp [ck] at hy
      rename_i p q
      refine ⟨p.toList == q.toList, run_equalIn_string w _ _ _ _ hu, ?_⟩
      rw [beq_iff_eq, ByteArray.toList_eq, ByteArray.toList_eq]
      constructor
      · intro e
        have : p = q := by
          obtain ⟨⟨x⟩⟩ := p
          obtain ⟨⟨y⟩⟩ := q
          simpa using e
        rw [this]
      · intro e
        cases e
        rfl
    case array n e =>
      simp only [Option.bind_eq_some_iff] at h
      obtain ⟨k, hk, h⟩ := h
      cases hb : (Nat.beq (P.cellsOf e) k.length && (P.info? e).isSome) with
      | false => simp [hb] at h
      | true =>
        simp only [hb, cond_true, Option.some.injEq] at h
        subst h
        subst tx; subst ty
        simp only [Bool.and_eq_true] at hb
        have hc := Nat.eq_of_beq_eq_true hb.1
        obtain ⟨i', hi'⟩ := Option.isSome_iff_exists.1 hb.2
        obtain ⟨r, hr, hiff⟩ := eqItems_ok hk hc (ih e k hk) w xs ys hx hy n 0 (by omega)
        refine ⟨r, ?_, by simpa using hiff⟩
        rw [run_equalIn_array w (c + d) xs.toArray ys.toArray hu hi', hc, List.range_eq_range']
        exact hr
    case struct fs =>
      cases hs : P.stoodInHeld t with
      | true => simp [hs] at h
      | false =>
        simp only [hs, cond_false] at h
        subst tx; subst ty
        have hfs : P.fieldsOf t = fs := by simp [Program.fieldsOf, hu]
        obtain ⟨r, hr, hiff⟩ := eqFields_ok ih w fs.toList 0 ks [] xs ys h rfl hx hy
        refine ⟨r, ?_, by simpa using hiff⟩
        rw [run_equalIn_struct w (c + d) t xs.toArray ys.toArray (by rw [hfs]; exact hu) hs, hfs]
        exact hr
    all_goals (cases h; done)
/-- A flat struct or array: its cells' kinds. -/
class KindC (P : Program) (t : TypeId) (ks : outParam (List CK)) : Prop where
  ok : kinds P 6 t = some ks
  agg : (match P.underlying t with
    | some (.struct _) | some (.array _ _) => true
    | _ => false) = true
  guard : P.eqGuardType P.depth t = false
theorem KindC.eq {t : TypeId} {ks : List CK} (h : KindC P t ks) (w : World) {xs ys : List Value} (hx : Of xs ks) (hy : Of ys ks) : ∃ r : Bool, (Op.equalIn 10000 t (.agg xs.toArray) (.agg ys.toArray)).run P w = .ok r w ∧ (r = true ↔ xs = ys) := by
  have ha := h.agg
  refine equalIn_ok 9994 6 t ks h.ok w xs ys _ _ hx hy ?_ ?_ <;>
  · unfold Tv
    split at ha
    · rfl
    · rfl
    · cases ha
theorem p_eql_agg {t : TypeId} {ks : List CK} {p : Prop} [Decidable p] [h : KindC P t ks] (q : Bool) {xs ys : List Value} (hx : Of xs ks) (hy : Of ys ks) (hp : xs = ys ↔ p) : Pur P (o_bin .eql t q (.agg xs.toArray) (.agg ys.toArray)) (.bool (decide p)) := fun w => by
  obtain ⟨r, hr, hiff⟩ := h.eq w hx hy
  have : r = decide p := by rw [Bool.eq_iff_iff, hiff, hp]; simp
  simp only [o_bin, sv, Sem.run_bind, run_eqGuard_agg _ _ _ _ _ _ _ h.guard, Result.andThen_ok, run_eql_struct, hr, this]
  rfl
theorem p_neq_agg {t : TypeId} {ks : List CK} {p : Prop} [Decidable p] [h : KindC P t ks] (q : Bool) {xs ys : List Value} (hx : Of xs ks) (hy : Of ys ks) (hp : xs = ys ↔ p) : Pur P (o_bin .neq t q (.agg xs.toArray) (.agg ys.toArray)) (.bool (!decide p)) := fun w => by
  obtain ⟨r, hr, hiff⟩ := h.eq w hx hy
  have : r = decide p := by rw [Bool.eq_iff_iff, hiff, hp]; simp
  simp only [o_bin, sv, Sem.run_bind, run_eqGuard_agg _ _ _ _ _ _ _ h.guard, Result.andThen_ok, run_neq_struct, hr, this]
  rfl
theorem of_u8s (l : List Int) : Of (u8s l) (List.replicate l.length (.int .u8)) := by
  unfold Of u8s
  rw [List.map_map]
  induction l with
  | nil => rfl
  | cons a l ih => simp only [List.map_cons, List.length_cons, List.replicate_succ]; rw [ih]; rfl
theorem Of.app {a b : List Value} {k l : List CK} (h : Of a k) (h' : Of b l) : Of (a ++ b) (k ++ l) := by
  unfold Of at h h' ⊢
  rw [List.map_append, h, h']
theorem u8s_inj {a b : List Int} : u8s a = u8s b ↔ a = b := by
  constructor
  · intro h
    have := congrArg (List.map fun v : Value => match v with | .int _ n => n | _ => 0) h
    simpa [u8s, Function.comp_def] using this
  · rintro rfl; rfl
end
end Go.Proofs.Ytopcnkejobomaaa
