/- Wire: readers. -/
import Derived.Test.YtmjpbomonhjebaaRef1
namespace Go.Proofs.Ytmjpbomonhjebaa
open Go.RowKit

/-- These are bytes. -/
def Byt (l : List Int) : Prop := ∀ x ∈ l, 0 ≤ x ∧ x < 256
instance (l : List Int) : Decidable (Byt l) := by unfold Byt; infer_instance
/-- The number that bytes say. -/
def vl : List Int → Int
  | [] => 0
  | a :: r => r.foldl (fun n x => n * 256 + x) (a % 64)
theorem vl_succ (b : List Int) (i : Nat) (h1 : 1 ≤ i) (h : i < b.length) : vl (b.take (i + 1)) = vl (b.take i) * 256 + b.getD i 0 := by
  cases b with
  | nil => simp at h
  | cons a r =>
    obtain ⟨j, rfl⟩ : ∃ j, i = j + 1 := ⟨i - 1, by omega⟩
    have hj : j < r.length := by simpa using h
    show vl (a :: r.take (j + 1)) = vl (a :: r.take j) * 256 + (a :: r).getD (j + 1) 0
    have e : (a :: r).getD (j + 1) 0 = r[j] := by simp [hj]
    rw [e]
    show (r.take (j + 1)).foldl (fun n x => n * 256 + x) (a % 64) = (r.take j).foldl (fun n x => n * 256 + x) (a % 64) * 256 + r[j]
    rw [List.take_succ_eq_append_getElem hj, List.foldl_append]
    rfl
theorem vl_bd (b : List Int) (hb : Byt b) : ∀ i, i + 1 ≤ b.length → 0 ≤ vl (b.take (i + 1)) ∧ vl (b.take (i + 1)) < 64 * 256 ^ i := by
  intro i
  induction i with
  | zero =>
    intro h
    cases b with
    | nil => simp at h
    | cons a r =>
      simp [vl]
      omega
  | succ i ih =>
    intro h
    rw [vl_succ b (i + 1) (by omega) (by omega)]
    have := ih (by omega)
    have hx : 0 ≤ b.getD (i + 1) 0 ∧ b.getD (i + 1) 0 < 256 := by
      have hlt : i + 1 < b.length := by omega
      have : b.getD (i + 1) 0 = b[i + 1] := by simp [hlt]
      rw [this]
      exact hb _ (List.getElem_mem _)
    rw [Int.pow_succ]
    omega
theorem or_i64 (n x : Int) (hn : 0 ≤ n ∧ n < 18014398509481984) (hx : 0 ≤ x ∧ x < 256) : bits .or .i64 (n * 256) x = n * 256 + x := by
  obtain ⟨a, rfl⟩ : ∃ a : Nat, n = a := ⟨n.toNat, by omega⟩
  obtain ⟨b, rfl⟩ : ∃ b : Nat, x = b := ⟨x.toNat, by omega⟩
  have ha : a < 18014398509481984 := by omega
  have hb : b < 256 := by omega
  have e : ((a : Int) * 256) = ((a * 256 : Nat) : Int) := by omega
  have k : (a * 256) ||| b = a * 256 + b := by
    have := Nat.two_pow_add_eq_or_of_lt (i := 8) (b := b) (by omega) a
    rw [Nat.mul_comm a 256]
    exact this.symm
  rw [e]
  show IntKind.i64.wrap (((BitVec.ofInt 64 ((a * 256 : Nat) : Int) ||| BitVec.ofInt 64 (b : Int) : BitVec 64).toNat : Nat) : Int) = _
  simp only [BitVec.ofInt_natCast, BitVec.toNat_or, BitVec.toNat_ofNat]
  rw [Nat.mod_eq_of_lt (by omega), Nat.mod_eq_of_lt (by omega), k]
  simp only [IntKind.wrap, IntKind.bits, IntKind.signed]
  simp
  omega
/-- How many bytes the first one asks for. -/
def szN (a : Int) : Nat := if a < 64 then 1 else if a < 128 then 2 else if a < 192 then 4 else 8
def bdN (a : Int) : Int := if a < 64 then 0 else if a < 128 then 64 else if a < 192 then 16384 else 1073741824
theorem form1 (a : Int) (h : 0 ≤ a ∧ a < 64) : numB (vl [a]) = [a] := by
  have e : vl [a] = a := by simp [vl]; omega
  rw [e, numB, if_pos h.2]
theorem form2 (a b : Int) (ha : 64 ≤ a ∧ a < 128) (hb : 0 ≤ b ∧ b < 256) : (numB (vl [a, b]) ≠ [a, b]) ↔ vl [a, b] < 64 := by
  have e : vl [a, b] = a % 64 * 256 + b := by simp [vl]
  rw [e]
  unfold numB
  by_cases h : a % 64 * 256 + b < 64
  · rw [if_pos h]
    simp [h]
  · rw [if_neg h, if_pos (by omega)]
    simp only [h, iff_false, ne_eq, Decidable.not_not]
    rw [show 64 + (a % 64 * 256 + b) / 256 = a by omega, show (a % 64 * 256 + b) % 256 = b by omega]
theorem form4 (a b c d : Int) (ha : 128 ≤ a ∧ a < 192) (hb : 0 ≤ b ∧ b < 256) (hc : 0 ≤ c ∧ c < 256) (hd : 0 ≤ d ∧ d < 256) : (numB (vl [a, b, c, d]) ≠ [a, b, c, d]) ↔ vl [a, b, c, d] < 16384 := by
  have e : vl [a, b, c, d] = ((a % 64 * 256 + b) * 256 + c) * 256 + d := by simp [vl]
  rw [e]
  unfold numB
  by_cases h : ((a % 64 * 256 + b) * 256 + c) * 256 + d < 16384
  · simp only [h, iff_true, if_true]
    split <;> simp
  · rw [if_neg (by omega), if_neg h, if_pos (by omega)]
    simp only [h, iff_false, ne_eq, Decidable.not_not]
    generalize hn : ((a % 64 * 256 + b) * 256 + c) * 256 + d = n at h ⊢
    rw [show 128 + n / 16777216 = a by omega, show n / 65536 % 256 = b by omega, show n / 256 % 256 = c by omega, show n % 256 = d by omega]
theorem form8 (a b c d e f g h : Int) (ha : 192 ≤ a ∧ a < 256) (hb : 0 ≤ b ∧ b < 256) (hc : 0 ≤ c ∧ c < 256) (hd : 0 ≤ d ∧ d < 256) (he : 0 ≤ e ∧ e < 256) (hf : 0 ≤ f ∧ f < 256) (hg : 0 ≤ g ∧ g < 256) (hh : 0 ≤ h ∧ h < 256) : (numB (vl [a, b, c, d, e, f, g, h]) ≠ [a, b, c, d, e, f, g, h]) ↔ vl [a, b, c, d, e, f, g, h] < 1073741824 := by
  have ee : vl [a, b, c, d, e, f, g, h] = ((((((a % 64 * 256 + b) * 256 + c) * 256 + d) * 256 + e) * 256 + f) * 256 + g) * 256 + h := by simp [vl]
  rw [ee]
  unfold numB
  by_cases hx : ((((((a % 64 * 256 + b) * 256 + c) * 256 + d) * 256 + e) * 256 + f) * 256 + g) * 256 + h < 1073741824
  · simp only [hx, iff_true, if_true]
    (repeat' split) <;> simp
  · rw [if_neg (by omega), if_neg (by omega), if_neg hx]
    simp only [hx, iff_false, ne_eq, Decidable.not_not]
    generalize hn : ((((((a % 64 * 256 + b) * 256 + c) * 256 + d) * 256 + e) * 256 + f) * 256 + g) * 256 + h = n at hx ⊢
    rw [show 192 + n / 72057594037927936 = a by omega, show n / 281474976710656 % 256 = b by omega, show n / 1099511627776 % 256 = c by omega, show n / 4294967296 % 256 = d by omega, show n / 16777216 % 256 = e by omega, show n / 65536 % 256 = f by omega, show n / 256 % 256 = g by omega, show n % 256 = h by omega]
theorem list_two {l : List Int} (h : l.length = 2) : ∃ a b, l = [a, b] := by
  match l, h with
  | [a, b], _ => exact ⟨a, b, rfl⟩
theorem list_four {l : List Int} (h : l.length = 4) : ∃ a b c d, l = [a, b, c, d] := by
  match l, h with
  | [a, b, c, d], _ => exact ⟨a, b, c, d, rfl⟩
theorem list_eight {l : List Int} (h : l.length = 8) : ∃ a b c d e f g i, l = [a, b, c, d, e, f, g, i] := by
  match l, h with
  | [a, b, c, d, e, f, g, i], _ => exact ⟨a, b, c, d, e, f, g, i, rfl⟩
/-- Bytes say their number in the one right way just if it wants so many. -/
theorem form_iff (l : List Int) (hl : Byt l) (hn : szN (l.headD 0) ≤ l.length) (h0 : l ≠ []) : (numB (vl (l.take (szN (l.headD 0)))) ≠ l.take (szN (l.headD 0))) ↔ vl (l.take (szN (l.headD 0))) < bdN (l.headD 0) := by
  obtain ⟨a, r, rfl⟩ : ∃ a r, l = a :: r := by
    cases l with
    | nil => exact absurd rfl h0
    | cons a r => exact ⟨a, r, rfl⟩
  have ha := hl a (by simp)
  simp only [List.headD_cons] at hn ⊢
  have hm : ∀ x ∈ (a :: r).take (szN a), 0 ≤ x ∧ x < 256 := fun x hx => hl x (List.mem_of_mem_take hx)
  have hlen : ((a :: r).take (szN a)).length = szN a := by rw [List.length_take]; omega
  have hhd : (a :: r).take (szN a) = a :: r.take (szN a - 1) := by
    cases hs : szN a with
    | zero => unfold szN at hs; (repeat' split at hs) <;> cases hs
    | succ k => rfl
  by_cases h1 : a < 64
  · have e : szN a = 1 := if_pos h1
    rw [e] at hhd ⊢
    rw [hhd]
    simp only [Nat.sub_self, List.take_zero]
    have := form1 a ⟨ha.1, h1⟩
    have hv : vl [a] = a := by simp [vl]; omega
    rw [this]
    simp only [ne_eq, not_true, false_iff]
    rw [hv, bdN, if_pos h1]
    omega
  · by_cases h2 : a < 128
    · have e : szN a = 2 := by unfold szN; rw [if_neg h1, if_pos h2]
      have eb : bdN a = 64 := by unfold bdN; rw [if_neg h1, if_pos h2]
      rw [e] at hm hlen hhd ⊢
      rw [eb]
      obtain ⟨x, y, hxy⟩ := list_two hlen
      rw [hxy] at hhd hm ⊢
      obtain rfl : x = a := (List.cons.inj hhd).1
      exact form2 x y (by omega) (hm y (by simp))
    · by_cases h3 : a < 192
      · have e : szN a = 4 := by unfold szN; rw [if_neg h1, if_neg h2, if_pos h3]
        have eb : bdN a = 16384 := by unfold bdN; rw [if_neg h1, if_neg h2, if_pos h3]
        rw [e] at hm hlen hhd ⊢
        rw [eb]
        obtain ⟨x, y, z, u, hxy⟩ := list_four hlen
        rw [hxy] at hhd hm ⊢
        obtain rfl : x = a := (List.cons.inj hhd).1
        exact form4 x y z u (by omega) (hm y (by simp)) (hm z (by simp)) (hm u (by simp))
      · have e : szN a = 8 := by unfold szN; rw [if_neg h1, if_neg h2, if_neg h3]
        have eb : bdN a = 1073741824 := by unfold bdN; rw [if_neg h1, if_neg h2, if_neg h3]
        rw [e] at hm hlen hhd ⊢
        rw [eb]
        obtain ⟨x, y, z, u, v, p, q, t, hxy⟩ := list_eight hlen
        rw [hxy] at hhd hm ⊢
        obtain rfl : x = a := (List.cons.inj hhd).1
        exact form8 x y z u v p q t (by omega) (hm y (by simp)) (hm z (by simp)) (hm u (by simp)) (hm v (by simp)) (hm p (by simp)) (hm q (by simp)) (hm t (by simp))
theorem Byt.take {l : List Int} (h : Byt l) (n : Nat) : Byt (l.take n) := fun x hx => h x (List.mem_of_mem_take hx)
theorem Byt.drop {l : List Int} (h : Byt l) (n : Nat) : Byt (l.drop n) := fun x hx => h x (List.mem_of_mem_drop hx)
theorem Byt.getD {l : List Int} (h : Byt l) (n : Nat) : 0 ≤ l.getD n 0 ∧ l.getD n 0 < 256 := by
  rw [List.getD_eq_getElem?_getD]
  cases hx : l[n]? with
  | none => simp
  | some x => exact h x (List.mem_of_getElem? hx)
theorem str_take {l : List Int} (h : Byt l) (n : Nat) : (strOfNums l).extract 0 n = strOfNums (l.take n) := by
  rw [← str_ints ((strOfNums l).extract 0 n), ints_extract, ints_str l h, List.drop_zero]
theorem str_drop {l : List Int} (h : Byt l) (n : Nat) : (strOfNums l).extract n (strOfNums l).size = strOfNums (l.drop n) := by
  rw [← str_ints ((strOfNums l).extract n _), ints_extract, ints_str l h, strOfNums_size, List.take_length]
theorem mop_take {P : Program} {t : TypeId} {k : IntKind} {w : World} {K : Value → World → Prop} {X : List PanicEntry → World → Prop} {l : List Int} {n : Int} (ht : P.underlying t = some .string) (hl : Byt l) (h : 0 ≤ n ∧ n ≤ l.length) (hk : K (.string (strOfNums (l.take n.toNat))) w) : mop P (o_slice t (.string (strOfNums l)) none (some (.int k n)) none) w K X :=
  mop_pur (p_slice_string_h t _ k n ht h.1 (by rw [strOfNums_size]; exact h.2)) (by rw [str_take hl]; exact hk)
theorem mop_drop {P : Program} {t : TypeId} {k : IntKind} {w : World} {K : Value → World → Prop} {X : List PanicEntry → World → Prop} {l : List Int} {n : Int} (ht : P.underlying t = some .string) (hl : Byt l) (h : 0 ≤ n ∧ n ≤ l.length) (hk : K (.string (strOfNums (l.drop n.toNat))) w) : mop P (o_slice t (.string (strOfNums l)) (some (.int k n)) none none) w K X :=
  mop_pur (p_slice_string_l t _ k n ht h.1 (by rw [strOfNums_size]; exact h.2)) (by rw [str_drop hl]; exact hk)
theorem mop_six {P : Program} {t : TypeId} {k : IntKind} {w : World} {K : Value → World → Prop} {X : List PanicEntry → World → Prop} {l : List Int} {n : Int} (ht : P.underlying t = some .string) (hl : Byt l) (h : 0 ≤ n ∧ n < l.length) (hk : K (.int .u8 (l.getD n.toNat 0)) w) : mop P (o_index t (.string (strOfNums l)) (.int k n)) w K X :=
  mop_pur (p_index_string t _ k n ht h.1 (by rw [strOfNums_size]; exact h.2)) (by rw [ints_str l hl]; exact hk)
theorem mop_sixv {P : Program} {t : TypeId} {k : IntKind} {w : World} {K : Value → World → Prop} {X : List PanicEntry → World → Prop} {l : List Int} {n v : Int} (ht : P.underlying t = some .string) (hl : Byt l) (h : 0 ≤ n ∧ n < l.length) (hv : l.getD n.toNat 0 = v) (hk : K (.int .u8 v) w) : mop P (o_index t (.string (strOfNums l)) (.int k n)) w K X :=
  mop_six ht hl h (by rw [hv]; exact hk)
theorem and63 (a : Int) (h : 0 ≤ a ∧ a < 256) : bits .and .u8 a 63 = a % 64 := by
  have key : ∀ m : Fin 256, bits .and .u8 (m.val : Int) 63 = (m.val : Int) % 64 := by decide +kernel
  have := key ⟨a.toNat, by omega⟩
  simp only [Int.toNat_of_nonneg h.1] at this
  exact this
theorem szN1 {a : Int} (h : a < 64) : szN a = 1 ∧ bdN a = 0 := ⟨if_pos h, if_pos h⟩
theorem szN2 {a : Int} (h : 64 ≤ a ∧ a < 128) : szN a = 2 ∧ bdN a = 64 := by
  unfold szN bdN
  rw [if_neg (by omega), if_pos (by omega), if_neg (by omega), if_pos (by omega)]
  exact ⟨rfl, rfl⟩
theorem szN4 {a : Int} (h : 128 ≤ a ∧ a < 192) : szN a = 4 ∧ bdN a = 16384 := by
  unfold szN bdN
  rw [if_neg (by omega), if_neg (by omega), if_pos (by omega), if_neg (by omega), if_neg (by omega), if_pos (by omega)]
  exact ⟨rfl, rfl⟩
theorem szN8 {a : Int} (h : 192 ≤ a) : szN a = 8 ∧ bdN a = 1073741824 := by
  unfold szN bdN
  rw [if_neg (by omega), if_neg (by omega), if_neg (by omega), if_neg (by omega), if_neg (by omega), if_neg (by omega)]
  exact ⟨rfl, rfl⟩
theorem szN_pos (a : Int) : 1 ≤ szN a ∧ szN a ≤ 8 := by
  unfold szN
  (repeat' split) <;> omega
theorem szN_kind (a : Int) (h : 0 ≤ a ∧ a < 256) : IntKind.i64.wrap (1 * 2 ^ (a / 64).toNat) = ((szN a : Nat) : Int) := by
  obtain h1 | h1 | h1 | h1 : a / 64 = 0 ∨ a / 64 = 1 ∨ a / 64 = 2 ∨ a / 64 = 3 := by omega
  all_goals rw [h1]; unfold szN
  · rw [if_pos (by omega)]; rfl
  · rw [if_neg (by omega), if_pos (by omega)]; rfl
  · rw [if_neg (by omega), if_neg (by omega), if_pos (by omega)]; rfl
  · rw [if_neg (by omega), if_neg (by omega), if_neg (by omega)]; rfl
/-- What is left to read, and the error. -/
abbrev RS := List Int × Int
def tk (n : Nat) (s : RS) : List Int × Bool × RS := if s.2 ≠ 0 then ([], false, s) else if s.1.length < n then ([], false, (s.1, 2)) else (s.1.take n, true, (s.1.drop n, 0))
theorem tk_byt {n : Nat} {s : RS} (h : Byt s.1) : Byt (tk n s).1 ∧ Byt (tk n s).2.2.1 := by
  unfold tk
  split
  · exact ⟨fun x hx => (by cases hx), h⟩
  · split
    · exact ⟨fun x hx => (by cases hx), h⟩
    · exact ⟨h.take n, h.drop n⟩
def nm (most : Int) (s : RS) : Int × RS :=
  if s.2 ≠ 0 then (0, s)
  else if s.1 = [] then (0, ([], 2))
  else if s.1.length < szN (s.1.headD 0) then (0, (s.1, 2))
  else if vl (s.1.take (szN (s.1.headD 0))) < bdN (s.1.headD 0) then (0, (s.1.drop (szN (s.1.headD 0)), 3))
  else if most < vl (s.1.take (szN (s.1.headD 0))) then (0, (s.1.drop (szN (s.1.headD 0)), 5))
  else (vl (s.1.take (szN (s.1.headD 0))), (s.1.drop (szN (s.1.headD 0)), 0))
abbrev rdR (g : Nat) (s : RS) : Res := fb g 140 [.one (.string (strOfNums s.1)), .one (.int .i64 s.2)]
abbrev rrR (g : Nat) (s : RS) : Res := fb g 97 [.one (.string (strOfNums s.1)), .one (.int .i64 s.2)]
theorem mm_cpa {P : Program} {H : Hp} {w0 w : World} {L : List Res} {g t n c : Nat} {l0 b : List Int} {dT sT ty e : TypeId} {ks : List Bool} {K : Value → World → Prop} {X : List PanicEntry → World → Prop} (hd : P.underlying dT = some (.slice e)) (he : (P.info? e).map (·.size) = some 1) (h : Mem H w0 (fb g t [.arr n (u8s l0)] :: L) w) (hb : Byt b) (hn : l0.length = n) (hl : b.length ≤ n)
    (hk : ∀ w', Mem H w0 (fb g t [.arr n (u8s (b ++ l0.drop b.length))] :: L) w' → K (.int .i64 b.length) w') : mop P (o_builtin .copy #[dT, sT] ty ks [.slice (some ⟨g, 0, none⟩) n c, .string (strOfNums b)]) w K X := by
  obtain ⟨h1, h2⟩ := h.blf (g := g) (t := t) (fs := [.arr n (u8s l0)]) (put := fun r => r :: L) inferInstance
  have e1 : fl [Fd.arr n (u8s l0)] = u8s l0 := by simp [fl, Fd.cells]
  have e2 : fl [Fd.arr n (u8s (b ++ l0.drop b.length))] = u8s (b ++ l0.drop b.length) := by simp [fl, Fd.cells]
  rw [e1] at h1
  have hlay : lay (u8s l0) (u8s b) 0 = u8s (b ++ l0.drop b.length) := by simp [lay, u8s]
  have hst := run_storeCells_blf (P := P) 0 (u8s b) 0 (u8s l0) w h1 (by simp [u8s]; omega) (u8s_one _)
  have hf : FOk [Fd.arr n (u8s (b ++ l0.drop b.length))] := ⟨fun f hf => by
    rw [List.mem_singleton.1 hf]
    exact ⟨by show (u8s (b ++ l0.drop b.length)).length = n; simp [u8s]; omega, fun u hu => u8s_one _ u hu⟩⟩
  have hm := h.setRow (fs' := [.arr n (u8s (b ++ l0.drop b.length))]) (g := g) (t := t) (put := fun r => r :: L) inferInstance hf (by rw [e1, e2]; simp [u8s]; omega)
  rw [e2] at hm
  rw [Nat.add_zero, hlay] at hst
  refine mop_run (w' := _) (u := .int .i64 b.length) ?_ (hk _ hm)
  have hsz : (strOfNums b).size = b.length := strOfNums_size b
  have hmin : Nat.min (strOfNums b).size n = b.length := by rw [hsz]; exact Nat.min_eq_left hl
  have hx : List.take b.length (List.map (fun b : UInt8 => Value.int IntKind.u8 b.toNat) (strOfNums b).data.toList) = u8s b := by
    have := ints_str b hb
    unfold ints at this
    have e3 : List.map (fun b : UInt8 => Value.int IntKind.u8 b.toNat) (strOfNums b).data.toList = u8s b := by
      conv => rhs; rw [← this]
      simp only [u8s, List.map_map]
      rfl
    rw [e3, List.take_of_length_le (by simp [u8s])]
  simp [o_builtin, invoke, builtin, Builtin.copy_, run_underlying hd, Builtin.lenOf, run_size he, Builtin.firstCells, goInt, hmin]
  rw [hx, hst]
  rfl
/-- A digest, if these are its bytes. -/
def hs (l : List Int) : H32 := if h : l.length = 32 ∧ Byt l then ⟨l, h.1, h.2⟩ else hzero
def rdH (s : RS) : H32 × RS := (hs (tk 32 s).1, (tk 32 s).2.2)
theorem tk_len (n : Nat) (s : RS) : (tk n s).1 = [] ∨ (tk n s).1.length = n := by
  unfold tk
  split
  · exact .inl rfl
  · split
    · exact .inl rfl
    · right
      simp
      omega
theorem tk_hs {s : RS} (h : Byt s.1) : (tk 32 s).1 ++ hzero.1.drop (tk 32 s).1.length = (hs (tk 32 s).1).1 := by
  rcases tk_len 32 s with e | e
  · rw [e]
    unfold hs
    rw [dif_neg (by simp)]
    rfl
  · unfold hs
    rw [dif_pos ⟨e, (tk_byt h).1⟩]
    show _ = (tk 32 s).1
    rw [List.drop_eq_nil_of_le (by rw [e, hzero.2.1]; exact Nat.le_refl _), List.append_nil]
theorem str_nil : strOfNums [] = ByteArray.mk #[] := rfl
section
variable {H : Hp} {w0 w : World} {L R : List Res} {g : Nat} {s : RS}
theorem rtake_ok (n : Nat) (hn : n ≤ 65536) (hl : Byt s.1) (hz : s.1.length ≤ 1000000000000) (hM : Mem H w0 (rdR g s :: L) w) : Calls Try.prog 110 #[.pointer (some ⟨g, 0, none⟩), .int .i64 n] w fun en w' => ∃ v, en = .returned v ∧ v = .tuple #[.string (strOfNums (tk n s).1), .bool (tk n s).2.1] ∧ Mem H w0 (rdR g (tk n s).2.2 :: L) w' := by
  refine C_wire_Reader_take ?_
  unfold F_wire_Reader_take
  refine ⟨fun x w' => ∃ b : Bool, x = .bool b ∧ (b = true ↔ s.2 ≠ 0) ∧ hM.now w', ?_, ?_⟩
  · ((with_reducible (refine mop_c trivial ?_; refine mguard_yes ?_; refine mop_c trivial ?_; refine mguard_yes ?_; refine mop_c trivial ?_; refine mguard_yes ?_; refine mop_c trivial ?_; refine mguard_yes ?_; refine mm_ld hM ?_; refine mguard_yes ?_)))
    ((with_reducible (refine mop_cS trivial ?_ ?_)))
    · intro h
      ((with_reducible (refine mop_c trivial ?_)))
      exact ⟨_, rfl, by simp [h], hM⟩
    · intro h
      ((with_reducible (refine mop_c trivial ?_)))
      exact ⟨_, rfl, by simp at h; simp [h], hM⟩
  rintro x u w2 ⟨b, rfl, hb, hM⟩
  cases b with
  | true =>
    ((with_reducible (refine mif_true ?_)))
    have h := hb.1 rfl
    refine ⟨_, rfl, ?_, ?_⟩ <;> (unfold tk; rw [if_pos h])
    · rfl
    · exact hM
  | false =>
    have h0 : ¬ s.2 ≠ 0 := fun h => by have := hb.2 h; cases this
    have h00 : s.2 = 0 := by omega
    ((with_reducible (refine mif_false ?_; refine mop_c trivial ?_; refine mop_c trivial ?_; refine mm_ld hM ?_; refine mop_c trivial ?_)))
    rw [strOfNums_size]
    ((with_reducible (refine mop_cS trivial ?_ ?_)))
    · intro h1
      have h1' : s.1.length < n := by omega
      ((with_reducible (refine mif_true ?_; refine mop_c trivial ?_; refine mop_c trivial ?_; refine mm_st hM ?_; clear hM; intro _ hM)))
      refine ⟨_, rfl, ?_, ?_⟩ <;> (unfold tk; rw [if_neg h0, if_pos h1'])
      · rfl
      · exact hM
    · intro h1
      have h1' : ¬ s.1.length < n := by omega
      ((with_reducible (refine mif_false ?_; refine mop_c trivial ?_; refine mop_c trivial ?_; refine mm_ld hM ?_)))
      refine mop_take (by kernel_rfl) hl (by omega) ?_
      ((with_reducible (refine mop_c trivial ?_; refine mop_c trivial ?_; refine mm_ld hM ?_)))
      refine mop_drop (by kernel_rfl) hl (by omega) ?_
      ((with_reducible (refine mop_c trivial ?_; refine mop_c trivial ?_; refine mm_st hM ?_; clear hM; intro _ hM)))
      refine ⟨_, rfl, ?_, ?_⟩ <;> (unfold tk; rw [if_neg h0, if_neg h1'])
      · rfl
      · rw [h00] at hM
        exact hM
theorem rrRaw_ok (n : Nat) (hn : n ≤ 65536) (hl : Byt s.1) (hz : s.1.length ≤ 1000000000000) (hM : Mem H w0 (rrR g s :: L) w) : Calls Try.prog 145 #[.pointer (some ⟨g, 0, none⟩), .int .i64 n] w fun en w' => ∃ v, en = .returned v ∧ v = .string (strOfNums (tk n s).1) ∧ Mem H w0 (rrR g (tk n s).2.2 :: L) w' := by
  refine C_bevyref01_Reader_Raw ?_
  unfold F_bevyref01_Reader_Raw
  ((with_reducible (refine mop_c trivial ?_; refine mop_c trivial ?_; refine mm_ld hM ?_)))
  ((with_reducible (refine mop_cS trivial ?_ ?_)))
  · intro h
    ((with_reducible (refine mif_true ?_)))
    refine ⟨_, rfl, ?_, ?_⟩ <;> (unfold tk; rw [if_pos h])
    · rfl
    · exact hM
  · intro h0
    have h00 : s.2 = 0 := by omega
    ((with_reducible (refine mif_false ?_; refine mop_c trivial ?_; refine mop_c trivial ?_; refine mm_ld hM ?_; refine mop_c trivial ?_)))
    rw [strOfNums_size]
    ((with_reducible (refine mop_cS trivial ?_ ?_)))
    · intro h1
      have h1' : s.1.length < n := by omega
      ((with_reducible (refine mif_true ?_; refine mop_c trivial ?_; refine mop_c trivial ?_; refine mm_st hM ?_; clear hM; intro _ hM)))
      refine ⟨_, rfl, ?_, ?_⟩ <;> (unfold tk; rw [if_neg h0, if_pos h1'])
      · rfl
      · exact hM
    · intro h1
      have h1' : ¬ s.1.length < n := by omega
      ((with_reducible (refine mif_false ?_; refine mop_c trivial ?_; refine mop_c trivial ?_; refine mm_ld hM ?_)))
      refine mop_take (by kernel_rfl) hl (by omega) ?_
      ((with_reducible (refine mop_c trivial ?_; refine mop_c trivial ?_; refine mm_ld hM ?_)))
      refine mop_drop (by kernel_rfl) hl (by omega) ?_
      ((with_reducible (refine mop_c trivial ?_; refine mop_c trivial ?_; refine mm_st hM ?_; clear hM; intro _ hM)))
      refine ⟨_, rfl, ?_, ?_⟩ <;> (unfold tk; rw [if_neg h0, if_neg h1'])
      · rfl
      · rw [h00] at hM
        exact hM
theorem rhashr_ok (hl : Byt s.1) (hz : s.1.length ≤ 1000000000000) (hM : Mem H w0 (rdR g s :: L) w) : Calls Try.prog 63 #[.pointer (some ⟨g, 0, none⟩)] w fun en w' => ∃ v, en = .returned v ∧ v = ha (rdH s).1 ∧ Mem H w0 (rdR g (rdH s).2 :: L) w' := by
  refine C_wire_Reader_Hash ?_
  unfold F_wire_Reader_Hash
  ((with_reducible (refine mm_new hM ?_; clear hM; intro _ _ hM; refine mm_new hM ?_; clear hM; intro _ _ hM)))
  rename_i g2 _ g3 _
  refine mm_own (rtake_ok 32 (by omega) hl hz (hM.at_ (rdR g s))) ?_
  rintro v w2 ⟨rfl, hM⟩
  ((with_reducible ((iterate 3 refine mop_c trivial ?_))))
  have hM := hM.at_ (fb g3 23 [.arr 32 (u8s hzero.1)])
  refine mm_cpa (e := 5) (by kernel_rfl) (by kernel_rfl) hM (tk_byt hl).1 hzero.2.1 (by rcases tk_len 32 s with e | e <;> rw [e] <;> simp) (fun w3 hM => ?_)
  rw [tk_hs hl] at hM
  ((with_reducible (refine mm_ld hM ?_; refine mm_st hM ?_; clear hM; intro _ hM; refine rm_ld hM ?_)))
  refine ⟨_, rfl, rfl, ?_⟩
  show Mem H w0 (rdR g (tk 32 s).2.2 :: L) _
  exact hM.sub
theorem nm_cons (most a : Int) (r : List Int) : nm most (a :: r, 0) = if (a :: r).length < szN a then (0, (a :: r, 2)) else if vl ((a :: r).take (szN a)) < bdN a then (0, ((a :: r).drop (szN a), 3)) else if most < vl ((a :: r).take (szN a)) then (0, ((a :: r).drop (szN a), 5)) else (vl ((a :: r).take (szN a)), ((a :: r).drop (szN a), 0)) := by
  unfold nm
  rw [if_neg (by simp), if_neg (by simp)]
  rfl
theorem rnumr_ok (most : Int) (hm : 0 ≤ most ∧ most ≤ 4611686018427387903) (hl : Byt s.1) (hz : s.1.length ≤ 1000000000000) (hM : Mem H w0 (rdR g s :: L) w) : Calls Try.prog 64 #[.pointer (some ⟨g, 0, none⟩), .int .i64 most] w fun en w' => ∃ v, en = .returned v ∧ v = .int .i64 (nm most s).1 ∧ Mem H w0 (rdR g (nm most s).2 :: L) w' := by
  refine C_wire_Reader_Num ?_
  unfold F_wire_Reader_Num
  obtain ⟨l, e⟩ := s
  simp only at hl hz
  refine ⟨fun x w' => ∃ b : Bool, x = .bool b ∧ (b = true ↔ e ≠ 0) ∧ hM.now w', ?_, ?_⟩
  · ((with_reducible (refine mop_c trivial ?_; refine mguard_yes ?_; refine mop_c trivial ?_; refine mguard_yes ?_; refine mop_c trivial ?_; refine mguard_yes ?_; refine mop_c trivial ?_; refine mguard_yes ?_; refine mm_ld hM ?_; refine mguard_yes ?_)))
    ((with_reducible (refine mop_cS trivial ?_ ?_)))
    · intro h
      ((with_reducible (refine mop_c trivial ?_)))
      exact ⟨_, rfl, by simpa using h, hM⟩
    · intro h
      ((with_reducible (refine mop_c trivial ?_)))
      exact ⟨_, rfl, by simpa using h, hM⟩
  rintro x u w2 ⟨b, rfl, hb, hM⟩
  cases b with
  | true =>
    ((with_reducible (refine mif_true ?_)))
    have h := hb.1 rfl
    refine ⟨_, rfl, ?_, ?_⟩ <;> (unfold nm; rw [if_pos h])
    exact hM
  | false =>
    have h0 : ¬ e ≠ 0 := fun h => by have := hb.2 h; cases this
    obtain rfl : e = 0 := by omega
    ((with_reducible (refine mif_false ?_; refine mop_c trivial ?_; refine mop_c trivial ?_; refine mm_ld hM ?_)))
    cases l with
    | nil =>
      refine mop_cT trivial rfl ?_
      ((with_reducible (refine mif_true ?_; refine mop_c trivial ?_; refine mop_c trivial ?_; refine mm_st hM ?_; clear hM; intro _ hM)))
      exact ⟨_, rfl, rfl, hM⟩
    | cons a r =>
      refine mop_cF trivial (fun h => by have := congrArg ints h; rw [ints_str _ hl] at this; cases this) ?_
      have ha := hl a (by simp)
      ((with_reducible (refine mif_false ?_; refine mop_c trivial ?_; refine mop_c trivial ?_; refine mm_ld hM ?_)))
      refine mop_sixv (v := a) (by kernel_rfl) hl (by simp) rfl ?_
      ((with_reducible (refine mop_c ?_ ?_)); (focus omega))
      rw [show a / 2 ^ Int.toNat 6 = a / 64 from rfl]
      ((with_reducible (refine mop_c ?_ ?_)); (focus omega))
      refine mop_pur (p_shl _ _ _ _ _ _ (by omega) (by show a / 64 < (64 : Nat); omega)) ?_
      rw [szN_kind a ha]
      skip
      have hsp := szN_pos a
      refine mm_own (rtake_ok (szN a) (by omega) hl hz hM) ?_
      rintro v w3 ⟨rfl, hM⟩
      by_cases h3 : (a :: r).length < szN a
      · have e : tk (szN a) (a :: r, 0) = ([], false, (a :: r, 2)) := by unfold tk; rw [if_neg (by simp), if_pos h3]
        rw [e] at hM ⊢
        ((with_reducible ((iterate 3 refine mop_c trivial ?_); refine mif_true ?_)))
        rw [nm_cons, if_pos h3]
        exact ⟨_, rfl, rfl, hM⟩
      · have e : tk (szN a) (a :: r, 0) = ((a :: r).take (szN a), true, ((a :: r).drop (szN a), 0)) := by unfold tk; rw [if_neg (by simp), if_neg h3]
        rw [e] at hM ⊢
        dsimp only at hM ⊢
        rw [nm_cons, if_neg h3]
        have hbl : ((a :: r).take (szN a)).length = szN a := by rw [List.length_take]; omega
        have hbb : Byt ((a :: r).take (szN a)) := hl.take _
        ((with_reducible ((iterate 3 refine mop_c trivial ?_); refine mif_false ?_)))
        refine mop_sixv (v := a) (by kernel_rfl) hbb (by omega) (by
          obtain ⟨k, hk⟩ : ∃ k, szN a = k + 1 := ⟨szN a - 1, by omega⟩
          rw [hk]
          rfl) ?_
        ((with_reducible (refine mop_c trivial ?_)))
        rw [and63 a ha]
        ((with_reducible (refine mop_c ?_ ?_)); (focus omega))
        generalize hB : (a :: r).take (szN a) = B at hbl hbb hM ⊢
        have hB1 : vl (B.take 1) = a % 64 := by
          subst hB
          obtain ⟨k, hk⟩ : ∃ k, szN a = k + 1 := ⟨szN a - 1, by omega⟩
          rw [hk]
          rfl
        refine ⟨fun x y w' => ∃ i : Nat, x = .int .i64 (vl (B.take i)) ∧ y = .int .i64 i ∧ 1 ≤ i ∧ i ≤ szN a ∧ Mem H w0 (rdR g ((a :: r).drop (szN a), 0) :: L) w', fun _ y _ => match y with | .int _ i => szN a - i.toNat | _ => 0, ⟨1, by rw [hB1], rfl, by omega, by omega, hM⟩, ?_⟩
        clear hM
        rintro x y u w4 ⟨i, rfl, rfl, hi1, hi2, hM⟩
        have hbd := vl_bd B hbb (i - 1) (by omega)
        rw [show i - 1 + 1 = i by omega] at hbd
        ((with_reducible (refine mop_c trivial ?_)))
        rw [strOfNums_size]
        ((with_reducible (refine mop_cS trivial ?_ ?_)))
        · intro hlt
          have hp : (256 : Int) ^ (i - 1) ≤ 256 ^ 6 := by
            obtain h | h | h | h | h | h | h : i - 1 = 0 ∨ i - 1 = 1 ∨ i - 1 = 2 ∨ i - 1 = 3 ∨ i - 1 = 4 ∨ i - 1 = 5 ∨ i - 1 = 6 := by omega
            all_goals rw [h]; decide
          have hp6 : (256 : Int) ^ 6 = 281474976710656 := by decide
          have hv : 0 ≤ vl (B.take i) ∧ vl (B.take i) < 18014398509481984 := by omega
          have hx := hbb.getD i
          ((with_reducible (refine mif_true ?_)))
          refine mop_pur (p_shl _ _ _ _ _ _ (by omega) (by simp [IntKind.bits])) ?_
          have hw : IntKind.i64.wrap (vl (B.take i) * 2 ^ (8 : Int).toNat) = vl (B.take i) * 256 := by
            show IntKind.i64.wrap (vl (B.take i) * 256) = _
            simp only [IntKind.wrap, IntKind.bits, IntKind.signed]
            simp
            omega
          rw [hw]
          skip
          refine mop_sixv (v := B.getD i 0) (by kernel_rfl) hbb (by omega) (by rw [Int.toNat_natCast]) ?_
          ((with_reducible (refine mop_c ?_ ?_)); (focus omega); (with_reducible (refine mop_c trivial ?_; refine mop_c ?_ ?_)); (focus omega))
          rw [or_i64 _ _ hv hx]
          skip
          exact ⟨⟨i + 1, by rw [vl_succ B i hi1 (by omega)], rfl, by omega, by omega, hM⟩, by dsimp only; omega⟩
        · intro hge
          obtain rfl : i = szN a := by omega
          have hT : B.take (szN a) = B := List.take_of_length_le (by omega)
          rw [hT]
          have hvB : 0 ≤ vl B := by
            have := hbd.1
            rwa [hT] at this
          ((with_reducible (refine mif_false ?_)))
          refine ⟨fun w' => (vl B < bdN a ∨ most < vl B) ∧ Mem H w0 (rdR g ((a :: r).drop (szN a), if vl B < bdN a then 3 else 5) :: L) w', ?_, ?_⟩
          · refine ⟨fun x w' => x = .bool (decide (vl B < bdN a)) ∧ hM.now w', ?_, ?_⟩
            · obtain h | h | h | h : a / 64 = 0 ∨ a / 64 = 1 ∨ a / 64 = 2 ∨ a / 64 = 3 := by omega
              · rw [h, (szN1 (by omega)).2]
                ((with_reducible (refine mop_cF trivial ?_ ?_)); (focus (first | assumption | omega | with_reducible rfl | exact fun h => Bool.noConfusion h)); (with_reducible ((iterate 6 refine mguard_n2 ?_); refine mop_c trivial ?_)))
                exact ⟨by rw [decide_eq_false (by omega)], hM⟩
              · rw [h, (szN2 (by omega)).2]
                ((with_reducible (refine mop_cT trivial ?_ ?_)); (focus (first | assumption | omega | with_reducible rfl | exact fun h => Bool.noConfusion h)); (with_reducible (refine mguard_yes ?_; refine mop_c trivial ?_; refine mguard_yes ?_; refine mm_purC hM ?_ (fun _ hM2 => ?_))); (focus (first | exact trivial | assumption | omega)); (with_reducible (replace hM := hM2; clear hM2; refine mguard_yes ?_; refine mop_c trivial ?_; refine mguard_yes ?_; refine mop_c ?_ ?_)); (focus omega); (with_reducible (refine mguard_yes ?_)))
                refine mop_pur (v := .int .i64 64) (fun w => by kernel_rfl) ?_
                by_cases h4 : vl B < 64
                · ((with_reducible (refine mguard_yes ?_; refine mop_cT trivial ?_ ?_)); (focus (first | assumption | omega | with_reducible rfl | exact fun h => Bool.noConfusion h)); (with_reducible (refine mop_c trivial ?_)))
                  exact ⟨by rw [decide_eq_true h4], hM⟩
                · ((with_reducible (refine mguard_yes ?_; refine mop_cF trivial ?_ ?_)); (focus (first | assumption | omega | with_reducible rfl | exact fun h => Bool.noConfusion h)); (with_reducible (refine mop_c trivial ?_)))
                  exact ⟨by rw [decide_eq_false h4], hM⟩
              · rw [h, (szN4 (by omega)).2]
                ((with_reducible (refine mop_cT trivial ?_ ?_)); (focus (first | assumption | omega | with_reducible rfl | exact fun h => Bool.noConfusion h)); (with_reducible (refine mguard_yes ?_; refine mop_c trivial ?_; refine mguard_yes ?_; refine mm_purC hM ?_ (fun _ hM2 => ?_))); (focus (first | exact trivial | assumption | omega)); (with_reducible (replace hM := hM2; clear hM2; refine mguard_yes ?_; refine mop_c trivial ?_; refine mguard_yes ?_; refine mop_c ?_ ?_)); (focus omega); (with_reducible (refine mguard_yes ?_)))
                refine mop_pur (v := .int .i64 16384) (fun w => by kernel_rfl) ?_
                by_cases h4 : vl B < 16384
                · ((with_reducible (refine mguard_yes ?_; refine mop_cT trivial ?_ ?_)); (focus (first | assumption | omega | with_reducible rfl | exact fun h => Bool.noConfusion h)); (with_reducible (refine mop_c trivial ?_)))
                  exact ⟨by rw [decide_eq_true h4], hM⟩
                · ((with_reducible (refine mguard_yes ?_; refine mop_cF trivial ?_ ?_)); (focus (first | assumption | omega | with_reducible rfl | exact fun h => Bool.noConfusion h)); (with_reducible (refine mop_c trivial ?_)))
                  exact ⟨by rw [decide_eq_false h4], hM⟩
              · rw [h, (szN8 (by omega)).2]
                ((with_reducible (refine mop_cT trivial ?_ ?_)); (focus (first | assumption | omega | with_reducible rfl | exact fun h => Bool.noConfusion h)); (with_reducible (refine mguard_yes ?_; refine mop_c trivial ?_; refine mguard_yes ?_; refine mm_purC hM ?_ (fun _ hM2 => ?_))); (focus (first | exact trivial | assumption | omega)); (with_reducible (replace hM := hM2; clear hM2; refine mguard_yes ?_; refine mop_c trivial ?_; refine mguard_yes ?_; refine mop_c ?_ ?_)); (focus omega); (with_reducible (refine mguard_yes ?_)))
                refine mop_pur (v := .int .i64 1073741824) (fun w => by kernel_rfl) ?_
                by_cases h4 : vl B < 1073741824
                · ((with_reducible (refine mguard_yes ?_; refine mop_cT trivial ?_ ?_)); (focus (first | assumption | omega | with_reducible rfl | exact fun h => Bool.noConfusion h)); (with_reducible (refine mop_c trivial ?_)))
                  exact ⟨by rw [decide_eq_true h4], hM⟩
                · ((with_reducible (refine mguard_yes ?_; refine mop_cF trivial ?_ ?_)); (focus (first | assumption | omega | with_reducible rfl | exact fun h => Bool.noConfusion h)); (with_reducible (refine mop_c trivial ?_)))
                  exact ⟨by rw [decide_eq_false h4], hM⟩
            · rintro x u w5 ⟨rfl, hM⟩
              by_cases h4 : vl B < bdN a
              · rw [decide_eq_true h4]
                ((with_reducible (refine mif_true ?_; refine mop_c trivial ?_; refine mop_c trivial ?_; refine mm_st hM ?_; clear hM; intro _ hM)))
                exact ⟨.inl h4, by rw [if_pos h4]; exact hM⟩
              · rw [decide_eq_false h4]
                ((with_reducible (refine mif_false ?_)))
                ((with_reducible (refine mop_cS trivial ?_ ?_)))
                · intro h5
                  ((with_reducible (refine mif_true ?_; refine mop_c trivial ?_; refine mop_c trivial ?_; refine mm_st hM ?_; clear hM; intro _ hM)))
                  exact ⟨.inr h5, by rw [if_neg h4]; exact hM⟩
                · intro h5
                  ((with_reducible (refine mif_false ?_)))
                  first
                    | (rw [if_neg h4, if_neg (by omega)]; exact ⟨_, rfl, rfl, hM⟩)
                    | exact ⟨_, rfl, by rw [if_neg h4, if_neg (by omega)], by rw [if_neg h4, if_neg (by omega)]; exact hM⟩
          · rintro u w5 ⟨h4, hM⟩
            by_cases h5 : vl B < bdN a
            · rw [if_pos h5] at hM ⊢
              exact ⟨_, rfl, rfl, hM⟩
            · rw [if_neg h5] at hM ⊢
              rw [if_pos (h4.resolve_left h5)]
              exact ⟨_, rfl, rfl, hM⟩
end
end Go.Proofs.Ytmjpbomonhjebaa
