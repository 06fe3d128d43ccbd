/- ClimbKeeps holds for every input. (The end of the proof.) -/
import Derived.Test.YtpjodlnlmaaihaaGreatPk5
import Derived.Laws.Cover3
import Derived.Test.YtpjodlnlmaaihaaGreatRows
import Derived.Carry
set_option linter.unusedVariables false
namespace Go.Proofs.YtpjodlnlmaaihaaGreat
open Go.RowKit Go.Lib
def idxI {α : Type} (f : α → Bool) (l : List α) : Int := match l.findIdx? f with
  | some i => i
  | none => -1
theorem idxI_at {α : Type} {f : α → Bool} {l : List α} {i : Nat} (hi : i < l.length) (h : ∀ j (hj : j < i), f (l[j]'(by omega)) = false) (hf : f l[i] = true) : idxI f l = i := by
  unfold idxI
  have : l.findIdx? f = some i := List.findIdx?_eq_some_iff_getElem.2 ⟨hi, hf, fun j hj => by simp [h j hj]⟩
  rw [this]
theorem idxI_none {α : Type} {f : α → Bool} {l : List α} (h : ∀ j (hj : j < l.length), f l[j] = false) : idxI f l = -1 := by
  unfold idxI
  have : l.findIdx? f = none := by
    rw [List.findIdx?_eq_none_iff]
    intro x hx
    obtain ⟨j, hj, rfl⟩ := List.mem_iff_getElem.1 hx
    exact h j hj
  rw [this]
theorem idxI_cases {α : Type} (f : α → Bool) (l : List α) : (idxI f l = -1 ∧ ∀ x ∈ l, f x = false) ∨ ∃ i : Nat, ∃ hi : i < l.length, idxI f l = i ∧ f l[i] = true ∧ ∀ j (hj : j < i), f (l[j]'(by omega)) = false := by
  unfold idxI
  cases h : l.findIdx? f with
  | none => exact .inl ⟨rfl, by simpa [List.findIdx?_eq_none_iff] using h⟩
  | some i =>
    obtain ⟨h1, h2, h3⟩ := List.findIdx?_eq_some_iff_getElem.1 h
    exact .inr ⟨i, h1, rfl, h2, fun j hj => by simpa using h3 j hj⟩
abbrev ivv (y : Int) : Value := .int .i64 y
theorem ints8_take (l : List Int) (i : Nat) : (ints8 l).take i = ints8 (l.take i) := by simp [ints8]
theorem ints8_set (l : List Int) (i : Nat) (x : Int) : (ints8 l).set i [.one (.int .i64 x)] = ints8 (l.set i x) := (List.map_set (f := fun x => [Fd.one (.int .i64 x)])).symm
theorem stk_succ {α : Type} (l : List α) (i : Nat) (x : α) (h : i < l.length) : (l.set i x).take (i + 1) = l.take i ++ [x] := by
  rw [List.take_succ_eq_append_getElem (by simpa using h), List.getElem_set_self, List.take_set_of_le (Nat.le_refl i)]
section
variable {H : Hp} {w0 w : World} {L R : List Res} {A B K F : Option Addr} {a c n m kc fc : Nat} {t : Tr} {v : Value}
theorem num_ok (l : List Int) (hl : l.length ≤ 100) (hr : ∀ x ∈ l, 0 ≤ x ∧ x ≤ 4611686018427387903) (hs : Sl H 1 K (ints8 l)) (hf : Fz H w) : Calls Tryz.prog 49 #[.slice K l.length kc] w fun en w' => en = .returned (.string (strOfNums (l.flatMap numB))) ∧ St w [] w' := by
  have hM := Mem.start hf
  refine C_climb_num ?_
  unfold F_climb_num
  refine mm_own (wnew_ok hM) ?_
  clear hM
  rintro v w2 ⟨g, rfl, hM⟩
  ((with_reducible (refine mop_c trivial ?_)))
  refine ⟨fun v w' => ∃ i : Nat, v = .int .i64 i ∧ i ≤ l.length ∧ ((l.take i).flatMap numB).length ≤ 8 * i ∧ Mem H w [wrR g ((l.take i).flatMap numB) false] w', fun v _ => match v with | .int _ k => l.length - k.toNat | _ => 0, ⟨0, rfl, by omega, by simp, hM⟩, ?_⟩
  clear hM
  rintro v u w3 ⟨i, rfl, hi, hb, hM⟩
  skip
  ((with_reducible (refine mop_cS trivial ?_ ?_)))
  · intro hlt
    have hit : i < l.length := by omega
    have hx := hr _ (List.getElem_mem hit)
    have hnl := numB_length l[i]
    ((with_reducible (refine mif_true ?_)); (with_reducible refine mm_ixs ‹_› ?_ ?_ ?_); (focus (simp only [List.length_map]; omega)); (focus (simp only [List.length_map]; first | done | omega)); (with_reducible (intro _ _ hA)); (cases hA); (with_reducible refine mm_lds0 hM ‹_› (map_atI ?_) ?_); (focus omega))
    refine mm_own (wnum_ok l[i] hx (by omega) hM) ?_
    clear hM
    rintro v w4 ⟨rfl, hM⟩
    ((with_reducible (refine mop_c ?_ ?_)); (focus omega))
    have e : (l.take i).flatMap numB ++ numB l[i] = (l.take (i + 1)).flatMap numB := by
      rw [List.take_succ_eq_append_getElem hit, List.flatMap_append]
      simp
    have hb2 : ((l.take (i + 1)).flatMap numB).length ≤ 8 * (i + 1) := by
      rw [← e, List.length_append]
      omega
    rw [e] at hM
    exact ⟨⟨i + 1, by rw [Value.int.injEq]; refine ⟨rfl, ?_⟩; push_cast; rfl, by omega, hb2, hM⟩, by simp only; omega⟩
  · intro hge
    obtain rfl : i = l.length := by omega
    rw [List.take_length] at hM
    ((with_reducible (refine mif_false ?_)))
    refine mm_pure hM (wend_ok hM) (fun w5 hM => ?_)
    ((with_reducible (refine mop_c trivial ?_; refine mop_c trivial ?_)))
    exact ⟨rfl, hM.st⟩
theorem iindex_ok (l : List Int) (x : Int) (hl : l.length ≤ maxLen) (hs : Sl H 1 K (ints8 l)) (hf : Fz H w) : Calls Tryz.prog 54 #[.slice K l.length kc, .int .i64 x] w fun en w' => en = .returned (.int .i64 (idxI (fun y => decide (x = y)) l)) ∧ St w [] w' := by
  have hM := Mem.start hf
  have hl' : l.length ≤ 9223372036854775807 := hl
  refine C_slices_Index_int_int ?_
  unfold F_slices_Index_int_int
  ((with_reducible (refine mop_c trivial ?_)))
  refine ⟨fun v w' => ∃ i : Nat, v = .int .i64 i ∧ i ≤ l.length ∧ (∀ j (hj : j < l.length), j < i → decide (x = l[j]) = false) ∧ hM.now w', fun v _ => match v with | .int _ k => l.length - k.toNat | _ => 0, ⟨0, rfl, by omega, by intro j hj h; omega, hM⟩, ?_⟩
  rintro v u w3 ⟨i, rfl, hi, hlow, hM⟩
  skip
  ((with_reducible (refine mop_cS trivial ?_ ?_)))
  · intro hlt
    have hit : i < l.length := by omega
    ((with_reducible (refine mif_true ?_)); (with_reducible refine mm_ixs ‹_› ?_ ?_ ?_); (focus (simp only [List.length_map]; omega)); (focus (simp only [List.length_map]; first | done | omega)); (with_reducible (intro _ _ hA)); (cases hA); (with_reducible refine mm_lds0 hM ‹_› (map_atI ?_) ?_); (focus omega))
    ((with_reducible (refine mop_cS trivial ?_ ?_)))
    · intro hx
      ((with_reducible (refine mif_true ?_)))
      exact ⟨by rw [idxI_at (i := i) hit (fun j hj => hlow j (by omega) hj) (decide_eq_true hx)], hM.st⟩
    · intro hx
      ((with_reducible (refine mif_false ?_; refine mop_c ?_ ?_)); (focus omega))
      exact ⟨⟨i + 1, by rw [Value.int.injEq]; refine ⟨rfl, ?_⟩; push_cast; rfl, by omega, fun j hj hji => by
        rcases Nat.lt_or_ge j i with h | h
        · exact hlow j hj h
        · obtain rfl : j = i := by omega
          exact decide_eq_false hx, hM⟩, by simp only; omega⟩
  · intro hge
    ((with_reducible (refine mif_false ?_)))
    exact ⟨by rw [idxI_none fun j hj => hlow j hj (by omega)], hM.st⟩
theorem icontains_ok (l : List Int) (x : Int) (hl : l.length ≤ maxLen) (hs : Sl H 1 K (ints8 l)) (hf : Fz H w) : Calls Tryz.prog 90 #[.slice K l.length kc, .int .i64 x] w fun en w' => en = .returned (.bool (decide (x ∈ l))) ∧ St w [] w' := by
  have hM := Mem.start hf
  refine C_slices_Contains_int_int ?_
  unfold F_slices_Contains_int_int
  refine mm_pure hM (iindex_ok l x hl hs hM.fz) (fun w hM => ?_)
  rcases idxI_cases (fun y => decide (x = y)) l with ⟨e, h⟩ | ⟨i, hi, e, h, -⟩
  · rw [e, decide_eq_false (fun hm => by have := h x hm; simp at this)]
    ((with_reducible (refine mop_cF trivial ?_ ?_)); (focus (first | assumption | omega | with_reducible rfl | exact fun h => Bool.noConfusion h)))
    exact ⟨rfl, hM.st⟩
  · have hm : x ∈ l := by
      have := of_decide_eq_true h
      rw [this]
      exact List.getElem_mem hi
    rw [e, decide_eq_true hm]
    ((with_reducible (refine mop_cT trivial ?_ ?_)); (focus (first | assumption | omega | with_reducible rfl | exact fun h => Bool.noConfusion h)))
    exact ⟨rfl, hM.st⟩
def isF (fresh : List Int) (y : Int) : Bool := decide (y.tmod 2 = 0 ∧ IntKind.i64.wrap (y.tdiv 2) ∈ fresh)
theorem isF_eq {fresh : List Int} {y : Int} (h : 0 ≤ y) (h2 : y ≤ 1000000) : isF fresh y = decide (y % 2 = 0 ∧ y / 2 ∈ fresh) := by
  unfold isF
  rw [Int.tmod_eq_emod_of_nonneg h, Int.tdiv_eq_ediv_of_nonneg h, show IntKind.i64.wrap (y / 2) = y / 2 from wrap_in (by omega)]
theorem fresh1_ok (g : Nat) (fresh : List Int) (y : Int) (hl : fresh.length ≤ maxLen) (hs : Sl H 1 F (ints8 fresh)) (hM : Mem H w0 (fb g 47 [.one (.slice F fresh.length fc)] :: R) w) :
    Calls Tryz.prog 89 #[.int .i64 y, .pointer (some ⟨g, 0, none⟩)] w fun en w' => en = .returned (.bool (isF fresh y)) ∧ Mem H w0 (fb g 47 [.one (.slice F fresh.length fc)] :: R) w' := by
  refine C_climb_beside_1 ?_
  unfold F_climb_beside_1 isF
  refine mop_pur (p_rem _ _ _ _ _ (by decide)) ?_
  by_cases h : y.tmod 2 = 0
  · refine mop_cT trivial h ?_
    ((with_reducible (refine mguard_yes ?_; refine mm_ld hM ?_; refine mguard_yes ?_; refine mop_c trivial ?_; refine mguard_yes ?_)))
    refine mop_pur (p_quo _ _ _ _ _ (by decide)) ?_
    ((with_reducible (refine mguard_yes ?_)))
    refine mm_pure hM (icontains_ok fresh (IntKind.i64.wrap (y.tdiv 2)) hl hs hM.fz) (fun w hM => ?_)
    ((with_reducible (refine mop_c trivial ?_)))
    exact ⟨by rw [decide_eq_decide.2 (show (y.tmod 2 = 0 ∧ IntKind.i64.wrap (y.tdiv 2) ∈ fresh) ↔ IntKind.i64.wrap (y.tdiv 2) ∈ fresh from ⟨fun k => k.2, fun k => ⟨h, k⟩⟩)], hM⟩
  · refine mop_cF trivial h ?_
    ((with_reducible ((iterate 4 refine mguard_n2 ?_); refine mop_c trivial ?_)))
    exact ⟨by rw [decide_eq_false (fun k => h k.1)], hM⟩
theorem iidx_ok {r : Res} {cl : Value} {f : Int → Bool} (xs : List Int) (hn : xs.length = n) (hc : Clo Tryz.prog H w0 r cl ivv f) (hM : Mem H w0 (r :: rowR 3 1 A n c (ints8 xs) :: R) w) (hb : n < 1000000) :
    Calls Tryz.prog 58 #[.slice A n c, cl] w fun en w' => ∃ v, en = .returned v ∧ v = .int .i64 (idxI f xs) ∧ Mem H w0 (r :: rowR 3 1 A n c (ints8 xs) :: R) w' := by
  subst hn
  refine C_slices_IndexFunc_int_int ?_
  unfold F_slices_IndexFunc_int_int
  ((with_reducible (refine mop_c trivial ?_)))
  refine ⟨fun x w => ∃ i : Nat, x = .int .i64 i ∧ i ≤ xs.length ∧ (∀ j (hj : j < xs.length), j < i → f xs[j] = false) ∧ hM.now w, fun x _ => match x with | .int _ i => xs.length - i.toNat | _ => 0, ⟨0, rfl, by omega, by intro j hj h; omega, hM⟩, ?_⟩
  rintro x u w ⟨i, rfl, hi, hf, hM⟩
  ((with_reducible (refine mop_cS trivial ?_ ?_)))
  · intro hlt
    have hit : i < xs.length := by omega
    ((with_reducible (refine mif_true ?_; refine mm_ixr hM ?_ ?_)); (focus omega); (with_reducible (intro _ hA)); (cases hA); (with_reducible (refine mm_ldr0 hM (map_atI ?_) ?_)); (focus omega))
    refine hc _ _ _ _ _ hM (fun w hM => ?_)
    cases hfi : f xs[i]
    · ((with_reducible (refine mif_false ?_; refine mop_c ?_ ?_)); (focus omega))
      exact ⟨⟨i + 1, by rw [Value.int.injEq]; refine ⟨rfl, ?_⟩; push_cast; rfl, by omega, fun j hj hji => by
        rcases Nat.lt_or_ge j i with h | h
        · exact hf j hj h
        · obtain rfl : j = i := by omega
          exact hfi, hM⟩, by simp only; omega⟩
    · ((with_reducible (refine mif_true ?_)))
      exact ⟨_, rfl, by rw [idxI_at (i := i) hit (fun j hj => hf j (by omega) hj) hfi], hM⟩
  · intro hge
    ((with_reducible (refine mif_false ?_)))
    exact ⟨_, rfl, by rw [idxI_none fun j hj => hf j hj (by omega)], hM⟩
theorem idel_ok {r : Res} {cl : Value} {f : Int → Bool} (xs : List Int) (hn : xs.length = n) (hc : Clo Tryz.prog H w0 r cl ivv f) (hM : Mem H w0 (r :: rowR 3 1 A n c (ints8 xs) :: R) w) (hb : n < 1000000) :
    Calls Tryz.prog 88 #[.slice A n c, cl] w fun en w' => ∃ v, en = .returned v ∧ v = .slice A (xs.filter fun x => !f x).length c ∧ Mem H w0 (r :: rowR 3 1 A (xs.filter fun x => !f x).length c (ints8 (xs.filter fun x => !f x)) :: R) w' := by
  refine C_slices_DeleteFunc_int_int ?_
  unfold F_slices_DeleteFunc_int_int
  refine mm_own (iidx_ok xs hn hc hM hb) ?_
  clear hM
  rintro v w2 ⟨rfl, hM⟩
  rcases idxI_cases f xs with ⟨hi, hall⟩ | ⟨i0, hi0, hi, hfi, hlow⟩
  · rw [hi]
    ((with_reducible (refine mop_cT trivial ?_ ?_)); (focus (first | assumption | omega | with_reducible rfl | exact fun h => Bool.noConfusion h)); (with_reducible (refine mif_true ?_)))
    have e : xs.filter (fun x => !f x) = xs := List.filter_eq_self.2 fun x hx => by simp [hall x hx]
    rw [e, hn]
    exact ⟨_, rfl, rfl, hM⟩
  · rw [hi]
    have hcl : n ≤ c := ((hM.up A).rowLen ⟨.refl _⟩).2.1
    ((with_reducible (refine mop_cF trivial ?_ ?_)); (focus (first | assumption | omega | with_reducible rfl | exact fun h => Bool.noConfusion h)); (with_reducible (refine mif_false ?_; refine mop_c ?_ ?_)); (focus omega))
    have e0 : (xs.take (i0 + 1)).filter (fun x => !f x) = xs.take i0 := by
      rw [List.take_succ_eq_append_getElem hi0, List.filter_append, List.filter_eq_self.2 fun x hx => ?_]
      · simp [hfi]
      · obtain ⟨j, hj, rfl⟩ := List.mem_iff_getElem.1 hx
        have hj2 : j < i0 := by simp at hj; omega
        simp [hlow j hj2]
    obtain ⟨g, rfl⟩ := (hM.up A).rowAt ⟨.refl _⟩ (by omega)
    refine ⟨fun x y w' => ∃ (i j : Nat) (ys : List Int), x = .int .i64 i ∧ y = .int .i64 j ∧ i < j ∧ j ≤ n ∧ ys.length = n ∧ ys.take i = (xs.take j).filter (fun x => !f x) ∧ ys.drop j = xs.drop j ∧ Mem H w0 (r :: rowR 3 1 (some ⟨g, 0, none⟩) n c (ints8 ys) :: R) w',
      fun _ y _ => match y with | .int _ j => n - j.toNat | _ => 0, ⟨i0, i0 + 1, xs, rfl, by rw [Value.int.injEq]; refine ⟨rfl, ?_⟩; push_cast; rfl, by omega, by omega, hn, e0.symm, rfl, hM⟩, ?_⟩
    clear hM
    rintro x y u w3 ⟨i, j, ys, rfl, rfl, hij, hjn, hyl, htk, hdr, hM⟩
    ((with_reducible (refine mop_c trivial ?_)))
    ((with_reducible (refine mop_cS trivial ?_ ?_)))
    · intro hlt
      have hj1 : j < ys.length := by omega
      have hj2 : j < xs.length := by omega
      have hyj : ys[j] = xs[j] := by
        have := congrArg (·[0]?) hdr
        simpa [hj1, hj2] using this
      have hd1 : ys.drop (j + 1) = xs.drop (j + 1) := by
        have := congrArg (List.drop 1) hdr
        simpa [List.drop_drop] using this
      ((with_reducible (refine mif_true ?_)))
      refine ⟨fun x w' => ∃ (i : Nat) (ys : List Int), x = .int .i64 i ∧ i < j + 1 ∧ ys.length = n ∧ ys.take i = (xs.take (j + 1)).filter (fun x => !f x) ∧ ys.drop (j + 1) = xs.drop (j + 1) ∧ Mem H w0 (r :: rowR 3 1 (some ⟨g, 0, none⟩) n c (ints8 ys) :: R) w', ?_, ?_⟩
      · ((with_reducible (refine mm_ixr hM ?_ ?_)); (focus omega); (with_reducible (intro _ hA)); (cases hA); (with_reducible (refine mm_ldr0 hM (map_atI ?_) ?_)); (focus omega))
        refine hc ys[j] _ _ _ _ (hM.at_ r) (fun w hM => ?_)
        rw [hyj, List.take_succ_eq_append_getElem hj2, List.filter_append]
        cases hf : f xs[j]
        · ((with_reducible (refine mop_c trivial ?_; refine mif_true ?_; refine mm_ixr hM ?_ ?_)); (focus omega); (with_reducible (intro _ hA)); (cases hA); (with_reducible (refine mm_str hM ?_ ?_)); (focus omega); (with_reducible (clear hM; intro _ hM; refine mop_c ?_ ?_)); (focus omega))
          refine ⟨i + 1, ys.set i xs[j], by rw [Value.int.injEq]; refine ⟨rfl, ?_⟩; push_cast; rfl, by omega, by simpa using hyl, ?_, ?_, ?_⟩
          · rw [stk_succ _ _ _ (by omega), htk]
            simp [hf]
          · rw [List.drop_set_of_lt (by omega), hd1]
          · rw [ints8_set, Int.toNat_natCast] at hM
            exact hM.sub
        · ((with_reducible (refine mop_c trivial ?_; refine mif_false ?_)))
          exact ⟨i, ys, rfl, by omega, hyl, by simp [hf, htk], hd1, hM.sub⟩
      · clear hM
        rintro x u w4 ⟨i, ys, rfl, hij, hyl, htk, hdr, hM⟩
        ((with_reducible (refine mop_c ?_ ?_)); (focus omega))
        exact ⟨⟨i, j + 1, ys, rfl, by rw [Value.int.injEq]; refine ⟨rfl, ?_⟩; push_cast; rfl, by omega, by omega, hyl, htk, hdr, hM⟩, by simp only; omega⟩
    · intro hge
      have : j = n := by omega
      subst this
      rw [← hn, List.take_length] at htk
      have hlen : i = (xs.filter fun x => !f x).length := by rw [← htk, List.length_take]; omega
      ((with_reducible (refine mif_false ?_; refine mop_c ?_ ?_)); (focus omega))
      rw [Int.toNat_natCast]
      refine mm_clear hM (k := i) (by omega) (fun w4 hM => ?_)
      ((with_reducible (refine mop_c ?_ ?_)); (focus omega))
      rw [ints8_take, htk, hlen] at hM
      rw [Int.toNat_natCast, hlen]
      exact ⟨_, rfl, rfl, hM.same⟩
end
end Go.Proofs.YtpjodlnlmaaihaaGreat
namespace Go.Proofs.YtpjodlnlmaaihaaGreat
open Go.RowKit Go.Lib
theorem Mem.joinO {H : Hp} {w0 w w' : World} {L L' : List Res} (h : Mem H w0 L w) (hc : Mem (Hp.of w) w L' w') : Mem H w0 (L' ++ L) w' := h.join (hc.weak (le_of h.fz)) fun _ _ e => e
theorem kfds_app (a b : List H32) : kfds (a ++ b) = kfds a ++ kfds b := by simp [kfds]
theorem secK_succ (s : H32) (k : Nat) : secK s (k + 1) = drv (secK s k) spath es0 := rfl
def IrF (H : Hp) (q : List Fd) (l : List Int) : Prop := ∃ C c, q = [.one (.slice C l.length c)] ∧ Sl H 1 C (ints8 l) ∧ l.length ≤ 40000
theorem IrF.mono {H H' : Hp} {q : List Fd} {l : List Int} (h : IrF H q l) (k : H.le H') : IrF H' q l := by
  obtain ⟨C, c, h1, h2, h3⟩ := h
  exact ⟨C, c, h1, h2.mono k, h3⟩
theorem All2.snoc {α : Type} {r : List Fd → α → Prop} : ∀ {ps : List (List Fd)} {xs : List α} {q : List Fd} {x : α}, All2 r ps xs → r q x → All2 r (ps ++ [q]) (xs ++ [x])
  | [], [], _, _, _, h => ⟨h, trivial⟩
  | _ :: _, _ :: _, _, _, h, k => ⟨h.1, h.2.snoc k⟩
  | [], _ :: _, _, _, h, _ => h.elim
  | _ :: _, [], _, _, h, _ => h.elim
section
variable {H : Hp} {w0 w : World} {L R : List Res} {A B K F : Option Addr} {a c n m kc fc : Nat} {t : Tr} {v : Value}
theorem clo_fresh (g : Nat) (fresh : List Int) (hl : fresh.length ≤ maxLen) (hs : Sl H 1 F (ints8 fresh)) : Clo Tryz.prog H w0 (fb g 47 [.one (.slice F fresh.length fc)]) (.func (.func 89) #[] #[.pointer (some ⟨g, 0, none⟩)]) ivv (isF fresh) := fun y R w K X hM hk => by
  refine mop_callv (fresh1_ok (fc := fc) g fresh y hl hs hM) ?_
  rintro en w' ⟨rfl, hM⟩
  exact hk _ hM
theorem up_ok (way : List Int) (s : H32) (hl : way.length ≤ 100) (hr : ∀ x ∈ way, 0 ≤ x ∧ x ≤ 1000) (hs : Sl (Hp.of w) 1 A (ints8 way)) (hM : Mem H w0 L w) :
    Calls Tryz.prog 45 #[.pointer none, .slice A way.length a, ha s] w fun en w' => ∃ v, en = .returned v ∧ ∃ K1 c1 K2 c2, v = .tuple #[.slice K1 way.length c1, .slice K2 way.length c2, ha (comS s way.length)] ∧ Mem H w0 (rowR 34 32 K1 way.length c1 (kfds (secL s way.length)) :: rowR 43 33 K2 way.length c2 ((keysL way s way.length).map Ky.fds) :: L) w' := by
  obtain ⟨H1, hH1⟩ : ∃ H1, H1 = Hp.of w := ⟨_, rfl⟩
  have hs0 : Mem (Hp.of w) w [] w := Mem.start (Fz.of w)
  rw [← hH1] at hs hs0
  suffices h : Calls Tryz.prog 45 #[.pointer none, .slice A way.length a, ha s] w fun en w' => ∃ v, en = .returned v ∧ ∃ K1 c1 K2 c2, v = .tuple #[.slice K1 way.length c1, .slice K2 way.length c2, ha (comS s way.length)] ∧ Mem H1 w (rowR 34 32 K1 way.length c1 (kfds (secL s way.length)) :: rowR 43 33 K2 way.length c2 ((keysL way s way.length).map Ky.fds) :: []) w' from
    h.mono fun en w' ⟨v, e, K1, c1, K2, c2, e2, hM2⟩ => ⟨v, e, K1, c1, K2, c2, e2, hM.joinO (by rw [hH1] at hM2; exact hM2)⟩
  have d1 : spath.size ≤ 1000000 ∧ es0.size ≤ 1000000 := by decide
  have d2 : bnode.size ≤ 1000000 ∧ es0.size ≤ 1000000 := by decide
  have d3 : scommit.size ≤ 1000000 ∧ es0.size ≤ 1000000 := by decide
  clear hM hH1
  obtain ⟨w1, hw1⟩ : ∃ w1, w1 = w := ⟨_, rfl⟩
  rw [← hw1]
  rw [← hw1] at hs0
  have hM := hs0
  clear hs0
  refine C_climb_up ?_
  unfold F_climb_up
  ((with_reducible (refine mm_box hM ?_; clear hM; intro _ _ hM; refine mm_new hM ?_; clear hM; intro _ _ hM; refine mop_c trivial ?_)))
  rename_i gs _ gr _
  have h0 : Mem H1 w1 (rowR 34 32 none 0 0 (kfds (secL s 0)) :: rowR 43 33 none 0 0 ((keysL way s 0).map Ky.fds) :: fb gs 34 [.arr 32 (u8s (secK s (0 - 1)).1)] :: [fb gr 34 [.arr 32 (u8s hzero.1)]]) _ := (((hM.row0 43 33).row0 34 32).sub : Mem H1 w1 [rowR 34 32 none 0 0 [], rowR 43 33 none 0 0 [], fb gs 34 [.arr 32 (u8s s.1)], fb gr 34 [.arr 32 (u8s hzero.1)]] _)
  refine ⟨fun v1 v2 v3 w' => ∃ (i : Nat) (K1 K2 : Option Addr) (c1 c2 : Nat), v1 = .slice K1 i c1 ∧ v2 = .slice K2 i c2 ∧ v3 = .int .i64 i ∧ i ≤ way.length ∧ Mem H1 w1 [rowR 34 32 K1 i c1 (kfds (secL s i)), rowR 43 33 K2 i c2 ((keysL way s i).map Ky.fds), fb gs 34 [.arr 32 (u8s (secK s (i - 1)).1)], fb gr 34 [.arr 32 (u8s hzero.1)]] w', fun _ _ v _ => match v with | .int _ k => way.length - k.toNat | _ => 0, ⟨0, none, none, 0, 0, rfl, rfl, rfl, by omega, h0⟩, ?_⟩
  clear hM h0
  rintro v1 v2 v3 u4 w4 ⟨i, K1, K2, c1, c2, rfl, rfl, rfl, hi, hM⟩
  skip
  ((with_reducible (refine mop_cS trivial ?_ ?_)))
  · intro hlt
    have hit : i < way.length := by omega
    have hx := hr _ (List.getElem_mem hit)
    ((with_reducible (refine mif_true ?_)); (with_reducible refine mm_ixs ‹_› ?_ ?_ ?_); (focus (simp only [List.length_map]; omega)); (focus (simp only [List.length_map]; first | done | omega)); (with_reducible (intro _ _ hA)); (cases hA); (with_reducible refine mm_lds0 hM ‹_› (map_atI ?_) ?_); (focus omega))
    refine ⟨fun w' => Mem H1 w1 [rowR 34 32 K1 i c1 (kfds (secL s i)), rowR 43 33 K2 i c2 ((keysL way s i).map Ky.fds), fb gs 34 [.arr 32 (u8s (secK s i).1)], fb gr 34 [.arr 32 (u8s hzero.1)]] w', ?_, ?_⟩
    · ((with_reducible (refine mop_cS trivial ?_ ?_)))
      · intro h0
        ((with_reducible (refine mif_true ?_; refine mm_ld hM ?_; refine mm_purC hM ?_ ?_)); (focus (first | exact trivial | assumption | omega)); (with_reducible (clear hM; intro _ hM; refine mm_st hM ?_; clear hM; intro _ hM)))
        have e : secK s i = drv (secK s (i - 1)) spath es0 := by
          obtain ⟨k, rfl⟩ : ∃ k, i = k + 1 := ⟨i - 1, by omega⟩
          rfl
        rw [e]
        exact hM.same
      · intro h0
        obtain rfl : i = 0 := by omega
        ((with_reducible (refine mif_false ?_)))
        exact hM
    clear hM
    intro u5 w5 hM
    ((with_reducible (refine mm_ld hM ?_; refine mm_bsl hM ?_ ?_ ?_)); (focus rfl); (focus (constructor <;> simp)); (with_reducible (clear hM; intro _ _ hM; refine mm_appo hM ?_ ?_)); (focus omega); (with_reducible (clear hM; intro _ _ _ hM; refine mm_ld hM ?_; refine mm_purC hM ?_ ?_)); (focus (first | exact trivial | assumption | omega)); (with_reducible (clear hM; intro _ hM; refine mop_c trivial ?_; refine mm_bsl hM ?_ ?_ ?_)); (focus rfl); (focus (constructor <;> simp)); (with_reducible (clear hM; intro _ _ hM; refine mm_appo hM ?_ ?_)); (focus omega); (with_reducible (clear hM; intro _ _ _ hM; refine mop_c ?_ ?_)); (focus omega))
    rename_i A1 c1' _ _ _ _ A2 c2' _
    have hM : Mem H1 w1 [rowR 34 32 A1 (i + 1) c1' (kfds (secL s i) ++ [[.arr 32 (u8s (secK s i).1)]]), rowR 43 33 A2 (i + 1) c2' ((keysL way s i).map Ky.fds ++ [[.one (.int .i64 way[i]), .arr 32 (u8s (drv (secK s i) bnode es0).1)]]), fb gs 34 [.arr 32 (u8s (secK s i).1)], fb gr 34 [.arr 32 (u8s hzero.1)]] _ := hM.sub
    have e1 : kfds (secL s i) ++ [[.arr 32 (u8s (secK s i).1)]] = kfds (secL s (i + 1)) := by
      rw [secL_succ, kfds_app]
      rfl
    have e2 : (keysL way s i).map Ky.fds ++ [[.one (.int .i64 way[i]), .arr 32 (u8s (drv (secK s i) bnode es0).1)]] = (keysL way s (i + 1)).map Ky.fds := by
      rw [keysL_succ, List.map_append]
      congr 1
      simp only [List.map_cons, List.map_nil]
      unfold keyK
      rw [mkKy_fds (by rw [List.getD_eq_getElem?_getD, List.getElem?_eq_getElem hit]; exact hx), List.getD_eq_getElem?_getD, List.getElem?_eq_getElem hit]
      rfl
    exact ⟨⟨i + 1, A1, A2, c1', c2', rfl, rfl, by rw [Value.int.injEq]; refine ⟨rfl, ?_⟩; push_cast; rfl, by omega, by rw [← e1, ← e2]; exact hM⟩, by simp only; omega⟩
  · intro hge
    obtain rfl : i = way.length := by omega
    ((with_reducible (refine mif_false ?_; refine mm_ld hM ?_; refine mm_purC hM ?_ ?_)); (focus (first | exact trivial | assumption | omega)); (with_reducible (clear hM; intro _ hM; refine mm_st hM ?_; clear hM; intro _ hM; refine rm_ld hM ?_)))
    exact ⟨_, rfl, K1, c1, K2, c2, rfl, hM.sub⟩
def sideK (t : Tr) (pl : Int) (way fresh : List Int) (i : Nat) : List Int := (resT t (bs t.size (wNode pl way i))).filter fun y => !isF fresh y
def sidesK (t : Tr) (pl : Int) (way fresh : List Int) (n : Nat) : List (List Int) := (List.range n).map (sideK t pl way fresh)
theorem sidesK_succ (t : Tr) (pl : Int) (way fresh : List Int) (n : Nat) : sidesK t pl way fresh (n + 1) = sidesK t pl way fresh n ++ [sideK t pl way fresh n] := by simp [sidesK, List.range_succ]
theorem resT_len {t : Tr} (h : t.Rt) (x : Int) : (resT t x).length ≤ 16640 := by
  unfold resT
  split
  · rename_i ht
    exact resL_len h 8 x ht
  · simp
theorem beside_ok (pl : Int) (fresh : List Int) (hl : fresh.length ≤ maxLen) (hpl : 0 ≤ pl ∧ pl < t.size) (hR : t.Rt) (h : TrF H v t) (hs : Sl H 1 A (ints8 (dirL t.size pl))) (hfr : Sl H 1 F (ints8 fresh)) (hf : Fz H w) :
    Calls Tryz.prog 47 #[v, .int .i64 pl, .slice A (dirL t.size pl).length a, .slice F fresh.length fc] w (Outp H w fun H' r => ∃ K kc qs, r = .slice K (dirL t.size pl).length kc ∧ Sl H' 1 K qs ∧ All2 (IrF H') qs (sidesK t pl (dirL t.size pl) fresh (dirL t.size pl).length)) := by
  obtain ⟨TA, ta, TB, tb, tq, rfl, -⟩ := h.ex
  obtain ⟨w1, hw1⟩ : ∃ w1, w1 = w := ⟨_, rfl⟩
  rw [← hw1]
  rw [← hw1] at hf
  have hlen := hR.len
  have hts : t.size = t.ls.length := rfl
  have hdl := dirL_len t.size pl
  have hM := Mem.start hf
  refine C_climb_beside ?_
  unfold F_climb_beside
  ((with_reducible (refine mm_box hM ?_; clear hM; intro _ _ hM; refine mm_box hM ?_; clear hM; intro _ _ hM; refine mop_c ?_ ?_)); (focus omega); (with_reducible (refine mop_c trivial ?_)))
  rename_i gt _ gf _
  have hM9 : Mem H w1 [rowR 47 1 none 0 0 [], fb gt 25 (tfd TA t.ls.length ta TB t.ps.length tb), fb gf 47 [.one (.slice F fresh.length fc)]] _ := (hM.row0 47 1).sub
  refine ⟨fun v1 v2 v3 w' => ∃ (i : Nat) (H2 : Hp) (K1 : Option Addr) (c1 : Nat) (qs : List (List Fd)), v1 = .slice K1 i c1 ∧ v2 = .int .i64 (wNode pl (dirL t.size pl) i) ∧ v3 = .int .i64 i ∧ i ≤ (dirL t.size pl).length ∧ qs.length = i ∧ Le w1 H H2 ∧ All2 (IrF H2) qs (sidesK t pl (dirL t.size pl) fresh i) ∧ Mem H2 w1 [rowR 47 1 K1 i c1 qs, fb gt 25 (tfd TA t.ls.length ta TB t.ps.length tb), fb gf 47 [.one (.slice F fresh.length fc)]] w', fun _ _ v _ => match v with | .int _ k => (dirL t.size pl).length - k.toNat | _ => 0, ⟨0, H, none, 0, [], rfl, rfl, rfl, by omega, rfl, Le.refl _ _, trivial, hM9⟩, ?_⟩
  clear hM hM9
  rintro v1 v2 v3 u4 w4 ⟨i, H2, K1, c1, qs, rfl, rfl, rfl, hi, hql, le2, hA2, hM⟩
  skip
  ((with_reducible (refine mop_cS trivial ?_ ?_)))
  · intro hlt
    have hit : i < (dirL t.size pl).length := by omega
    obtain ⟨y1, y2, y3, y4⟩ := way_ok (n := t.size) (pl := pl) ⟨hpl.1, hpl.2, by omega⟩ hit
    have hy3 := y3
    obtain ⟨z1, z2, z3⟩ := hy3
    have hs2 := hs.mono le2.le
    have hfr2 := hfr.mono le2.le
    have h2 := h.mono le2.le
    ((with_reducible (refine mif_true ?_)); (with_reducible refine mm_ixs ‹_› ?_ ?_ ?_); (focus (simp only [List.length_map]; omega)); (focus (simp only [List.length_map]; first | done | omega)); (with_reducible (intro _ _ hA)); (cases hA); (with_reducible refine mm_lds0 hM ‹_› (map_atI ?_) ?_); (focus omega); (with_reducible (refine dm_ld hM ?_; refine dp_c trivial ?_; refine dm_ld hM ?_; refine dp_c trivial ?_; refine dm_purC hM ?_ (fun _ _ hM => ?_))); (focus (first | exact trivial | assumption | omega)))
    refine df_no hM (fun w5 hM => ?_)
    refine mm_own (resolve_own (bs t.size (wNode pl (dirL t.size pl) i)) (by omega) hR h2 hM.fz) ?_
    rintro r w6 ⟨K, kc, rfl, hM6⟩
    have hM7 := hM.join hM6 fun _ _ e => e
    clear hM hM6
    have hM : Mem H2 w1 (rowR 3 1 K (resT t (bs t.size (wNode pl (dirL t.size pl) i))).length kc (ints8 (resT t (bs t.size (wNode pl (dirL t.size pl) i)))) :: [rowR 47 1 K1 i c1 qs, fb gt 25 (tfd TA t.ls.length ta TB t.ps.length tb), fb gf 47 [.one (.slice F fresh.length fc)]]) _ := hM7
    clear hM7
    ((with_reducible (refine mm_end hM ?_; clear hM; intro _ hM; refine mop_c trivial ?_)))
    have hrl := resT_len hR (bs t.size (wNode pl (dirL t.size pl) i))
    have hM : Mem H2 w1 (fb gf 47 [.one (.slice F fresh.length fc)] :: rowR 3 1 K (resT t (bs t.size (wNode pl (dirL t.size pl) i))).length kc (ints8 (resT t (bs t.size (wNode pl (dirL t.size pl) i)))) :: [rowR 47 1 K1 i c1 qs, fb gt 25 (tfd TA t.ls.length ta TB t.ps.length tb)]) _ := hM.sub
    refine mm_own (idel_ok (resT t (bs t.size (wNode pl (dirL t.size pl) i))) rfl (clo_fresh gf fresh hl hfr2) hM (by omega)) ?_
    clear hM
    rintro r w7 ⟨hr, hM⟩
    have hr : r = .slice K (sideK t pl (dirL t.size pl) fresh i).length kc := hr
    subst hr
    have hM : Mem H2 w1 [fb gf 47 [.one (.slice F fresh.length fc)], rowR 3 1 K (sideK t pl (dirL t.size pl) fresh i).length kc (ints8 (sideK t pl (dirL t.size pl) fresh i)), rowR 47 1 K1 i c1 qs, fb gt 25 (tfd TA t.ls.length ta TB t.ps.length tb)] _ := hM
    have hM : Mem H2 w1 (rowR 3 1 K (sideK t pl (dirL t.size pl) fresh i).length kc (ints8 (sideK t pl (dirL t.size pl) fresh i)) :: [rowR 47 1 K1 i c1 qs, fb gt 25 (tfd TA t.ls.length ta TB t.ps.length tb), fb gf 47 [.one (.slice F fresh.length fc)]]) _ := hM.sub
    have hsl : (sideK t pl (dirL t.size pl) fresh i).length ≤ 40000 := Nat.le_trans (List.length_filter_le _ _) (by omega)
    obtain ⟨H3, l3, hM3, hs3, -⟩ := hM.fz0
    clear hM
    have hM := hM3
    clear hM3
    ((with_reducible (refine mm_bsl hM ?_ ?_ ?_)); (focus rfl); (focus (constructor <;> simp)); (with_reducible (clear hM; intro _ _ hM; refine mm_appo hM ?_ ?_)); (focus omega); (with_reducible (clear hM; intro _ _ _ hM; refine mop_c ?_ ?_)); (focus omega))
    rename_i A2 c2 _
    have hA3 := (hA2.mono fun q x k => IrF.mono k l3.le).snoc (⟨K, kc, rfl, hs3, hsl⟩ : IrF H3 [.one (.slice K (sideK t pl (dirL t.size pl) fresh i).length kc)] (sideK t pl (dirL t.size pl) fresh i))
    rw [← sidesK_succ] at hA3
    have hwn : (dirL t.size pl)[i] = wNode pl (dirL t.size pl) (i + 1) := by
      show _ = (dirL t.size pl).getD i 0
      rw [List.getD_eq_getElem?_getD, List.getElem?_eq_getElem hit]
      rfl
    rw [hwn]
    exact ⟨⟨i + 1, H3, A2, c2, _, rfl, rfl, by rw [Value.int.injEq]; refine ⟨rfl, ?_⟩; push_cast; rfl, by omega, by rw [List.length_append, hql]; rfl, le2.trans l3, hA3, hM.sub⟩, by simp only; omega⟩
  · intro hge
    obtain rfl : i = (dirL t.size pl).length := by omega
    ((with_reducible (refine mif_false ?_)))
    have hM9 : Mem H2 w1 (rowR 47 1 K1 (dirL t.size pl).length c1 qs :: []) _ := hM.sub
    obtain ⟨H3, l3, hM3, hs3, -⟩ := hM9.fz0
    exact hM3.out (le2.trans l3) ⟨K1, c1, qs, rfl, hs3, hA2.mono fun q x k => IrF.mono k l3.le⟩
end
end Go.Proofs.YtpjodlnlmaaihaaGreat
namespace Go.Proofs.YtpjodlnlmaaihaaGreat
open Go.RowKit Go.Lib
def rowK (k : H32) (n : Nat) : List Int := rowL (drv k sstream es0).1 n
def tagK (k : H32) (about b : List Int) : List Int := ((drv (drv k stag es0) (strOfNums about) (strOfNums b)).1).take 16
theorem rowK_len (k : H32) (n : Nat) : (rowK k n).length = n := rowL_length _ _
theorem tagK_len (k : H32) (a b : List Int) : (tagK k a b).length = 16 := by
  unfold tagK
  rw [List.length_take, (drv _ _ _).2.1]
  rfl
theorem crossL_get : ∀ {r t : List Int} {i : Nat} (h1 : i < (crossL r t).length) (h2 : i < t.length) (h3 : i < r.length), (crossL r t)[i] = bits .xor .u8 t[i] r[i]
  | _ :: _, _ :: _, 0, _, _, _ => rfl
  | _ :: rs, _ :: ts, i + 1, h1, h2, h3 => by
    simp only [crossL, List.getElem_cons_succ]
    exact crossL_get (by simpa [crossL] using h1) _ _
  | [], _, _, _, _, h3 => by simp at h3
  | _ :: _, [], _, _, h2, _ => by simp at h2
theorem byts_set (l : List Int) (i : Nat) (x : Int) : (byts l).set i [.one (.int .u8 x)] = byts (l.set i x) := (List.map_set (f := fun x => [Fd.one (.int .u8 x)])).symm
theorem cross_set {C t : List Int} {i : Nat} (hl : C.length = t.length) (hi : i < t.length) : (C.take i ++ t.drop i).set i (C[i]'(by omega)) = C.take (i + 1) ++ t.drop (i + 1) := by
  have ht : (C.take i).length = i := by rw [List.length_take]; omega
  rw [List.drop_eq_getElem_cons hi, List.set_append_right _ _ (by omega), ht, Nat.sub_self, List.set_cons_zero, List.take_succ_eq_append_getElem (by omega), List.append_assoc]
  rfl
theorem cross_get {C t : List Int} {i : Nat} (hl : C.length = t.length) (hi : i < t.length) : (C.take i ++ t.drop i)[i]'(by rw [List.length_append, List.length_take, List.length_drop]; omega) = t[i] := by
  rw [List.getElem_append_right (by rw [List.length_take]; omega)]
  simp only [List.length_take, List.getElem_drop]
  congr 1
  omega
instance : BytC Tryz.prog 99 5 := ⟨⟨by kernel_rfl, by kernel_rfl⟩⟩
instance (p : H32) (o : List Int) : PurC Tryz.prog 91 [.agg (u8s p.1).toArray, .string (strOfNums o)] ((∀ x ∈ o, 0 ≤ x ∧ x < 256) ∧ o.length ≤ 1000000) (.agg (u8s (kemH p o).1).toArray) := ⟨fun h w => shared_ok p o h.1 h.2 w⟩
theorem ext_take (s : List Int) {k : Nat} (h : k ≤ s.length) : (strOfNums s).extract 0 k = strOfNums (s.take k) := by
  apply ByteArray.ext
  simp [strOfNums, ByteArray.data_extract, List.extract_toArray]
theorem ext_drop (s : List Int) (k : Nat) : (strOfNums s).extract k (strOfNums s).size = strOfNums (s.drop k) := by
  apply ByteArray.ext
  rw [strOfNums_size]
  simp [strOfNums, ByteArray.data_extract, List.extract_toArray]
  rw [List.take_of_length_le (by simp)]
theorem take_rng {s : List Int} (k : Nat) (h : ∀ x ∈ s, 0 ≤ x ∧ x < 256) : ∀ x ∈ s.take k, 0 ≤ x ∧ x < 256 := fun x hx => h x (List.mem_of_mem_take hx)
section
variable {H : Hp} {w0 w : World} {L R : List Res} {A B : Option Addr} {a b n m : Nat}
instance (k : H32) (n : Int) : PurC Tryz.prog 146 [.agg (u8s k.1).toArray, .int .i64 n] True (.string (if 1 ≤ n ∧ n ≤ 65536 then strOfNums (rowL k.1 n.toNat) else ByteArray.mk #[])) := ⟨fun _ w => stream_ok k n (Fz.of w)⟩
theorem cross_ok (k : H32) (t : List Int) (ht : ∀ x ∈ t, 0 ≤ x ∧ x < 256) (hn : t.length ≤ 65536) (w : World) : Calls Tryz.prog 128 #[ha k, .string (strOfNums t)] w fun en w' => en = .returned (.string (strOfNums (crossL (rowK k t.length) t))) ∧ St w [] w' := by
  have hM := Mem.start (Fz.of w)
  have hs : (strOfNums t).size = t.length := strOfNums_size t
  have d1 : sstream.size ≤ 1000000 ∧ es0.size ≤ 1000000 := by decide
  refine C_prim_cross ?_
  unfold F_prim_cross
  ((with_reducible (refine mm_box hM ?_; clear hM; intro _ _ hM; refine mm_ld hM ?_; refine mm_purC hM ?_ ?_)); (focus (first | exact trivial | assumption | omega)); (with_reducible (clear hM; intro _ hM; refine mop_c trivial ?_; refine mm_purC hM ?_ ?_)); (focus (first | exact trivial | assumption | omega)); (with_reducible (clear hM; intro _ hM; refine mop_c trivial ?_)))
  rw [hs]
  refine mm_mkb hM (by omega) ?_
  intro g w1 hM
  refine mm_cps hM hs ?_
  intro w2 hM
  rw [ints_str t ht] at hM
  have hrl : (rowK k t.length).length = t.length := rowK_len _ _
  have hrw : (if 1 ≤ (t.length : Int) ∧ (t.length : Int) ≤ 65536 then strOfNums (rowL (drv k sstream es0).1 ((t.length : Int)).toNat) else ByteArray.mk #[]) = strOfNums (rowK k t.length) := by
    by_cases h0 : t.length = 0
    · rw [if_neg (by omega), h0]
      rfl
    · rw [if_pos (by omega), Int.toNat_natCast]
      rfl
  rw [hrw]
  have hrr : ∀ x ∈ rowK k t.length, 0 ≤ x ∧ x < 256 := rowL_range _ _
  generalize rowK k t.length = row at hrl hrr ⊢
  have hcl : (crossL row t).length = t.length := crossL_len (by omega)
  ((with_reducible (refine mop_c trivial ?_)))
  refine ⟨fun v w' => ∃ i : Nat, v = .int .i64 i ∧ i ≤ t.length ∧ Mem (Hp.of w) w [rowR 5 1 (some ⟨g, 0, none⟩) t.length t.length (byts ((crossL row t).take i ++ t.drop i))] w', fun v _ => match v with | .int _ k => t.length - k.toNat | _ => 0, ⟨0, rfl, by omega, by simpa using hM.sub⟩, ?_⟩
  clear hM
  rintro v u w3 ⟨i, rfl, hi, hM⟩
  skip
  ((with_reducible (refine mop_cS trivial ?_ ?_)))
  · intro hlt
    have hit : i < t.length := by omega
    have hq : (byts ((crossL row t).take i ++ t.drop i))[((i : Int)).toNat]? = some [.one (.int .u8 t[i])] := by
      have h9 := cross_get hcl hit
      rw [Int.toNat_natCast]
      unfold byts
      rw [List.getElem?_map, List.getElem?_eq_getElem (by rw [List.length_append, List.length_take, List.length_drop]; omega), h9]
      rfl
    have hrs : (strOfNums row).size = t.length := by rw [strOfNums_size, hrl]
    ((with_reducible (refine mif_true ?_; refine dp_ixr hM ?_ ?_)); (focus omega); (with_reducible (intro _ hA)); (cases hA))
    refine dm_ldr0 hM hq ?_
    skip
    refine dp_pur (p_index_str _ i (by omega) (by rw [hrs]; omega)) ?_
    have hri : (ints (strOfNums row)).getD ((i : Int)).toNat 0 = row[i] := by
      rw [ints_str row hrr, Int.toNat_natCast, List.getD_eq_getElem?_getD, List.getElem?_eq_getElem (by omega)]
      rfl
    rw [hri]
    have hxr : bits .xor .u8 t[i] row[i] = (crossL row t)[i] := (crossL_get (by omega) hit (by omega)).symm
    ((with_reducible (refine dp_c trivial ?_; refine dp_ixr hM ?_ ?_)); (focus omega); (with_reducible (intro _ hA)); (cases hA))
    rw [hxr]
    refine dm_stz hM hq (fun w' hM => ?_)
    rw [byts_set, Int.toNat_natCast, cross_set hcl hit] at hM
    ((with_reducible (refine mm_end hM ?_; clear hM; intro _ hM; refine mop_c ?_ ?_)); (focus omega))
    exact ⟨⟨i + 1, by rw [Value.int.injEq]; refine ⟨rfl, ?_⟩; push_cast; rfl, by omega, hM⟩, by simp only; omega⟩
  · intro hge
    obtain rfl : i = t.length := by omega
    ((with_reducible (refine mif_false ?_; refine mm_cvr hM ?_ ?_)); (focus (simp; omega)))
    refine ⟨?_, hM.st⟩
    rw [← hcl, List.take_length, hcl, List.drop_length, List.append_nil, ← hcl, List.take_length]
theorem tag_ok (k : H32) (ab b : List Int) (hl : ab.length ≤ 1000000) (hb : b.length ≤ 1000000) (w : World) : Calls Tryz.prog 129 #[ha k, .string (strOfNums ab), .string (strOfNums b)] w fun en w' => en = .returned (.string (strOfNums (tagK k ab b))) ∧ St w [] w' := by
  have hM := Mem.start (Fz.of w)
  have h1 : (strOfNums ab).size = ab.length := strOfNums_size _
  have h2 : (strOfNums b).size = b.length := strOfNums_size _
  have d1 : stag.size ≤ 1000000 ∧ es0.size ≤ 1000000 := by decide
  have d2 : (strOfNums ab).size ≤ 1000000 ∧ (strOfNums b).size ≤ 1000000 := by omega
  refine C_prim_tag ?_
  unfold F_prim_tag
  ((with_reducible (refine mm_box hM ?_; clear hM; intro _ _ hM; refine mm_ld hM ?_; refine mm_purC hM ?_ ?_)); (focus (first | exact trivial | assumption | omega)); (with_reducible (clear hM; intro _ hM; refine mm_purC hM ?_ ?_)); (focus (first | exact trivial | assumption | omega)); (with_reducible (clear hM; intro _ hM; refine mm_new hM ?_; clear hM; intro _ _ hM; refine mm_st hM ?_; clear hM; intro _ hM; refine mop_c ?_ ?_)); (focus omega))
  refine mm_cvp (n := 32) hM (by decide) ?_
  exact ⟨rfl, hM.st⟩
instance (k : H32) (t : List Int) : PurC Tryz.prog 128 [.agg (u8s k.1).toArray, .string (strOfNums t)] ((∀ x ∈ t, 0 ≤ x ∧ x < 256) ∧ t.length ≤ 65536) (.string (strOfNums (crossL (rowK k t.length) t))) := ⟨fun h w => cross_ok k t h.1 h.2 w⟩
instance (k : H32) (ab b : List Int) : PurC Tryz.prog 129 [.agg (u8s k.1).toArray, .string (strOfNums ab), .string (strOfNums b)] (ab.length ≤ 1000000 ∧ b.length ≤ 1000000) (.string (strOfNums (tagK k ab b))) := ⟨fun h w => tag_ok k ab b h.1 h.2 w⟩
theorem cloneHs_ok {ps : List (List Fd)} (hs : Sl (Hp.of w) 32 A ps) (hn : n = ps.length) (hb : n ≤ 100000) (hM : Mem H w0 L w) : Calls Tryz.prog 82 #[.slice A n a] w fun en w' => ∃ v, en = .returned v ∧ Ext w w' ∧ ∃ A' a', v = .slice A' n a' ∧ Mem H w0 (rowR 34 32 A' n a' ps :: L) w' := by
  refine C_slices_Clone_api_Hash_api_Hash ?_
  unfold F_slices_Clone_api_Hash_api_Hash
  refine clone_gen (P := Tryz.prog) (t := 54) (R := fun en w' => ∃ v, en = .returned v ∧ Ext w w' ∧ ∃ A' a', v = .slice A' n a' ∧ Mem H w0 (rowR 34 32 A' n a' ps :: L) w') hs hn hM ?_ (fun A' a' w' hx hM => ⟨_, rfl, hx, _, _, rfl, hM⟩)
  omega
theorem seal_ok {ps : List (List Fd)} (k : H32) (ab t : List Int) (hl : ab.length ≤ 1000000) (ht : ∀ x ∈ t, 0 ≤ x ∧ x < 256) (hn : t.length ≤ 65536) (hs : Sl H 32 A ps) (hnp : n = ps.length) (hb : n ≤ 1000) (hf : Fz H w) : Calls Tryz.prog 92 #[.pointer none, ha k, .string (strOfNums ab), .string (strOfNums t), .slice A n a] w fun en w' => en = .returned (.string (strOfNums (sealL rowK tagK k ab t))) ∧ St w [] w' := by
  have hM := Mem.start hf
  have h1 : (strOfNums t).size = t.length := strOfNums_size _
  have d1 : (∀ x ∈ t, 0 ≤ x ∧ x < 256) ∧ t.length ≤ 65536 := ⟨ht, hn⟩
  refine C_prim_Seal ?_
  unfold F_prim_Seal
  ((with_reducible (refine mm_box hM ?_; clear hM; intro _ _ hM; refine mop_c trivial ?_; refine mop_cF trivial ?_ ?_)); (focus (first | assumption | omega | with_reducible rfl | exact fun h => Bool.noConfusion h)); (with_reducible (refine mif_false ?_)))
  refine ⟨fun w' => hM.now w', ?_, ?_⟩
  · ((with_reducible (refine mop_c trivial ?_)))
    ((with_reducible (refine mop_cS trivial ?_ ?_)))
    · intro h0
      ((with_reducible (refine mif_true ?_)))
      refine ⟨?_, ?_⟩
      all_goals
        (first | ((with_reducible (refine dm_ld hM ?_; refine dS_bsl hM ?_ ?_ (fun _ _ hM2 => ?_))); (focus rfl); (focus (constructor <;> simp)); (with_reducible (replace hM := hM2; clear hM2))) | ((with_reducible (refine dm_ld hM ?_))))
        refine dm_ownE hM (fun w hM => cloneHs_ok (hs.mono (le_of hM.fz)) hnp (by omega) hM) ?_
        rintro v w2 hx ⟨A', a', rfl, hM⟩
        (first | ((with_reducible (refine dS_bsl hM ?_ ?_ ?_)); (focus rfl); (focus (constructor <;> simp)); (with_reducible (clear hM; intro _ _ hM; refine dp_c trivial ?_; refine dm_purC hM ?_ (fun _ _ hM => ?_))); (focus (first | exact trivial | assumption | omega)); (with_reducible (refine mm_end hM ?_; clear hM; intro _ hM))) | ((with_reducible (refine dp_c trivial ?_; refine dm_purC hM ?_ (fun _ _ hM => ?_))); (focus (first | exact trivial | assumption | omega)); (with_reducible (refine mm_end hM ?_; clear hM; intro _ hM))))
        exact hM.sub
    · intro h0
      ((with_reducible (refine mif_false ?_)))
      exact hM
  rintro u w2 hM
  have hcl : (crossL (rowK k t.length) t).length = t.length := crossL_len (by rw [rowK_len]; omega)
  have d2 : ab.length ≤ 1000000 ∧ (crossL (rowK k t.length) t).length ≤ 1000000 := by omega
  ((with_reducible (refine mm_ld hM ?_; refine mm_purC hM ?_ ?_)); (focus (first | exact trivial | assumption | omega)); (with_reducible (clear hM; intro _ hM; refine mm_ld hM ?_; refine mm_purC hM ?_ ?_)); (focus (first | exact trivial | assumption | omega)); (with_reducible (clear hM; intro _ hM)))
  refine mop_cat _ _ (by rw [tagK_len]; omega) ?_
  exact ⟨rfl, hM.st⟩
theorem sealK_len (k : H32) (ab t : List Int) : (sealL rowK tagK k ab t).length = t.length + 16 := by
  unfold sealL
  rw [List.length_append, crossL_len (by rw [rowK_len]; omega), tagK_len]
theorem str_eq {a b : List Int} (ha : ∀ x ∈ a, 0 ≤ x ∧ x < 256) (hb : ∀ x ∈ b, 0 ≤ x ∧ x < 256) : strOfNums a = strOfNums b ↔ a = b := ⟨fun h => by rw [← ints_str a ha, ← ints_str b hb, h], fun h => by rw [h]⟩
theorem tagK_rng (k : H32) (a b : List Int) : ∀ x ∈ tagK k a b, 0 ≤ x ∧ x < 256 := fun x hx => (drv _ _ _).2.2 x (List.mem_of_mem_take hx)
theorem wrap_ok {ps : List (List Fd)} (pub once : H32) (ab t : List Int) (hl : ab.length ≤ 1000000) (ht : ∀ x ∈ t, 0 ≤ x ∧ x < 256) (hn : t.length ≤ 65536) (hs : Sl H 32 A ps) (hnp : n = ps.length) (hb : n ≤ 1000) (hf : Fz H w) : Calls Tryz.prog 48 #[.pointer none, ha pub, ha once, .string (strOfNums ab), .string (strOfNums t), .slice A n a] w fun en w' => en = .returned (.string (strOfNums (wrapL rowK tagK kemH pub once ab t))) ∧ St w [] w' := by
  have hM := Mem.start hf
  have h1 : (strOfNums t).size = t.length := strOfNums_size _
  refine C_prim_Wrap ?_
  have d1 : (∀ x ∈ once.1, 0 ≤ x ∧ x < 256) ∧ once.1.length ≤ 1000000 := ⟨once.2.2, by rw [once.2.1]; omega⟩
  unfold F_prim_Wrap
  ((with_reducible (refine mm_box hM ?_; clear hM; intro _ _ hM; refine mm_box hM ?_; clear hM; intro _ _ hM; refine mop_c trivial ?_; refine mop_cF trivial ?_ ?_)); (focus (first | assumption | omega | with_reducible rfl | exact fun h => Bool.noConfusion h)); (with_reducible (refine mif_false ?_)))
  rename_i g1 _ g2 _
  refine ⟨fun x w' => ∃ g3 : Nat, x = .pointer (some ⟨g3, 0, none⟩) ∧ Mem H w [fb g3 34 [.arr 32 (u8s (kemH pub once.1).1)], fb g2 34 [.arr 32 (u8s once.1)], fb g1 34 [.arr 32 (u8s pub.1)]] w', ?_, ?_⟩
  · repeat' apply And.intro
    all_goals
      (first | ((with_reducible (refine dm_ld hM ?_; refine dp_c trivial ?_; refine dm_cvb hM ?_; refine dm_purC hM ?_ (fun _ _ hM => ?_))); (focus (first | exact trivial | assumption | omega)); (with_reducible (refine dm_new hM ?_; clear hM; intro _ _ hM; refine dS_st hM ?_; clear hM; intro _ hM; refine mm_end hM ?_; clear hM; intro _ hM))) | ((with_reducible (refine dm_ld hM ?_; refine dp_c trivial ?_; refine dm_cvb hM ?_; refine dm_new hM ?_; clear hM; intro _ _ hM; refine dm_purC hM ?_ (fun _ _ hM => ?_))); (focus (first | exact trivial | assumption | omega)); (with_reducible (refine dS_st hM ?_; clear hM; intro _ hM; refine mm_end hM ?_; clear hM; intro _ hM))))
      exact ⟨_, rfl, hM.sub⟩
  clear hM
  rintro v u w2 ⟨g3, rfl, hM⟩
  refine ⟨fun w' => hM.now w', ?_, ?_⟩
  · repeat' apply And.intro
    all_goals
      (first | ((with_reducible (refine dm_ld hM ?_; refine dm_ld hM ?_; refine dm_purC hM ?_ (fun _ _ hM => ?_))); (focus (first | exact trivial | assumption | omega)); (with_reducible (refine dS_bsl hM ?_ ?_ ?_)); (focus rfl); (focus (constructor <;> simp)); (with_reducible (clear hM; intro _ _ hM; refine dS_bsl hM ?_ ?_ ?_)); (focus rfl); (focus (constructor <;> simp)); (with_reducible (clear hM; intro _ _ hM; refine dp_c trivial ?_; refine dm_purC hM ?_ (fun _ _ hM => ?_))); (focus (first | exact trivial | assumption | omega)); (with_reducible (refine mm_end hM ?_; clear hM; intro _ hM))) | ((with_reducible (refine dm_ld hM ?_; refine dm_ld hM ?_; refine dS_bsl hM ?_ ?_ (fun _ _ hM2 => ?_))); (focus rfl); (focus (constructor <;> simp)); (with_reducible (replace hM := hM2; clear hM2; refine dm_purC hM ?_ (fun _ _ hM => ?_))); (focus (first | exact trivial | assumption | omega)); (with_reducible (refine dS_bsl hM ?_ ?_ ?_)); (focus rfl); (focus (constructor <;> simp)); (with_reducible (clear hM; intro _ _ hM; refine dp_c trivial ?_; refine dm_purC hM ?_ (fun _ _ hM => ?_))); (focus (first | exact trivial | assumption | omega)); (with_reducible (refine mm_end hM ?_; clear hM; intro _ hM))))
      exact hM.sub
  rintro u w3 hM
  ((with_reducible (refine mm_ld hM ?_; refine mm_bsl hM ?_ ?_ ?_)); (focus rfl); (focus (constructor <;> simp)); (with_reducible (clear hM; intro _ _ hM; refine mm_ld hM ?_; refine mm_bsl hM ?_ ?_ ?_)); (focus rfl); (focus (constructor <;> simp)); (with_reducible (clear hM; intro _ _ hM; refine mop_c trivial ?_; refine mm_purC hM ?_ ?_)); (focus (first | exact trivial | assumption | omega)); (with_reducible (clear hM; intro _ hM; refine dp_c trivial ?_; refine dm_cvb hM ?_; refine dm_ld hM ?_)))
  refine dm_pure hM (fun w hM => seal_ok (kemH pub once.1) ab t hl ht hn hs hnp hb hM.fz) (fun w5 _ hM => ?_)
  refine dp_cat _ _ (by rw [sealK_len, once.2.1]; omega) ?_
  ((with_reducible (refine mm_end hM ?_; clear hM; intro _ hM)))
  exact ⟨rfl, hM.st⟩
def openE (k : H32) (ab s : List Int) : List Int × Int :=
  if s.length < 16 then ([], 2) else if 65552 < s.length then ([], 5) else if tagK k ab (s.take (s.length - 16)) = s.drop (s.length - 16) then (crossL (rowK k (s.length - 16)) (s.take (s.length - 16)), 0) else ([], 6)
theorem open_ok (k : H32) (ab s : List Int) (hl : ab.length ≤ 1000000) (hs : ∀ x ∈ s, 0 ≤ x ∧ x < 256) (hn : s.length ≤ 1000000) (w : World) : Calls Tryz.prog 135 #[ha k, .string (strOfNums ab), .string (strOfNums s)] w fun en w' => en = .returned (.tuple #[.string (strOfNums (openE k ab s).1), .int .i64 (openE k ab s).2]) ∧ St w [] w' := by
  have hM := Mem.start (Fz.of w)
  have h1 : (strOfNums s).size = s.length := strOfNums_size _
  refine C_prim_Open ?_
  unfold F_prim_Open
  ((with_reducible (refine mm_box hM ?_; clear hM; intro _ _ hM; refine mop_c trivial ?_; refine mop_c ?_ ?_)); (focus omega))
  rw [h1]
  ((with_reducible (refine mop_cS trivial ?_ ?_)))
  · intro c1
    ((with_reducible (refine mif_true ?_)))
    unfold openE
    rw [if_pos (by omega)]
    exact ⟨rfl, hM.st⟩
  intro c1
  ((with_reducible (refine mif_false ?_)))
  ((with_reducible (refine mop_cS trivial ?_ ?_)))
  · intro c2
    ((with_reducible (refine mif_true ?_)))
    unfold openE
    rw [if_neg (by omega), if_pos (by omega)]
    exact ⟨rfl, hM.st⟩
  intro c2
  have ht := take_rng (s.length - 16) hs
  have d1 : ab.length ≤ 1000000 ∧ (s.take (s.length - 16)).length ≤ 1000000 := ⟨hl, by rw [List.length_take]; omega⟩
  have d2 : (∀ x ∈ s.take (s.length - 16), 0 ≤ x ∧ x < 256) ∧ (s.take (s.length - 16)).length ≤ 65536 := ⟨ht, by rw [List.length_take]; omega⟩
  have e1 : ((s.length : Int) - 16).toNat = s.length - 16 := by omega
  ((with_reducible (refine mif_false ?_; refine dm_ld hM ?_; refine dp_c ?_ ?_)); (focus omega))
  rw [e1, ext_take s (by omega)]
  ((with_reducible (refine dm_purC hM ?_ (fun _ _ hM => ?_))); (focus (first | exact trivial | assumption | omega)); (with_reducible (refine dp_c ?_ ?_)); (focus omega))
  rw [e1, ext_drop]
  refine dp_c trivial ?_
  have heq := str_eq (tagK_rng k ab (s.take (s.length - 16))) (fun x hx => hs x (List.mem_of_mem_drop (i := s.length - 16) hx))
  unfold openE
  rw [if_neg (by omega), if_neg (by omega)]
  by_cases h : tagK k ab (s.take (s.length - 16)) = s.drop (s.length - 16)
  · rw [if_pos h, h, decide_eq_false (fun k => k rfl)]
    have d3 : (s.take (s.length - 16)).length = s.length - 16 := by rw [List.length_take]; omega
    ((with_reducible (refine mm_end hM ?_; clear hM; intro _ hM; refine mif_false ?_; refine dm_ld hM ?_; refine dp_c ?_ ?_)); (focus omega))
    rw [e1, ext_take s (by omega)]
    ((with_reducible (refine dm_purC hM ?_ (fun _ _ hM => ?_))); (focus (first | exact trivial | assumption | omega)); (with_reducible (refine mm_end hM ?_; clear hM; intro _ hM)))
    rw [d3]
    exact ⟨rfl, hM.st⟩
  · rw [if_neg h, decide_eq_true (show strOfNums (tagK k ab (s.take (s.length - 16))) ≠ strOfNums (s.drop (s.length - 16)) from fun k => h (heq.1 k))]
    ((with_reducible (refine mm_end hM ?_; clear hM; intro _ hM; refine mif_true ?_)))
    exact ⟨rfl, hM.st⟩
def unwrapE (priv : H32) (ab s : List Int) : List Int × Int := if s.length < 48 then ([], 2) else openE (kemH (pubH priv) (s.take 32)) ab (s.drop 32)
theorem openE_wrap (k : H32) (ab t : List Int) (ht : ∀ x ∈ t, 0 ≤ x ∧ x < 256) (hn : t.length ≤ 65536) : openE k ab (sealL rowK tagK k ab t) = (t, 0) := by
  have h := open_seal (row := rowK) (tag := tagK) rowK_len tagK_len (key := k) (about := ab) ht
  have hl := sealK_len k ab t
  unfold openL at h
  unfold openE
  rw [if_neg (by omega)] at h
  rw [if_neg (by omega), if_neg (by omega)]
  split at h
  · rename_i h2
    rw [if_pos h2, Option.some.inj h]
  · cases h
theorem unwrapE_wrap (priv once : H32) (ab t : List Int) (ht : ∀ x ∈ t, 0 ≤ x ∧ x < 256) (hn : t.length ≤ 65536) : unwrapE priv ab (wrapL rowK tagK kemH (pubH priv) once ab t) = (t, 0) := by
  unfold unwrapE wrapL
  rw [if_neg (by rw [List.length_append, once.2.1, sealK_len]; omega), List.take_left' once.2.1, List.drop_left' once.2.1]
  exact openE_wrap _ ab t ht hn
theorem unwrap_ok (k : H32) (ab s : List Int) (hl : ab.length ≤ 1000000) (hs : ∀ x ∈ s, 0 ≤ x ∧ x < 256) (hn : s.length ≤ 1000000) (w : World) : Calls Tryz.prog 103 #[ha k, .string (strOfNums ab), .string (strOfNums s)] w fun en w' => en = .returned (.tuple #[.string (strOfNums (unwrapE k ab s).1), .int .i64 (unwrapE k ab s).2]) ∧ St w [] w' := by
  have hM := Mem.start (Fz.of w)
  have h1 : (strOfNums s).size = s.length := strOfNums_size _
  refine C_prim_Unwrap ?_
  unfold F_prim_Unwrap
  ((with_reducible (refine mm_box hM ?_; clear hM; intro _ _ hM; refine mop_c trivial ?_)))
  rw [h1]
  ((with_reducible (refine mop_cS trivial ?_ ?_)))
  · intro c1
    ((with_reducible (refine mif_true ?_)))
    unfold unwrapE
    rw [if_pos (by omega)]
    exact ⟨rfl, hM.st⟩
  intro c1
  have t1 := take_rng 32 hs
  have d1 : (∀ x ∈ s.take 32, 0 ≤ x ∧ x < 256) ∧ (s.take 32).length ≤ 1000000 := ⟨t1, by rw [List.length_take]; omega⟩
  ((with_reducible (refine mif_false ?_; refine dm_ld hM ?_; refine dm_purC hM ?_ (fun _ _ hM => ?_))); (focus (first | exact trivial | assumption | omega)); (with_reducible (refine dp_c ?_ ?_)); (focus omega))
  rw [show Int.toNat 32 = 32 from rfl, ext_take s (by omega)]
  ((with_reducible (refine dm_purC hM ?_ (fun _ _ hM => ?_))); (focus (first | exact trivial | assumption | omega)); (with_reducible (refine dp_c ?_ ?_)); (focus omega))
  rw [show Int.toNat 32 = 32 from rfl, ext_drop]
  refine dm_pure hM (fun w hM => open_ok (kemH (pubH k) (s.take 32)) ab (s.drop 32) hl (fun x hx => hs x (List.mem_of_mem_drop hx)) (by rw [List.length_drop]; omega) w) (fun w5 _ hM => ?_)
  ((with_reducible (refine dp_c trivial ?_; refine dp_c trivial ?_; refine mm_end hM ?_; clear hM; intro _ hM)))
  unfold unwrapE
  rw [if_neg (by omega)]
  exact ⟨rfl, hM.st⟩
end
end Go.Proofs.YtpjodlnlmaaihaaGreat
namespace Go.Proofs.YtpjodlnlmaaihaaGreat
open Go.RowKit Go.Lib
structure Rg where
  pub : H32
  wraps : List (List Int)
abbrev Rg.row (r : Rg) (C : Option Addr) (c : Nat) : List Fd := [.arr 32 (u8s r.pub.1), .one (.slice C r.wraps.length c)]
abbrev strs (l : List (List Int)) : List (List Fd) := l.map fun s => [Fd.one (.string (strOfNums s))]
def RgF (H : Hp) (q : List Fd) (r : Rg) : Prop := ∃ C c, q = r.row C c ∧ Sl H 1 C (strs r.wraps) ∧ r.wraps.length ≤ 100000
theorem RgF.mono {H H' : Hp} {q : List Fd} {r : Rg} (h : RgF H q r) (k : H.le H') : RgF H' q r := by
  obtain ⟨C, c, h1, h2, h3⟩ := h
  exact ⟨C, c, h1, h2.mono k, h3⟩
structure Gw where
  tree : Tr
  rungs : List Rg
  secs : List H32
  keys : List Ky
  com : H32
def Gw.none : Gw := ⟨Tr.none, [], [], [], hzero⟩
abbrev gfd (A : Option Addr) (n a : Nat) (B : Option Addr) (m b : Nat) (R : Option Addr) (rn ra : Nat) (S : Option Addr) (sn sa : Nat) (K : Option Addr) (kn ka : Nat) (com : H32) : List Fd :=
  [.one (.slice A n a), .one (.slice B m b), .one (.slice R rn ra), .one (.slice S sn sa), .one (.slice K kn ka), .arr 32 (u8s com.1)]
def GwF (H : Hp) (v : Value) (g : Gw) : Prop := ∃ A a B b R ra S sa K ka qs, v = .agg (fl (gfd A g.tree.ls.length a B g.tree.ps.length b R g.rungs.length ra S g.secs.length sa K g.keys.length ka g.com)).toArray ∧
  TrF H (tv A g.tree.ls.length a B g.tree.ps.length b) g.tree ∧ Sl H 33 R qs ∧ All2 (RgF H) qs g.rungs ∧ Sl H 32 S (kfds g.secs) ∧ Sl H 33 K (g.keys.map Ky.fds)
theorem GwF.mono {H H' : Hp} {v : Value} {g : Gw} (h : GwF H v g) (k : H.le H') : GwF H' v g := by
  obtain ⟨A, a, B, b, R, ra, S, sa, K, ka, qs, h1, h2, h3, h4, h5, h6⟩ := h
  exact ⟨A, a, B, b, R, ra, S, sa, K, ka, qs, h1, h2.mono k, h3.mono k, h4.mono fun _ _ x => RgF.mono x k, h5.mono k, h6.mono k⟩
theorem TrF.none (H : Hp) : TrF H (tv .none 0 0 .none 0 0) Tr.none := ⟨⟨.none, 0, .none, 0, [], rfl, Sl.nil _ _ _, Sl.nil _ _ _, trivial⟩, by decide, by decide⟩
theorem GwF.none (H : Hp) : GwF H (.agg (fl (gfd .none 0 0 .none 0 0 .none 0 0 .none 0 0 .none 0 0 hzero)).toArray) Gw.none := ⟨.none, 0, .none, 0, .none, 0, .none, 0, .none, 0, [], rfl, TrF.none H, Sl.nil _ _ _, trivial, Sl.nil _ _ _, Sl.nil _ _ _⟩
abbrev sleafK : ByteArray := ByteArray.mk #[108, 101, 97, 102]
def leafS (once : H32) : H32 := drv once sleafK es0
def pubK (s : H32) (k : Nat) : H32 := pubH (drv (secK s k) bnode es0)
def pubsL (s : H32) (n : Nat) : List H32 := (List.range n).map (pubK s)
theorem pubsL_succ (s : H32) (n : Nat) : pubsL s (n + 1) = pubsL s n ++ [pubK s n] := by simp [pubsL, List.range_succ]
def wrapT (t : Tr) (once : H32) (about : List Int) (s : H32) (i j : Nat) (x : Int) : List Int := wrapL rowK tagK kemH (pubAt t x).1 (drv once swrap (strOfNums (numB i ++ numB j))) about s.1
def wrapsT (t : Tr) (once : H32) (about : List Int) (s : H32) (i : Nat) (side : List Int) (n : Nat) : List (List Int) := (List.range n).map fun j => wrapT t once about s i j (side.getD j 0)
theorem wrapsT_succ (t : Tr) (once : H32) (about : List Int) (s : H32) (i : Nat) (side : List Int) (n : Nat) : wrapsT t once about s i side (n + 1) = wrapsT t once about s i side n ++ [wrapT t once about s i n (side.getD n 0)] := by simp [wrapsT, List.range_succ]
theorem wrapsT_len (t : Tr) (once : H32) (about : List Int) (s : H32) (i : Nat) (side : List Int) (n : Nat) : (wrapsT t once about s i side n).length = n := by simp [wrapsT]
def rungK (t : Tr) (once : H32) (about : List Int) (s : H32) (side : List Int) (i : Nat) : Rg := ⟨pubK s (i + 1), wrapsT t once about (secK s (i + 1)) i side side.length⟩
def rungsK (t : Tr) (pl : Int) (way fresh : List Int) (once : H32) (about : List Int) (s : H32) (n : Nat) : List Rg := (List.range n).map fun i => rungK t once about s (sideK t pl way fresh i) i
theorem rungsK_succ (t : Tr) (pl : Int) (way fresh : List Int) (once : H32) (about : List Int) (s : H32) (n : Nat) : rungsK t pl way fresh once about s (n + 1) = rungsK t pl way fresh once about s n ++ [rungK t once about s (sideK t pl way fresh n) n] := by simp [rungsK, List.range_succ]
theorem rungsK_len (t : Tr) (pl : Int) (way fresh : List Int) (once : H32) (about : List Int) (s : H32) (n : Nat) : (rungsK t pl way fresh once about s n).length = n := by simp [rungsK]
def growG (t : Tr) (pl : Int) (once : H32) (about : List Int) (fresh : List Int) : Gw :=
  let way := dirL t.size pl
  let s := leafS once
  ⟨(t.pathP pl (pubK s 0) ((pubsL s (way.length + 1)).drop 1)).1, rungsK t pl way fresh once about s way.length, (secL s (way.length + 1)).drop 1, sortedK (keysL (2 * pl :: way) s (way.length + 1)), comS s (way.length + 1)⟩
def growT (t : Tr) (pl : Int) (once : H32) (about : List Int) (fresh : List Int) : Gw × Int :=
  if ¬ t.right = true then (Gw.none, 1) else if t.nobody pl then (Gw.none, 7) else if 65536 < about.length then (Gw.none, 5) else (growG t pl once about fresh, 0)
theorem resL_thr {t : Tr} (h : t.Rt) : ∀ (f : Nat) (x : Int), thr t.size x → ∀ y ∈ resL f t x, thr t.size y
  | 0, x, ht, y, hy => by
    unfold resL at hy
    split at hy
    · rw [List.mem_singleton.1 hy]
      exact ht
    · cases hy
  | f + 1, x, ht, y, hy => by
    unfold resL at hy
    by_cases he : x % 2 = 0
    · rw [if_pos he] at hy
      split at hy
      · rw [List.mem_singleton.1 hy]
        exact ht
      · cases hy
    · rw [if_neg he] at hy
      have hlen := h.len
      have hts : t.size = t.ls.length := rfl
      obtain ⟨k1, k2, k3⟩ := id ht
      have hix : (x / 2).toNat < t.ps.length := by omega
      obtain ⟨-, hd, -⟩ := h.parts.2 _ hix
      by_cases hs : (parAt t (x / 2)).set = true
      · rw [if_pos hs] at hy
        rcases List.mem_cons.1 hy with rfl | hy
        · exact ht
        · obtain ⟨p, hp, rfl⟩ := List.mem_map.1 hy
          rw [parAt_mem hix] at hp
          obtain ⟨a1, a2, -⟩ := hld_rng (hd p hp).1
          exact ⟨k1, by omega, by omega⟩
      · rw [if_neg hs] at hy
        obtain ⟨⟨t1, t2⟩, -⟩ := lr_eq ht (by omega)
        rcases List.mem_append.1 hy with hy | hy
        · exact resL_thr h f _ t1 y hy
        · exact resL_thr h f _ t2 y hy
theorem sideK_thr {t : Tr} (h : t.Rt) {pl : Int} {way fresh : List Int} {i : Nat} : ∀ y ∈ sideK t pl way fresh i, thr t.size y := fun y hy => by
  have hy := (List.mem_filter.1 hy).1
  unfold resT at hy
  split at hy
  · rename_i ht
    exact resL_thr h 8 _ ht y hy
  · cases hy
theorem way_mem {n pl : Int} (h : 0 ≤ pl ∧ pl < n ∧ n ≤ 64) {m : Nat} (hm : m < (dirL n pl).length) : 0 ≤ (dirL n pl)[m] ∧ (dirL n pl)[m] ≤ 126 := by
  have hd : dirL n pl = dirF 8 n (2 * pl) := if_pos ⟨h.1, h.2.1⟩
  have h1 := dirF_nth (n := n) 8 (2 * pl) m (by rw [← hd]; exact hm)
  have e : (dirL n pl)[m] = (dirF 8 n (2 * pl))[m]'(by rw [← hd]; exact hm) := by simp only [hd]
  rw [e]
  refine ⟨h1.2, ?_⟩
  have h2 := h1.1
  have h3 := h1.2
  rw [h2] at h3 ⊢
  have ht := ab_thr (ab_pos (Int.not_lt.2 h3)) (Int.not_lt.2 h3)
  obtain ⟨k1, k2, k3⟩ := ht
  omega
section
variable {H : Hp} {w0 w : World} {L R : List Res} {A B K F : Option Addr} {a b c n m kc fc : Nat} {t : Tr} {v : Value}
theorem cblank_ok (p : Int) (h : TrF H v t) (hf : Fz H w) : Calls Tryz.prog 44 #[v, .int .i64 p] w fun en w' => en = .returned (.bool (decide (t.nobody p))) ∧ St w [] w' := by
  obtain ⟨A, a, B, b, q, rfl, h1, -⟩ := h.ex
  have hM := Mem.start hf
  have hl' : t.ls.length ≤ 9223372036854775807 := h.len.1
  refine C_climb_blank ?_
  unfold F_climb_blank
  ((with_reducible (refine mm_box hM ?_; clear hM; intro _ _ hM)))
  ((with_reducible (refine mop_cS trivial ?_ ?_)))
  · intro h0
    ((with_reducible ((iterate 5 refine mguard_n1 ?_); refine mop_c trivial ?_; (iterate 7 refine mguard_n1 ?_); refine mop_c trivial ?_)))
    exact ⟨by rw [decide_eq_true (show t.nobody p from .inl (.inl h0))], hM.st⟩
  · intro h0
    ((with_reducible (refine mguard_yes ?_; refine mop_c trivial ?_; refine mguard_yes ?_; refine mop_c trivial ?_; refine mguard_yes ?_; refine mm_ld hM ?_; refine mguard_yes ?_; refine mop_c trivial ?_; refine mguard_yes ?_)))
    ((with_reducible (refine mop_cS trivial ?_ ?_)))
    · intro h2
      ((with_reducible (refine mop_c trivial ?_; (iterate 7 refine mguard_n1 ?_); refine mop_c trivial ?_)))
      exact ⟨by rw [decide_eq_true (show t.nobody p from .inl (.inr h2))], hM.st⟩
    · intro h2
      have h3 : p.toNat < t.ls.length := by omega
      have h4 := nameAt_at (ls := t.ls) (p := p) (by omega) h3
      ((with_reducible (refine mop_c trivial ?_; refine mguard_yes ?_; refine mop_c trivial ?_; refine mguard_yes ?_; refine mm_ld hM ?_; refine mguard_yes ?_; refine mop_c trivial ?_; refine mguard_yes ?_)); (with_reducible refine mm_ixs ‹_› ?_ ?_ ?_); (focus (simp only [List.length_map]; omega)); (focus (simp only [List.length_map]; first | done | omega)); (with_reducible (intro _ _ hA)); (cases hA); (with_reducible (refine mguard_yes ?_; refine mop_c trivial ?_; refine mguard_yes ?_)); (with_reducible refine mm_lds hM ‹_› (map_at ?_) ?_); (focus omega); (with_reducible (refine mguard_yes ?_)))
      rw [← h4]
      ((with_reducible (refine mop_cS trivial ?_ ?_)))
      · intro h5
        ((with_reducible (refine mop_c trivial ?_)))
        exact ⟨by rw [decide_eq_true (show t.nobody p from .inr h5)], hM.st⟩
      · intro h5
        ((with_reducible (refine mop_c trivial ?_)))
        exact ⟨by rw [decide_eq_false (show ¬ t.nobody p from fun k => k.elim (fun k => k.elim h0 h2) h5)], hM.st⟩
theorem sld_pur {P : Program} {n cap sz t : Nat} {ps : List (List Fd)} {kk : IntKind} {ll : Int} (a : Sl H sz A ps) [c : SliS P t sz] (hn : n = ps.length) (hl : 0 ≤ ll ∧ ll ≤ n) (hcap : n ≤ cap) : ∃ B, Sl H sz B (ps.drop ll.toNat) ∧ Pur P (o_slice t (.slice A n cap) (some (.int kk ll)) none none) (.slice B (n - ll.toNat) (cap - ll.toNat)) := by
  have h5 := fun w => run_slice_l (P := P) w t A n cap c.ok.1 kk ll hl.1 hl.2
  have h6 : ∀ w, (sizeOf (P.elem t)).run P w = .ok sz w := run_size c.ok.2
  cases A with
  | none =>
    have hp : ps = [] := by
      rcases a.at_ with h | ⟨b, o, c, h, _⟩
      · exact h
      · cases h
    subst hp
    refine ⟨none, by rw [List.drop_nil]; exact Sl.nil _ _ _, fun w => ?_⟩
    simp only [o_slice, sv, Sem.run_bind, run_sliceAt_slice w t _ _ _ _ c.ok.1, h5, h6, Result.andThen_ok, sliced]
    simp
  | some a0 =>
    by_cases hc : cap = ll.toNat
    · refine ⟨some a0, by rw [List.drop_eq_nil_of_le (by omega)]; exact Sl.nil _ _ _, fun w => ?_⟩
      simp only [o_slice, sv, Sem.run_bind, run_sliceAt_slice w t _ _ _ _ c.ok.1, h5, h6, Result.andThen_ok, sliced, if_pos hc]
      simp
    · by_cases hp : ps = []
      · subst hp
        refine ⟨some (a0.add (ll.toNat * sz)), by rw [List.drop_nil]; exact Sl.nil _ _ _, fun w => ?_⟩
        simp only [o_slice, sv, Sem.run_bind, run_sliceAt_slice w t _ _ _ _ c.ok.1, h5, h6, Result.andThen_ok, sliced, if_neg hc, Option.map_some]
        simp
      · obtain ⟨b, o, hA⟩ := a.some_ (List.length_pos_iff.2 hp)
        cases hA
        refine ⟨some ⟨b, o + ll.toNat * sz, none⟩, a.drop_ (by omega), fun w => ?_⟩
        simp only [o_slice, sv, Sem.run_bind, run_sliceAt_slice w t _ _ _ _ c.ok.1, h5, h6, Result.andThen_ok, sliced, if_neg hc, Option.map_some, Addr.add_lit]
        simp
theorem dp_sld {P : Program} {n cap sz : Nat} {t : TypeId} {ps : List (List Fd)} {Kq : Value → Prop} {kk : IntKind} {ll : Int} (a : Sl H sz A ps) [cc : SliS P t sz] (hn : n = ps.length) (hl : 0 ≤ ll ∧ ll ≤ n) (hcap : n ≤ cap) (hk : ∀ B, Sl H sz B (ps.drop ll.toNat) → Kq (.slice B (n - ll.toNat) (cap - ll.toNat))) : dp P (o_slice t (.slice A n cap) (some (.int kk ll)) none none) Kq := by
  obtain ⟨B, h1, h2⟩ := sld_pur (P := P) (t := t) (kk := kk) a hn hl hcap
  exact dp_pur h2 (hk B h1)
theorem dfz {P : Program} {s : Sem Next} {ext : Bool} {Q : Hp} {Kt : Value → World → Prop} (h : Mem H w0 L w) (hk : ∀ w1, Mem H w0 L w1 → mop P s w1 (fun v w' => Fz Q w' ∧ Kt v w') (fun _ _ => False)) : dfS P (Rl.fz Q) w s ext Kt :=
  ⟨fun w1 hd => mop_mono (hk w1 (h.drawn hd)) (fun _ _ x => ⟨fun _ _ => x.1, x.2⟩) fun _ _ h => h⟩
end
end Go.Proofs.YtpjodlnlmaaihaaGreat
namespace Go.Proofs.YtpjodlnlmaaihaaGreat
open Go.RowKit Go.Lib
section
variable {H : Hp} {w0 w : World} {L R : List Res} {A B K F : Option Addr} {a b c n m kc fc : Nat} {t : Tr} {v : Value}
theorem grow_ok (pl : Int) (once : H32) (about fresh : List Int) (hpl : -1000000 ≤ pl ∧ pl ≤ 1000000) (hal : about.length ≤ 100000000) (hl : fresh.length ≤ maxLen) (h : TrF H v t) (hfr : Sl H 1 F (ints8 fresh)) (hf : Fz H w) :
    Calls Tryz.prog 16 #[.pointer none, v, .int .i64 pl, ha once, .string (strOfNums about), .slice F fresh.length fc] w (Outp H w fun H' r => ∃ gv, r = .tuple #[gv, .int .i64 (growT t pl once about fresh).2] ∧ GwF H' gv (growT t pl once about fresh).1) := by
  have hx := h.ex
  obtain ⟨TA, ta, TB, tb, tq, rfl, -⟩ := hx
  obtain ⟨w1, hw1⟩ : ∃ w1, w1 = w := ⟨_, rfl⟩
  rw [← hw1]
  rw [← hw1] at hf
  have hM := Mem.start hf
  have hab : (strOfNums about).size = about.length := strOfNums_size _
  refine C_climb_Grow ?_
  unfold F_climb_Grow
  ((with_reducible (refine mm_box hM ?_; clear hM; intro _ _ hM; refine mm_box hM ?_; clear hM; intro _ _ hM; refine mm_new hM ?_; clear hM; intro _ _ hM; refine mm_ld hM ?_)))
  rename_i gt _ go _ g12 _
  refine mm_pure hM (right_c h hM.fz) (fun w hM2 => ?_)
  replace hM := hM2
  clear hM2
  unfold growT
  cases hr : t.right
  · ((with_reducible (refine mop_c trivial ?_; refine mif_true ?_; refine mop_c trivial ?_; refine mm_st hM ?_; clear hM; intro _ hM; refine rm_ld hM ?_)))
    exact hM.out (Le.refl _ _) ⟨_, rfl, GwF.none _⟩
  rw [if_neg (by simp)]
  have hR := Tr.rt.1 hr
  have hlen := hR.len
  have hts : t.size = t.ls.length := rfl
  have hdl := dirL_len t.size pl
  ((with_reducible (refine mop_c trivial ?_; refine mif_false ?_; refine mm_ld hM ?_)))
  refine mm_pure hM (cblank_ok pl h hM.fz) (fun w hM2 => ?_)
  replace hM := hM2
  clear hM2
  by_cases hnb : t.nobody pl
  · rw [decide_eq_true hnb]
    ((with_reducible (refine mif_true ?_; refine mop_c trivial ?_; refine mm_st hM ?_; clear hM; intro _ hM; refine rm_ld hM ?_)))
    exact hM.out (Le.refl _ _) ⟨_, by rw [if_pos hnb], by rw [if_pos hnb]; exact GwF.none _⟩
  rw [decide_eq_false hnb, if_neg hnb]
  obtain ⟨b0, b1, b2⟩ := Tr.body hnb
  ((with_reducible (refine mif_false ?_; refine mop_c trivial ?_)))
  ((with_reducible (refine mop_cS trivial ?_ ?_)))
  · intro hgt
    ((with_reducible (refine mif_true ?_; refine mop_c trivial ?_; refine mm_st hM ?_; clear hM; intro _ hM; refine rm_ld hM ?_)))
    exact hM.out (Le.refl _ _) ⟨_, by rw [if_pos (by omega)], by rw [if_pos (by omega)]; exact GwF.none _⟩
  intro hgt
  rw [if_neg (by omega)]
  ((with_reducible (refine mif_false ?_; refine mop_c trivial ?_; refine mm_ld hM ?_; refine mop_c trivial ?_)))
  refine mm_call hM (bdirect_ok t.size pl (by omega) hM.fz) ?_
  clear hM
  rintro H2 r w2 l2 hM ⟨WA, wc, rfl, hW⟩
  have hgw : growG t pl once about fresh = ⟨(t.pathP pl (pubK (leafS once) 0) ((pubsL (leafS once) ((dirL t.size pl).length + 1)).drop 1)).1, rungsK t pl (dirL t.size pl) fresh once about (leafS once) (dirL t.size pl).length, (secL (leafS once) ((dirL t.size pl).length + 1)).drop 1, sortedK (keysL (2 * pl :: dirL t.size pl) (leafS once) ((dirL t.size pl).length + 1)), comS (leafS once) ((dirL t.size pl).length + 1)⟩ := rfl
  rw [hgw]
  clear hgw
  replace hM : Mem H2 w1 (fb go 34 [.arr 32 (u8s once.1)] :: [fb gt 25 (tfd TA t.ls.length ta TB t.ps.length tb), fb g12 56 (gfd none 0 0 none 0 0 none 0 0 none 0 0 none 0 0 hzero)]) _ := hM.sub
  obtain ⟨H3, l3, hM3, hgo⟩ := hM.fzb
  clear hM
  have hM := hM3
  clear hM3
  have hs3 := hW.mono l3.le
  have d1 : sleafK.size ≤ 1000000 ∧ es0.size ≤ 1000000 := by decide
  have hwr : ∀ x ∈ 2 * pl :: dirL t.size pl, 0 ≤ x ∧ x ≤ 1000 := fun x hx => by
    rcases List.mem_cons.1 hx with rfl | hx
    · omega
    · obtain ⟨m, hm, rfl⟩ := List.getElem_of_mem hx
      have := way_mem ⟨b0, by omega⟩ hm
      omega
  skip
  refine ⟨fun v1 v2 v3 w' => ∃ (K1 : Option Addr) (c1 : Nat) (K2 : Option Addr) (c2 g17 : Nat), v1 = .slice K1 ((dirL t.size pl).length + 1) c1 ∧ v2 = .slice K2 ((dirL t.size pl).length + 1) c2 ∧ v3 = .pointer (some ⟨g17, 0, none⟩) ∧ Mem H3 w1 [rowR 34 32 K1 ((dirL t.size pl).length + 1) c1 (kfds (secL (leafS once) ((dirL t.size pl).length + 1))), rowR 43 33 K2 ((dirL t.size pl).length + 1) c2 ((keysL (2 * pl :: dirL t.size pl) (leafS once) ((dirL t.size pl).length + 1)).map Ky.fds), fb g17 34 [.arr 32 (u8s (comS (leafS once) ((dirL t.size pl).length + 1)).1)], fb gt 25 (tfd TA t.ls.length ta TB t.ps.length tb), fb g12 56 (gfd none 0 0 none 0 0 none 0 0 none 0 0 none 0 0 hzero)] w', ?_, ?_⟩
  · refine ⟨Rl.fz H3, ?_⟩
    have hF := hM.fz
    repeat' apply And.intro
    all_goals
      ((with_reducible (refine dp_c ?_ ?_)); (focus omega); (with_reducible refine dK_ldf ‹_› ‹_› ?_))
      repeat (first
        | (refine dfz hM (fun w hM => ?_)
           with_reducible show mop _ (o_builtin .append _ _ _ _) _ _ _
           refine mm_apps hM hs3 (ints8_length _).symm ?_ ?_
           focus (constructor <;> omega)
           clear hM
           intro A' c' w' hM
           rw [Nat.add_comm 1] at hM ⊢
           refine ⟨hM.fz, ?_⟩
           skip)
        | (refine dfz hM (fun w hM => ?_)
           with_reducible show mop _ (o_call (fv 45) _) _ _ _
           refine mm_own (up_ok (2 * pl :: dirL t.size pl) (leafS once) (by simp only [List.length_cons]; omega) hwr (hM.reads (A := A')) hM) ?_
           clear hM
           rintro r w' ⟨K1, c1, K2, c2, rfl, hM⟩
           refine ⟨hM.fz, ?_⟩
           (first | ((with_reducible ((iterate 3 refine dp_c trivial ?_); refine dS_st hM ?_; clear hM; intro _ hM; refine mm_end hM ?_; clear hM; intro _ hM))) | ((with_reducible ((iterate 3 refine dp_c trivial ?_))))))
        | (refine dfz hM (fun w hM => ?_)
           (first | ((with_reducible (refine mm_bsl hM ?_ ?_ ?_)); (focus rfl); (focus (constructor <;> simp)); (with_reducible (clear hM; intro _ _ hM))) | ((with_reducible (refine mm_purC hM ?_ ?_)); (focus (first | exact trivial | assumption | omega)); (with_reducible (clear hM; intro _ hM))) | ((with_reducible (refine mm_new hM ?_; clear hM; intro _ _ hM))))
           refine ⟨hM.fz, ?_⟩
           (first | ((with_reducible (refine dS_st hM ?_; clear hM; intro _ hM; refine mm_end hM ?_; clear hM; intro _ hM))) | skip)))
      exact ⟨_, _, _, _, _, rfl, rfl, rfl, hM.sub⟩
  clear hM
  rintro v1 v2 v3 u3 w3 ⟨K1, c1, K2, c2, g17, rfl, rfl, rfl, hM⟩
  have hcap1 := (Mem.rowLen hM ⟨.refl _⟩).2.1
  obtain ⟨H4, l4, hM4, hK1', -⟩ := hM.fz0
  obtain ⟨H5, l5, hM5, hK2, -⟩ := hM4.fz0
  have hK1 := hK1'.mono l5.le
  clear hM hM4 hK1'
  have hM := hM5
  clear hM5
  have hkn : (keysL (2 * pl :: dirL t.size pl) (leafS once) ((dirL t.size pl).length + 1)).length = (dirL t.size pl).length + 1 := keysL_len _ _ _
  ((with_reducible (refine mm_new hM ?_; clear hM; intro _ _ hM; refine mop_c trivial ?_)))
  rename_i g18 _
  have hM9 : Mem H5 w1 [rowR 34 32 none 0 0 (kfds (pubsL (leafS once) 0)), fb g18 56 (gfd none 0 0 none 0 0 none 0 0 none 0 0 none 0 0 hzero), fb g17 34 [.arr 32 (u8s (comS (leafS once) ((dirL t.size pl).length + 1)).1)], fb gt 25 (tfd TA t.ls.length ta TB t.ps.length tb), fb g12 56 (gfd none 0 0 none 0 0 none 0 0 none 0 0 none 0 0 hzero)] _ := hM.row0 34 32
  refine ⟨fun v1 v2 w' => ∃ (i : Nat) (K3 : Option Addr) (c3 : Nat), v1 = .slice K3 i c3 ∧ v2 = .int .i64 i ∧ i ≤ (dirL t.size pl).length + 1 ∧ Mem H5 w1 [rowR 34 32 K3 i c3 (kfds (pubsL (leafS once) i)), fb g18 56 (gfd none 0 0 none 0 0 none 0 0 none 0 0 none 0 0 hzero), fb g17 34 [.arr 32 (u8s (comS (leafS once) ((dirL t.size pl).length + 1)).1)], fb gt 25 (tfd TA t.ls.length ta TB t.ps.length tb), fb g12 56 (gfd none 0 0 none 0 0 none 0 0 none 0 0 none 0 0 hzero)] w', fun _ v _ => match v with | .int _ k => (dirL t.size pl).length + 1 - k.toNat | _ => 0, ⟨0, none, 0, rfl, rfl, by omega, hM9⟩, ?_⟩
  clear hM hM9
  rintro v1 v2 u4 w4 ⟨i, K3, c3, rfl, rfl, hi, hM⟩
  skip
  ((with_reducible (refine mop_cS trivial ?_ ?_)))
  · intro hlt
    have hik : i < (keysL (2 * pl :: dirL t.size pl) (leafS once) ((dirL t.size pl).length + 1)).length := by omega
    have hke : (keysL (2 * pl :: dirL t.size pl) (leafS once) ((dirL t.size pl).length + 1))[i] = keyK (2 * pl :: dirL t.size pl) (leafS once) i := by simp [keysL]
    have hpv : (keysL (2 * pl :: dirL t.size pl) (leafS once) ((dirL t.size pl).length + 1))[i].priv = drv (secK (leafS once) i) bnode es0 := by
      rw [hke]
      unfold keyK
      have hmem : (2 * pl :: dirL t.size pl).getD i 0 ∈ 2 * pl :: dirL t.size pl := by
        rw [List.getD_eq_getElem?_getD, List.getElem?_eq_getElem (by simp only [List.length_cons]; omega)]
        exact List.getElem_mem _
      rw [mkKy_eq (hwr _ hmem)]
    ((with_reducible (refine mif_true ?_)); (with_reducible refine mm_ixs ‹_› ?_ ?_ ?_); (focus (simp only [List.length_map]; omega)); (focus (simp only [List.length_map]; first | done | omega)); (with_reducible (intro _ _ hA)); (cases hA); (with_reducible refine mm_lds0 hM ‹_› (map_atI ?_) ?_); (focus omega); (with_reducible (refine mm_new hM ?_; clear hM; intro _ _ hM; refine mm_st hM ?_; clear hM; intro _ hM; refine mop_c trivial ?_; refine mm_ld hM ?_; refine mm_purC hM ?_ ?_)); (focus (first | exact trivial | assumption | omega)); (with_reducible (clear hM; intro _ hM; refine mm_bsl hM ?_ ?_ ?_)); (focus rfl); (focus (constructor <;> simp)); (with_reducible (clear hM; intro _ _ hM; refine mm_appo hM ?_ ?_)); (focus omega); (with_reducible (clear hM; intro _ _ _ hM; refine mop_c ?_ ?_)); (focus omega))
    rename_i A3 c3' _
    rw [hpv] at hM
    have e1 : kfds (pubsL (leafS once) i) ++ [[.arr 32 (u8s (pubH (drv (secK (leafS once) i) bnode es0)).1)]] = kfds (pubsL (leafS once) (i + 1)) := by
      rw [pubsL_succ, kfds_app]
      rfl
    rw [e1] at hM
    exact ⟨⟨i + 1, A3, c3', rfl, by rw [Value.int.injEq]; refine ⟨rfl, ?_⟩; push_cast; rfl, by omega, hM.sub⟩, by simp only; omega⟩
  intro hge
  obtain rfl : i = (dirL t.size pl).length + 1 := by omega
  have hcap3 := (Mem.rowLen hM ⟨.refl _⟩).2.1
  obtain ⟨H6, l6, hM6, hK3, -⟩ := hM.fz0
  clear hM
  have hM := hM6
  clear hM6
  have h6 := h.mono (l2.trans (l3.trans (l4.trans (l5.trans l6)))).le
  have hfr6 := hfr.mono (l2.trans (l3.trans (l4.trans (l5.trans l6)))).le
  have hW6 := hs3.mono (l4.trans (l5.trans l6)).le
  replace hK1 := hK1.mono l6.le
  replace hK2 := hK2.mono l6.le
  ((with_reducible (refine mif_false ?_; refine mm_ld hM ?_)))
  refine mm_call hM (beside_ok pl fresh hl ⟨b0, by omega⟩ hR h6 hW6 hfr6 hM.fz) ?_
  clear hM
  rintro H7 r w7 l7 hM ⟨SA, sc, qs, rfl, hS, hSA⟩
  have hsl : qs.length = (dirL t.size pl).length := by
    have := hSA.len
    rw [this]
    simp [sidesK]
  replace hK1 := hK1.mono l7.le
  replace hK2 := hK2.mono l7.le
  replace hK3 := hK3.mono l7.le
  ((with_reducible (refine mop_c trivial ?_)))
  have hgo7 := hgo.mono (l4.trans (l5.trans (l6.trans l7))).le
  have hle7 := l2.trans (l3.trans (l4.trans (l5.trans (l6.trans l7))))
  have hM9 : Mem H7 w1 [fb g18 56 (gfd none 0 0 none 0 0 none 0 0 none 0 0 none 0 0 hzero), rowR 72 33 none 0 0 [], fb g17 34 [.arr 32 (u8s (comS (leafS once) ((dirL t.size pl).length + 1)).1)], fb gt 25 (tfd TA t.ls.length ta TB t.ps.length tb), fb g12 56 (gfd none 0 0 none 0 0 none 0 0 none 0 0 none 0 0 hzero)] _ := (hM.row0 72 33).sub
  refine ⟨fun v1 w' => ∃ (i : Nat) (H8 : Hp) (RA : Option Addr) (rc : Nat) (rs : List (List Fd)), v1 = .int .i64 i ∧ i ≤ (dirL t.size pl).length ∧ rs.length = i ∧ Le w1 H7 H8 ∧ All2 (RgF H8) rs (rungsK t pl (dirL t.size pl) fresh once about (leafS once) i) ∧ Mem H8 w1 [fb g18 56 (gfd none 0 0 none 0 0 RA i rc none 0 0 none 0 0 hzero), rowR 72 33 RA i rc rs, fb g17 34 [.arr 32 (u8s (comS (leafS once) ((dirL t.size pl).length + 1)).1)], fb gt 25 (tfd TA t.ls.length ta TB t.ps.length tb), fb g12 56 (gfd none 0 0 none 0 0 none 0 0 none 0 0 none 0 0 hzero)] w', fun v _ => match v with | .int _ k => (dirL t.size pl).length - k.toNat | _ => 0, ⟨0, H7, none, 0, [], rfl, by omega, rfl, Le.refl _ _, trivial, hM9⟩, ?_⟩
  clear hM hM9
  rintro v1 u8 w8 ⟨i, H8, RA, rc, rs, rfl, hi, hrs, l8, hrg, hM⟩
  have hS8 := hS.mono l8.le
  have hK18 := hK1.mono l8.le
  have hK28 := hK2.mono l8.le
  have hK38 := hK3.mono l8.le
  have hgo8 := hgo7.mono l8.le
  have h8 := h.mono (hle7.trans l8).le
  skip
  ((with_reducible (refine mop_cS trivial ?_ ?_)))
  · intro hlt
    have hit : i < (dirL t.size pl).length := by omega
    have hpn0 : (pubsL (leafS once) ((dirL t.size pl).length + 1)).length = (dirL t.size pl).length + 1 := by simp [pubsL]
    have hsn0 : (secL (leafS once) ((dirL t.size pl).length + 1)).length = (dirL t.size pl).length + 1 := secL_len _ _
    have hpe : (pubsL (leafS once) ((dirL t.size pl).length + 1))[i + 1]'(by omega) = pubK (leafS once) (i + 1) := by simp [pubsL]
    have hsc : (secL (leafS once) ((dirL t.size pl).length + 1))[i + 1]'(by omega) = secK (leafS once) (i + 1) := by simp [secL]
    have hpn : i + 1 < (pubsL (leafS once) ((dirL t.size pl).length + 1)).length := by simp [pubsL]; omega
    have hsn : i + 1 < (secL (leafS once) ((dirL t.size pl).length + 1)).length := by rw [secL_len]; omega
    have hqp : (kfds (pubsL (leafS once) ((dirL t.size pl).length + 1)))[((i : Int) + 1).toNat]? = some [.arr 32 (u8s (pubK (leafS once) (i + 1)).1)] := by
      rw [show ((i : Int) + 1).toNat = i + 1 by omega, List.getElem?_map, List.getElem?_eq_getElem hpn]
      simp [pubsL]
    have hqs : (kfds (secL (leafS once) ((dirL t.size pl).length + 1)))[((i : Int) + 1).toNat]? = some [.arr 32 (u8s (secK (leafS once) (i + 1)).1)] := by
      rw [show ((i : Int) + 1).toNat = i + 1 by omega, List.getElem?_map, List.getElem?_eq_getElem hsn]
      simp [secL]
    obtain ⟨q, hq1, SC, scc, rfl, hSC, hscl⟩ := hSA.at_ (i := i) (by simp [sidesK]; omega)
    have hse : (sidesK t pl (dirL t.size pl) fresh (dirL t.size pl).length)[i]'(by simp [sidesK]; omega) = sideK t pl (dirL t.size pl) fresh i := by simp [sidesK]
    rw [hse] at hq1 hSC hscl
    have hSC8 := hSC.mono l8.le
    have hthr := sideK_thr hR (pl := pl) (way := dirL t.size pl) (fresh := fresh) (i := i)
    have hq1' : qs[((i : Int)).toNat]? = some [.one (.slice SC (sideK t pl (dirL t.size pl) fresh i).length scc)] := hq1
    ((with_reducible (refine mif_true ?_)))
    refine mm_ixs hS8 (by omega) hsl.symm (fun bb oo hB => ?_)
    cases hB
    refine mm_lds0 hM hS8 hq1' ?_
    ((with_reducible (refine mop_c ?_ ?_)); (focus omega); (with_reducible refine mm_ixs ‹_› ?_ ?_ ?_); (focus (simp only [List.length_map]; omega)); (focus (simp only [List.length_map]; first | done | omega)); (with_reducible (intro _ _ hA)); (cases hA); (with_reducible refine mm_lds0 hM ‹_› (map_atI ?_) ?_); (focus omega); (with_reducible (refine mop_c trivial ?_; refine mm_new hM ?_; clear hM; intro _ _ hM; refine mm_st hM ?_; clear hM; intro _ hM; refine mop_c trivial ?_)))
    rename_i g24 _ _
    rw [hpe] at hM
    have hM9 : Mem H8 w1 [fb g24 72 [.arr 32 (u8s (pubK (leafS once) (i + 1)).1), .one (.slice none 0 0)], rowR 9 1 none 0 0 [], fb g18 56 (gfd none 0 0 none 0 0 RA i rc none 0 0 none 0 0 hzero), rowR 72 33 RA i rc rs, fb g17 34 [.arr 32 (u8s (comS (leafS once) ((dirL t.size pl).length + 1)).1)], fb gt 25 (tfd TA t.ls.length ta TB t.ps.length tb), fb g12 56 (gfd none 0 0 none 0 0 none 0 0 none 0 0 none 0 0 hzero)] _ := (hM.row0 9 1).sub
    refine ⟨fun v1 w' => ∃ (j : Nat) (WB : Option Addr) (wb : Nat), v1 = .int .i64 j ∧ j ≤ (sideK t pl (dirL t.size pl) fresh i).length ∧ Mem H8 w1 [fb g24 72 [.arr 32 (u8s (pubK (leafS once) (i + 1)).1), .one (.slice WB j wb)], rowR 9 1 WB j wb (strs (wrapsT t once about (secK (leafS once) (i + 1)) i (sideK t pl (dirL t.size pl) fresh i) j)), fb g18 56 (gfd none 0 0 none 0 0 RA i rc none 0 0 none 0 0 hzero), rowR 72 33 RA i rc rs, fb g17 34 [.arr 32 (u8s (comS (leafS once) ((dirL t.size pl).length + 1)).1)], fb gt 25 (tfd TA t.ls.length ta TB t.ps.length tb), fb g12 56 (gfd none 0 0 none 0 0 none 0 0 none 0 0 none 0 0 hzero)] w', fun v _ => match v with | .int _ k => (sideK t pl (dirL t.size pl) fresh i).length - k.toNat | _ => 0, ⟨0, none, 0, rfl, by omega, hM9⟩, ?_⟩
    clear hM hM9
    rintro v1 u9 w9 ⟨j, WB, wb, rfl, hj, hM⟩
    skip
    ((with_reducible (refine mop_cS trivial ?_ ?_)))
    · intro hltj
      have hjt : j < (sideK t pl (dirL t.size pl) fresh i).length := by omega
      obtain ⟨x, hx⟩ : ∃ x, (sideK t pl (dirL t.size pl) fresh i)[j] = x := ⟨_, rfl⟩
      have hxt := hthr x (hx ▸ List.getElem_mem hjt)
      obtain ⟨x1, x2, x3⟩ := id hxt
      have hqx : (ints8 (sideK t pl (dirL t.size pl) fresh i))[((j : Int)).toNat]? = some [.one (.int .i64 x)] := by
        rw [Int.toNat_natCast, ints8_at hjt, hx]
      have hgd : (sideK t pl (dirL t.size pl) fresh i).getD j 0 = x := by
        rw [List.getD_eq_getElem?_getD, List.getElem?_eq_getElem hjt, hx]
        rfl
      ((with_reducible (refine mif_true ?_)))
      refine ⟨fun w' => ∃ (WB : Option Addr) (wb : Nat), Mem H8 w1 [fb g24 72 [.arr 32 (u8s (pubK (leafS once) (i + 1)).1), .one (.slice WB (j + 1) wb)], rowR 9 1 WB (j + 1) wb (strs (wrapsT t once about (secK (leafS once) (i + 1)) i (sideK t pl (dirL t.size pl) fresh i) (j + 1))), fb g18 56 (gfd none 0 0 none 0 0 RA i rc none 0 0 none 0 0 hzero), rowR 72 33 RA i rc rs, fb g17 34 [.arr 32 (u8s (comS (leafS once) ((dirL t.size pl).length + 1)).1)], fb gt 25 (tfd TA t.ls.length ta TB t.ps.length tb), fb g12 56 (gfd none 0 0 none 0 0 none 0 0 none 0 0 none 0 0 hzero)] w', ?_, ?_⟩
      · have h8l := ints8_length (sideK t pl (dirL t.size pl) fresh i)
        refine mm_ixs hSC8 (by omega) (ints8_length _).symm (fun bb oo hB => ?_)
        cases hB
        refine mm_lds0 hM hSC8 hqx ?_
        ((with_reducible (refine mm_ld hM ?_)))
        refine mm_pure hM (cpub_ok x ⟨x2, x3⟩ hR h8 hM.fz) (fun w hM2 => ?_)
        replace hM := hM2
        clear hM2
        ((with_reducible (refine mop_c trivial ?_; refine mop_c trivial ?_; refine mm_new hM ?_; clear hM; intro _ _ hM; refine mm_st hM ?_; clear hM; intro _ hM; refine mop_c ?_ ?_)); (focus omega); (with_reducible refine mm_ixs ‹_› ?_ ?_ ?_); (focus (simp only [List.length_map]; omega)); (focus (simp only [List.length_map]; first | done | omega)); (with_reducible (intro _ _ hA)); (cases hA); (with_reducible refine mm_lds0 hM ‹_› (map_atI ?_) ?_); (focus omega); (with_reducible (refine mm_new hM ?_; clear hM; intro _ _ hM; refine mm_st hM ?_; clear hM; intro _ hM)))
        rename_i gp _ _ _ _ gs _ _
        rw [hsc] at hM
        have d9 : swrap.size ≤ 1000000 ∧ (strOfNums (numB i ++ numB j)).size ≤ 1000000 := by
          have a1 := numB_length i
          have a2 := numB_length j
          rw [strOfNums_size, List.length_append]
          exact ⟨by decide, by omega⟩
        have hnr : ∀ y ∈ [(i : Int), (j : Int)], 0 ≤ y ∧ y ≤ 4611686018427387903 := by
          intro y hy
          simp only [List.mem_cons, List.not_mem_nil, or_false] at hy
          rcases hy with rfl | rfl <;> omega
        have hnf : [(i : Int), (j : Int)].flatMap numB = numB i ++ numB j := by simp
        have hw1 : wrapT t once about (secK (leafS once) (i + 1)) i j ((sideK t pl (dirL t.size pl) fresh i).getD j 0) = wrapL rowK tagK kemH (pubAt t x).1 (drv once swrap (strOfNums (numB i ++ numB j))) about (secK (leafS once) (i + 1)).1 := by rw [hgd]; rfl
        have hstr : strs (wrapsT t once about (secK (leafS once) (i + 1)) i (sideK t pl (dirL t.size pl) fresh i) j) ++ [[.one (.string (strOfNums (wrapL rowK tagK kemH (pubAt t x).1 (drv once swrap (strOfNums (numB i ++ numB j))) about (secK (leafS once) (i + 1)).1)))]] = strs (wrapsT t once about (secK (leafS once) (i + 1)) i (sideK t pl (dirL t.size pl) fresh i) (j + 1)) := by
          rw [wrapsT_succ, hw1]
          simp [strs]
        repeat' apply And.intro
        all_goals
          (first | ((with_reducible (refine dp_c trivial ?_; refine dm_ld hM ?_; refine dm_ld hM ?_)); (with_reducible refine dm_ldf hM ‹_› ?_); (with_reducible (refine dp_c trivial ?_; refine dm_cvb hM ?_; refine dm_ld hM ?_; refine dS_bsl hM ?_ ?_ ?_)); (focus rfl); (focus (constructor <;> simp)); (with_reducible (clear hM; intro _ _ hM; refine dS_bsl hM ?_ ?_ ?_)); (focus rfl); (focus (constructor <;> simp)); (with_reducible (clear hM; intro _ _ hM))) | ((with_reducible (refine dp_c trivial ?_; refine dm_ld hM ?_; refine dm_ld hM ?_)); (with_reducible refine dm_ldf hM ‹_› ?_); (with_reducible (refine dp_c trivial ?_; refine dm_cvb hM ?_; refine dm_ld hM ?_; refine dS_bsl hM ?_ ?_ ?_)); (focus rfl); (focus (constructor <;> simp)); (with_reducible (clear hM; intro _ _ hM))))
          repeat (first
            | (with_reducible show df _ _ (o_call (fv 49) _) _ _
               refine dm_pure hM (fun w hM => num_ok [(i : Int), (j : Int)] (by simp) hnr (by exact hM.reads) (Fz.of w)) (fun w5 _ hM2 => ?_)
               replace hM := hM2
               clear hM2
               rw [hnf]
               (first | ((with_reducible (refine dm_purC hM ?_ (fun _ _ hM => ?_))); (focus (first | exact trivial | assumption | omega)); (with_reducible (refine dS_bsl hM ?_ ?_ ?_)); (focus rfl); (focus (constructor <;> simp)); (with_reducible (clear hM; intro _ _ hM))) | ((with_reducible (refine dS_bsl hM ?_ ?_ ?_)); (focus rfl); (focus (constructor <;> simp)); (with_reducible (clear hM; intro _ _ hM; refine dm_purC hM ?_ (fun _ _ hM => ?_))); (focus (first | exact trivial | assumption | omega))) | ((with_reducible (refine dm_purC hM ?_ (fun _ _ hM => ?_))); (focus (first | exact trivial | assumption | omega)))))
            | (with_reducible show df _ _ (o_call (fv 48) _) _ _
               refine dm_pure hM (fun w hM => wrap_ok (pubAt t x).1 (drv once swrap (strOfNums (numB i ++ numB j))) about (secK (leafS once) (i + 1)).1 (by omega) (secK (leafS once) (i + 1)).2.2 (by rw [(secK (leafS once) (i + 1)).2.1]; omega) (by exact hM.reads) (by rfl) (by decide) (Fz.of w)) (fun w5 _ hM2 => ?_)
               replace hM := hM2
               clear hM2
               ((with_reducible (refine dS_bsl hM ?_ ?_ ?_)); (focus rfl); (focus (constructor <;> simp)); (with_reducible (clear hM; intro _ _ hM; refine dS_appF hM ?_ ?_)); (focus omega); (with_reducible (clear hM; intro _ _ _ hM; refine dp_c trivial ?_; refine dS_st hM ?_; clear hM; intro _ hM; refine mm_end hM ?_; clear hM; intro _ hM)))))
          rename_i A9 c9 _ _ _
          exact ⟨A9, c9, by rw [← hstr]; exact hM.sub⟩
      clear hM
      rintro u10 w10 ⟨WB2, wb2, hM⟩
      ((with_reducible (refine mop_c ?_ ?_)); (focus omega))
      exact ⟨⟨j + 1, WB2, wb2, by rw [Value.int.injEq]; refine ⟨rfl, ?_⟩; push_cast; rfl, by omega, hM⟩, by simp only; omega⟩
    · intro hgej
      obtain rfl : j = (sideK t pl (dirL t.size pl) fresh i).length := by omega
      have hM9 : Mem H8 w1 (rowR 9 1 WB (sideK t pl (dirL t.size pl) fresh i).length wb (strs (wrapsT t once about (secK (leafS once) (i + 1)) i (sideK t pl (dirL t.size pl) fresh i) (sideK t pl (dirL t.size pl) fresh i).length)) :: fb g24 72 [.arr 32 (u8s (pubK (leafS once) (i + 1)).1), .one (.slice WB (sideK t pl (dirL t.size pl) fresh i).length wb)] :: [fb g18 56 (gfd none 0 0 none 0 0 RA i rc none 0 0 none 0 0 hzero), rowR 72 33 RA i rc rs, fb g17 34 [.arr 32 (u8s (comS (leafS once) ((dirL t.size pl).length + 1)).1)], fb gt 25 (tfd TA t.ls.length ta TB t.ps.length tb), fb g12 56 (gfd none 0 0 none 0 0 none 0 0 none 0 0 none 0 0 hzero)]) _ := hM.sub
      clear hM
      obtain ⟨H9, l9, hM, hWB, -⟩ := hM9.fz0
      clear hM9
      ((with_reducible (refine mif_false ?_; refine mop_c trivial ?_; refine mm_ld hM ?_; refine mm_ld hM ?_; refine mm_bsl hM ?_ ?_ ?_)); (focus rfl); (focus (constructor <;> simp)); (with_reducible (clear hM; intro _ _ hM; refine mm_appo hM ?_ ?_)); (focus omega); (with_reducible (clear hM; intro _ _ _ hM; refine mop_c trivial ?_; refine mm_st hM ?_; clear hM; intro _ hM; refine mop_c ?_ ?_)); (focus omega))
      rename_i A9 c9 _ _
      have hrk : RgF H9 ([.arr 32 (u8s (pubK (leafS once) (i + 1)).1), .one (.slice WB (sideK t pl (dirL t.size pl) fresh i).length wb)]) (rungK t once about (leafS once) (sideK t pl (dirL t.size pl) fresh i) i) := by
        refine ⟨WB, wb, ?_, hWB, ?_⟩
        · unfold Rg.row rungK
          simp only [wrapsT_len]
        · unfold rungK
          simp only [wrapsT_len]
          omega
      have hrg9 := (hrg.mono fun q x k => RgF.mono k l9.le).snoc hrk
      rw [← rungsK_succ] at hrg9
      exact ⟨⟨i + 1, H9, A9, c9, _, by rw [Value.int.injEq]; refine ⟨rfl, ?_⟩; push_cast; rfl, by omega, by rw [List.length_append, hrs]; rfl, l8.trans l9, hrg9, hM.sub⟩, by simp only; omega⟩
  · intro hge
    obtain rfl : i = (dirL t.size pl).length := by omega
    have hpn0 : (pubsL (leafS once) ((dirL t.size pl).length + 1)).length = (dirL t.size pl).length + 1 := by simp [pubsL]
    have hsn0 : (secL (leafS once) ((dirL t.size pl).length + 1)).length = (dirL t.size pl).length + 1 := secL_len _ _
    have hp0 : (pubsL (leafS once) ((dirL t.size pl).length + 1))[0]'(by omega) = pubK (leafS once) 0 := by simp [pubsL]
    have hle8 := hle7.trans l8
    ((with_reducible (refine mif_false ?_; refine dm_ld hM ?_)); (with_reducible refine dp_ixs ‹_› ?_ ?_ ?_); (focus (simp only [List.length_map]; omega)); (focus (simp only [List.length_map]; first | done | omega)); (with_reducible (intro _ _ hA)); (cases hA); (with_reducible refine dm_lds0 hM ‹_› (map_at ?_) ?_); (focus omega))
    refine dp_sld hK38 (by rw [List.length_map]; omega) (by omega) hcap3 (fun KB hKB => ?_)
    rw [Int.toNat_one] at hKB ⊢
    simp only [Int.toNat_zero]
    rw [hp0]
    have hkd : (kfds (pubsL (leafS once) ((dirL t.size pl).length + 1))).drop 1 = kfds ((pubsL (leafS once) ((dirL t.size pl).length + 1)).drop 1) := (List.map_drop ..).symm
    have hkl : ((pubsL (leafS once) ((dirL t.size pl).length + 1)).drop 1).length = (dirL t.size pl).length + 1 - 1 := by rw [List.length_drop, hpn0]
    rw [hkd] at hKB
    rw [← hkl]
    refine dm_call hM (fun w hM => path_c pl (pubK (leafS once) 0) ((pubsL (leafS once) ((dirL t.size pl).length + 1)).drop 1) (by omega) hKB h8 hM.fz) ?_
    clear hM
    rintro H9 r w9 - l9 hM ⟨v1, rfl, hv1⟩
    have hp9 : (t.pathP pl (pubK (leafS once) 0) ((pubsL (leafS once) ((dirL t.size pl).length + 1)).drop 1)) = t.pathP pl (pubK (leafS once) 0) ((pubsL (leafS once) ((dirL t.size pl).length + 1)).drop 1) := rfl
    generalize (t.pathP pl (pubK (leafS once) 0) ((pubsL (leafS once) ((dirL t.size pl).length + 1)).drop 1)) = tp at hv1 hp9 ⊢
    have hvx := hv1.ex
    obtain ⟨PA, pa, PB, pb, pq, rfl, -⟩ := hvx
    have hrg9 := hrg.mono fun q x k => RgF.mono k l9.le
    have hK19 := hK18.mono l9.le
    have hK29 := hK28.mono l9.le
    ((with_reducible ((iterate 3 refine dp_c trivial ?_); refine dS_st hM ?_; clear hM; intro _ hM; refine mm_end hM ?_; clear hM; intro _ hM)))
    replace hM : Mem H9 w1 (fb g17 34 [.arr 32 (u8s (comS (leafS once) ((dirL t.size pl).length + 1)).1)] :: [fb g18 56 (gfd PA tp.1.ls.length pa PB tp.1.ps.length pb RA (dirL t.size pl).length rc none 0 0 none 0 0 hzero), rowR 72 33 RA (dirL t.size pl).length rc rs, fb g12 56 (gfd none 0 0 none 0 0 none 0 0 none 0 0 none 0 0 hzero)]) _ := hM.sub
    obtain ⟨Hx, lx, hMx, hg17⟩ := hM.fzb
    clear hM
    have hM := hMx
    clear hMx
    have hK1x := hK19.mono lx.le
    have hK2x := hK29.mono lx.le
    have hF := hM.fz
    refine ⟨Rl.fz Hx, ?_⟩
    refine dp_sld hK1x (by rw [List.length_map]; omega) (by omega) hcap1 (fun SB hSB => ?_)
    rw [Int.toNat_one] at hSB ⊢
    ((with_reducible refine dK_ldf ‹_› ‹_› ?_))
    refine dfz hM (fun w hM => ?_)
    refine mm_own (sorted_ok _ hkn.symm (by omega) (hK2x.mono (le_of hM.fz)) hM) ?_
    clear hM
    rintro r w10 ⟨KS, ks, rfl, hM⟩
    refine ⟨hM.fz, ?_⟩
    ((with_reducible (refine dp_c trivial ?_)))
    refine dfz hM (fun w hM => ?_)
    ((with_reducible (refine mm_st hM ?_; clear hM; intro _ hM)))
    refine ⟨hM.fz, ?_⟩
    ((with_reducible (refine dp_c trivial ?_; refine dS_st hM ?_; clear hM; intro _ hM; refine dp_c trivial ?_; refine dS_st hM ?_; clear hM; intro _ hM; refine mm_end hM ?_; clear hM; intro _ hM; refine mm_ld hM ?_; refine mm_st hM ?_; clear hM; intro _ hM; refine rm_ld hM ?_)))
    replace hM : Mem Hx w1 (rowR 72 33 RA (dirL t.size pl).length rc rs :: rowR 43 33 KS (sortedK (keysL (2 * pl :: dirL t.size pl) (leafS once) ((dirL t.size pl).length + 1))).length ks ((sortedK (keysL (2 * pl :: dirL t.size pl) (leafS once) ((dirL t.size pl).length + 1))).map Ky.fds) :: []) _ := hM.sub
    obtain ⟨Hy, ly, hMy, hRg, -⟩ := hM.fz0
    obtain ⟨Hz, lz, hMz, hKg, -⟩ := hMy.fz0
    have hks : (kfds (secL (leafS once) ((dirL t.size pl).length + 1))).drop 1 = kfds ((secL (leafS once) ((dirL t.size pl).length + 1)).drop 1) := (List.map_drop ..).symm
    rw [hks] at hSB
    have hq : Hx.le Hz := (ly.trans lz).le
    refine hMz.out (hle8.trans (l9.trans (lx.trans (ly.trans lz)))) ⟨_, rfl, PA, pa, PB, pb, RA, rc, SB, c1 - 1, KS, ks, rs, ?_, hv1.mono (lx.le.trans hq), hRg.mono lz.le, hrg9.mono fun q x k => RgF.mono k (lx.le.trans hq), hSB.mono hq, hKg⟩
    simp only [rungsK_len, List.length_drop, hsn0]
end
end Go.Proofs.YtpjodlnlmaaihaaGreat
namespace Go.Proofs.YtpjodlnlmaaihaaGreat
open Go.RowKit
class StrB (P : Program) (s d : TypeId) (e : outParam TypeId) : Prop where
  ok : P.underlying s = some .string ∧ P.underlying d = some (.slice e) ∧ P.underlying e = some (.int .u8) ∧ e = 5
section
variable {P : Program} {H : Hp} {w0 w : World} {L R : List Res} {g n c cap : Nat} {t e src dst : TypeId} {K : Value → World → Prop} {X : List PanicEntry → World → Prop} {A : Option Addr} {l : List Int} {v : Value}
theorem mm_cvt {s : ByteArray} (h : Mem H w0 L w) [b : StrB P src dst e] (hsz : s.size ≤ maxLen) (hk : ∀ g c w', Mem H w0 (rowR e 1 (some ⟨g, 0, none⟩) s.size c (byts (ints s)) :: L) w' → K (.slice (some ⟨g, 0, none⟩) s.size c) w') : mop P (o_conv src dst (.string s)) w K X := by
  obtain ⟨hs, hd, he, h8⟩ := b.ok
  have hr := run_bytes_of_string (P := P) w src dst e s hs hd he
  have hge := grownCap_ge w s.size 0 e
  have hcm : grownCap w s.size 0 e ≤ maxLen := grownCap_le_maxLen w s.size 0 e hsz
  have hfl : fls (byts (ints s)) = u8s (ints s) := fls_byts _
  have hC : bytesRow s (grownCap w s.size 0 e) = (fls (byts (ints s)) ++ List.replicate (grownCap w s.size 0 e - s.size) (Value.int .u8 0)).toArray := by
    rw [hfl]
    apply Array.ext'
    simp [bytesRow, u8s, ints]
  rw [hC] at hr
  refine mop_run (u := .slice (some ⟨w.heap.size, 0, none⟩) s.size (grownCap w s.size 0 e)) (by simp only [o_conv, sv, Sem.run_bind, hr, Result.andThen_ok]; rfl) (hk _ _ _ ?_)
  have hd := h.drawn (w' := w.drew) ⟨1, rfl⟩
  obtain ⟨B, hl, hs', hb⟩ := hd.own
  have hn : H w.heap.size = none := by
    cases hh : H w.heap.size with
    | none => rfl
    | some c => exact absurd (h.fz.lt hh) (Nat.lt_irrefl _)
  refine ⟨⟨⟨w.heap.size, e, fls (byts (ints s)) ++ List.replicate (grownCap w s.size 0 e - s.size) (Value.int .u8 0), true⟩ :: B, ⟨[⟨w.heap.size, e, _, true⟩], B, rfl, ⟨els_byts _, by rw [byts_length, ints_length], .inr ⟨w.heap.size, _, rfl, rfl, ?_, hge, hcm⟩⟩, hl⟩, ?_, fun b hm => ?_⟩, ?_⟩
  · rw [hfl]
    simp only [List.length_append, u8s, List.length_map, ints_length, List.length_replicate]
    omega
  · exact hs'.allocF e _ _ (.inr ⟨by simp, h8⟩)
  · rcases List.mem_cons.1 hm with rfl | hm
    · exact ⟨rfl, hn⟩
    · exact hb b hm
  · exact hd.fz.ext ((Only.refl _ w.drew).alloc _)
theorem mm_aat {m : Nat} (hm : P.underlying t = some (.array m e)) (hn : m ≤ n) (hk : K (.pointer A) w) : mop P (o_arrayAt t (.slice A n c)) w K X :=
  mop_run (u := .pointer A) (w' := w) (by simp only [o_arrayAt, sv, Sem.run_bind, run_arrayAt w t e m A n c hm hn, Result.andThen_ok]; rfl) hk
theorem mm_lrb (h : Mem H w0 L w) [cc : ShpC P t true n] [a : AtA L (some ⟨g, 0, none⟩) n cap e 1 (byts l) R] (hn : l.length = n) (hn0 : 0 < n) (hk : K (.agg (u8s l).toArray) w) : mop P (o_load t (.pointer (some ⟨g, 0, none⟩))) w K X := by
  have hr := h.rd a
  rw [fls_byts] at hr
  rcases hr with hr | ⟨b, o, hA, _, hc⟩
  · have : l = [] := by simpa [u8s] using hr
    rw [this] at hn
    simp at hn
    omega
  · cases hA
    have hf : FOk [Fd.arr n (u8s l)] := ⟨fun f hf => by rw [List.mem_singleton.1 hf]; exact ⟨by simp [Fd.cells, Fd.size, u8s, hn], fun u hu => u8s_one _ u hu⟩⟩
    have hv : Fv true [Fd.arr n (u8s l)] (.agg (u8s l).toArray) := inferInstance
    exact mop_purW (pw_fields (w := w) (b := g) (o := 0) cc.ok hf (by simp [fsz, Fd.size]) hv fun k u hu => hc k u (by simpa [fl, Fd.cells] using hu)) hk
end
end Go.Proofs.YtpjodlnlmaaihaaGreat
namespace Go.Proofs.YtpjodlnlmaaihaaGreat
open Go.RowKit Go.Lib
def h32 (l : List Int) : H32 := if h : l.length = 32 ∧ ∀ x ∈ l, 0 ≤ x ∧ x < 256 then ⟨l, h⟩ else hzero
theorem h32_val {l : List Int} (h : l.length = 32) (hr : ∀ x ∈ l, 0 ≤ x ∧ x < 256) : (h32 l).1 = l := by
  unfold h32
  rw [dif_pos ⟨h, hr⟩]
theorem h32_self (h : H32) : h32 h.1 = h := Subtype.ext (h32_val h.2.1 h.2.2)
def openedT (about : List Int) (keys : List Kr) : List Int → List (List Int) → H32 × Int
  | [], _ => (hzero, 10)
  | x :: r, ws => match keys.find? (fun k => decide (k.node = x)) with
    | none => openedT about keys r ws.tail
    | some k => if (unwrapE k.priv about (ws.headD [])).2 ≠ 0 then (hzero, (unwrapE k.priv about (ws.headD [])).2) else if (unwrapE k.priv about (ws.headD [])).1.length ≠ 32 then (hzero, 3) else (h32 (unwrapE k.priv about (ws.headD [])).1, 0)
theorem openedT_cons (about : List Int) (keys : List Kr) (x : Int) (r : List Int) (s : List Int) (ws : List (List Int)) : openedT about keys (x :: r) (s :: ws) = match keys.find? (fun k => decide (k.node = x)) with
    | none => openedT about keys r ws
    | some k => if (unwrapE k.priv about s).2 ≠ 0 then (hzero, (unwrapE k.priv about s).2) else if (unwrapE k.priv about s).1.length ≠ 32 then (hzero, 3) else (h32 (unwrapE k.priv about s).1, 0) := rfl
theorem openE_rng (k : H32) (ab s : List Int) : ∀ x ∈ (openE k ab s).1, 0 ≤ x ∧ x < 256 := by
  unfold openE
  split
  · intro x hx; cases hx
  split
  · intro x hx; cases hx
  split
  · exact crossL_rng
  · intro x hx; cases hx
theorem unwrapE_rng (k : H32) (ab s : List Int) : ∀ x ∈ (unwrapE k ab s).1, 0 ≤ x ∧ x < 256 := by
  unfold unwrapE
  split
  · intro x hx; cases hx
  · exact openE_rng _ _ _
theorem openE_len (k : H32) (ab s : List Int) : (openE k ab s).1.length ≤ 65536 := by
  unfold openE
  split
  · simp
  split
  · simp
  split
  · rw [crossL_len (by rw [rowK_len, List.length_take]; omega), List.length_take]
    omega
  · simp
theorem unwrapE_len (k : H32) (ab s : List Int) : (unwrapE k ab s).1.length ≤ 65536 := by
  unfold unwrapE
  split
  · simp
  · exact openE_len _ _ _
theorem find_idx {α : Type} (f : α → Bool) (l : List α) : (idxI f l = -1 ∧ l.find? f = none) ∨ ∃ (i : Nat) (hi : i < l.length), idxI f l = i ∧ l.find? f = some l[i] := by
  rcases idxI_cases f l with ⟨e, h⟩ | ⟨i, hi, e, h, hlow⟩
  · exact .inl ⟨e, by simpa [List.find?_eq_none] using h⟩
  · refine .inr ⟨i, hi, e, ?_⟩
    rw [List.find?_eq_some_iff_getElem]
    exact ⟨h, i, hi, rfl, fun j hj => by simp [hlow j hj]⟩
instance : StrB Tryz.prog 9 99 5 := ⟨by kernel_rfl, by kernel_rfl, by kernel_rfl, rfl⟩
section
variable {H : Hp} {w0 w : World} {L R : List Res} {A B K F : Option Addr} {a b c n m kc fc : Nat} {t : Tr} {v : Value}
theorem opened1_ok (g : Nat) (x : Int) (k : Kr) (hM : Mem H w0 (fb g 3 [.one (.int .i64 x)] :: R) w) :
    Calls Tryz.prog 102 #[.agg (fl k.fds).toArray, .pointer (some ⟨g, 0, none⟩)] w fun en w' => en = .returned (.bool (decide (k.node = x))) ∧ Mem H w0 (fb g 3 [.one (.int .i64 x)] :: R) w' := by
  refine C_climb_opened_1 ?_
  unfold F_climb_opened_1
  ((with_reducible (refine mm_box hM ?_; clear hM; intro _ _ hM; refine mop_c trivial ?_; refine mm_ld hM ?_; refine mm_ld hM ?_)))
  by_cases h : k.node = x
  · refine mop_cT trivial h ?_
    exact ⟨by rw [decide_eq_true h], hM.sub⟩
  · refine mop_cF trivial h ?_
    exact ⟨by rw [decide_eq_false h], hM.sub⟩
abbrev krv (k : Kr) : Value := .agg (fl k.fds).toArray
theorem clo_opened (g : Nat) (x : Int) : Clo Tryz.prog H w0 (fb g 3 [.one (.int .i64 x)]) (.func (.func 102) #[] #[.pointer (some ⟨g, 0, none⟩)]) krv (fun k : Kr => decide (k.node = x)) := fun y R w K X hM hk => by
  refine mop_callv (opened1_ok g x y hM) ?_
  rintro en w' ⟨rfl, hM⟩
  exact hk _ hM
theorem kidx_ok {r : Res} {cl : Value} {f : Kr → Bool} (xs : List Kr) (hl : xs.length ≤ 1000000) (hs : Sl H 33 A (xs.map Kr.fds)) (hc : Clo Tryz.prog H w0 r cl krv f) (hM : Mem H w0 (r :: R) w) :
    Calls Tryz.prog 101 #[.slice A xs.length c, cl] w fun en w' => ∃ v, en = .returned v ∧ v = .int .i64 (idxI f xs) ∧ Mem H w0 (r :: R) w' := by
  refine C_slices_IndexFunc_api_Key_api_Key ?_
  unfold F_slices_IndexFunc_api_Key_api_Key
  ((with_reducible (refine mop_c trivial ?_)))
  refine ⟨fun x w => ∃ i : Nat, x = .int .i64 i ∧ i ≤ xs.length ∧ (∀ j (hj : j < xs.length), j < i → f xs[j] = false) ∧ hM.now w, fun x _ => match x with | .int _ i => xs.length - i.toNat | _ => 0, ⟨0, rfl, by omega, by intro j hj h; omega, hM⟩, ?_⟩
  rintro x u w ⟨i, rfl, hi, hf, hM⟩
  ((with_reducible (refine mop_cS trivial ?_ ?_)))
  · intro hlt
    have hit : i < xs.length := by omega
    ((with_reducible (refine mif_true ?_)); (with_reducible refine mm_ixs ‹_› ?_ ?_ ?_); (focus (simp only [List.length_map]; omega)); (focus (simp only [List.length_map]; first | done | omega)); (with_reducible (intro _ _ hA)); (cases hA); (with_reducible refine mm_lds0 hM ‹_› (map_atI ?_) ?_); (focus omega))
    refine hc _ _ _ _ _ hM (fun w hM => ?_)
    cases hfi : f xs[i]
    · ((with_reducible (refine mif_false ?_; refine mop_c ?_ ?_)); (focus omega))
      exact ⟨⟨i + 1, by rw [Value.int.injEq]; refine ⟨rfl, ?_⟩; push_cast; rfl, by omega, fun j hj hji => by
        rcases Nat.lt_or_ge j i with h | h
        · exact hf j hj h
        · obtain rfl : j = i := by omega
          exact hfi, hM⟩, by simp only; omega⟩
    · ((with_reducible (refine mif_true ?_)))
      exact ⟨_, rfl, by rw [idxI_at (i := i) hit (fun j hj => hf j (by omega) hj) hfi], hM⟩
  · intro hge
    ((with_reducible (refine mif_false ?_)))
    exact ⟨_, rfl, by rw [idxI_none fun j hj => hf j hj (by omega)], hM⟩
theorem opened_ok (about side : List Int) (wraps : List (List Int)) (keys : List Kr) (hl : about.length ≤ 1000000) (hsl : side.length ≤ 100000) (hwl : wraps.length = side.length) (hkl : keys.length ≤ 100000) (hwr : ∀ x ∈ wraps, x.length ≤ 1000000 ∧ ∀ y ∈ x, 0 ≤ y ∧ y < 256)
    (hS : Sl H 1 A (ints8 side)) (hW : Sl H 1 B (strs wraps)) (hK : Sl H 33 K (keys.map Kr.fds)) (hf : Fz H w) :
    Calls Tryz.prog 61 #[.slice A side.length a, .slice B wraps.length b, .string (strOfNums about), .slice K keys.length kc] w fun en w' => en = .returned (.tuple #[ha (openedT about keys side wraps).1, .int .i64 (openedT about keys side wraps).2]) ∧ St w [] w' := by
  obtain ⟨w1, hw1⟩ : ∃ w1, w1 = w := ⟨_, rfl⟩
  rw [← hw1]
  rw [← hw1] at hf
  have hM := Mem.start hf
  refine C_climb_opened ?_
  unfold F_climb_opened
  ((with_reducible (refine mm_new hM ?_; clear hM; intro _ _ hM; refine mop_c trivial ?_)))
  rename_i g8 _
  refine ⟨fun v w' => ∃ i : Nat, v = .int .i64 i ∧ i ≤ side.length ∧ openedT about keys side wraps = openedT about keys (side.drop i) (wraps.drop i) ∧ Mem H w1 [fb g8 34 [.arr 32 (u8s hzero.1)]] w', fun v _ => match v with | .int _ k => side.length - k.toNat | _ => 0, ⟨0, rfl, by omega, rfl, hM⟩, ?_⟩
  clear hM
  rintro v u w3 ⟨i, rfl, hi, heq, hM⟩
  skip
  ((with_reducible (refine mop_cS trivial ?_ ?_)))
  · intro hlt
    have hit : i < side.length := by omega
    have hiw : i < wraps.length := by omega
    have e1 : side.drop i = side[i] :: side.drop (i + 1) := List.drop_eq_getElem_cons hit
    have e2 : wraps.drop i = wraps[i] :: wraps.drop (i + 1) := List.drop_eq_getElem_cons hiw
    obtain ⟨hw1', hw2⟩ := hwr _ (List.getElem_mem hiw)
    rw [e1, e2] at heq
    rw [openedT_cons] at heq
    have hq1 : (ints8 side)[((i : Int)).toNat]? = some [.one (.int .i64 side[i])] := ints8_at hit
    have hq2 : (strs wraps)[((i : Int)).toNat]? = some [.one (.string (strOfNums wraps[i]))] := by
      rw [Int.toNat_natCast]
      exact map_at hiw
    have l8 := ints8_length side
    ((with_reducible (refine mif_true ?_)); (with_reducible refine mm_ixs ‹_› ?_ ?_ ?_); (focus (simp only [List.length_map]; omega)); (focus (simp only [List.length_map]; first | done | omega)); (with_reducible (intro _ _ hA)); (cases hA); (with_reducible refine mm_lds0 hM ‹_› (map_atI ?_) ?_); (focus omega); (with_reducible (refine mm_new hM ?_; clear hM; intro _ _ hM; refine mm_st hM ?_; clear hM; intro _ hM; refine mop_c trivial ?_)))
    rename_i gx _ _
    refine mm_own (kidx_ok keys (by omega) hK (clo_opened gx side[i]) hM) ?_
    clear hM
    rintro v w5 ⟨rfl, hM⟩
    rcases find_idx (fun k : Kr => decide (k.node = side[i])) keys with ⟨ei, ef⟩ | ⟨q, hq, ei, ef⟩
    · rw [ef] at heq
      rw [ei]
      ((with_reducible (refine mop_cT trivial ?_ ?_)); (focus (first | assumption | omega | with_reducible rfl | exact fun h => Bool.noConfusion h)); (with_reducible (refine mif_true ?_; refine mop_c ?_ ?_)); (focus omega))
      exact ⟨⟨i + 1, by rw [Value.int.injEq]; refine ⟨rfl, ?_⟩; push_cast; rfl, by omega, heq, hM.sub⟩, by simp only; omega⟩
    · rw [ef] at heq
      rw [ei]
      simp only at heq
      have hlr := unwrapE_rng keys[q].priv about wraps[i]
      have hll := unwrapE_len keys[q].priv about wraps[i]
      have huw := fun w => unwrap_ok keys[q].priv about wraps[i] hl hw2 hw1' w
      generalize unwrapE keys[q].priv about wraps[i] = uu at heq hlr hll huw
      obtain ⟨us, ue⟩ := uu
      simp only at heq hlr hll huw
      ((with_reducible (refine mop_cF trivial ?_ ?_)); (focus (first | assumption | omega | with_reducible rfl | exact fun h => Bool.noConfusion h)); (with_reducible (refine mif_false ?_)); (with_reducible refine dp_ixs ‹_› ?_ ?_ ?_); (focus (simp only [List.length_map]; omega)); (focus (simp only [List.length_map]; first | done | omega)); (with_reducible (intro _ _ hA)); (cases hA); (with_reducible (refine dp_c trivial ?_)); (with_reducible refine dm_lds hM ‹_› (map_atI ?_) ?_); (focus omega); (with_reducible refine dp_ixs ‹_› ?_ ?_ ?_); (focus (simp only [List.length_map]; omega)); (focus (simp only [List.length_map]; first | done | omega)); (with_reducible (intro _ _ hA)); (cases hA); (with_reducible refine dm_lds0 hM ‹_› (map_atI ?_) ?_); (focus omega))
      refine dm_pure hM (fun w _ => huw w) (fun w6 _ hM2 => ?_)
      replace hM := hM2
      clear hM2
      ((with_reducible (refine dp_c trivial ?_; refine dp_c trivial ?_; refine mm_end hM ?_; clear hM; intro _ hM)))
      by_cases hue : ue = 0
      · subst hue
        rw [if_neg (by simp)] at heq
        have hsz : (strOfNums us).size = us.length := strOfNums_size us
        ((with_reducible (refine mop_cF trivial ?_ ?_)); (focus (first | assumption | omega | with_reducible rfl | exact fun h => Bool.noConfusion h)); (with_reducible (refine mif_false ?_; refine mop_c trivial ?_)))
        ((with_reducible (refine mop_cS trivial ?_ ?_)))
        · intro hne
          rw [if_pos (by omega)] at heq
          ((with_reducible (refine mif_true ?_; refine mop_c trivial ?_; refine mm_st hM ?_; clear hM; intro _ hM; refine rm_ld hM ?_)))
          rw [heq]
          exact ⟨rfl, hM.st⟩
        · intro hne
          have h32l : us.length = 32 := by omega
          rw [if_neg (by omega)] at heq
          ((with_reducible (refine mif_false ?_)))
          refine mm_cvt hM (by rw [hsz]; show _ ≤ maxLen; unfold maxLen; omega) ?_
          clear hM
          intro g c w7 hM
          rw [ints_str us hlr, hsz, h32l] at hM
          rw [hsz, h32l]
          refine mm_aat (m := 32) (e := 5) (by kernel_rfl) (by omega) ?_
          refine mm_lrb hM h32l (by omega) ?_
          have hv : (Value.agg (u8s us).toArray) = .agg (u8s (h32 us).1).toArray := by rw [h32_val h32l hlr]
          rw [hv]
          ((with_reducible (refine mm_st hM ?_; clear hM; intro _ hM; refine rm_ld hM ?_)))
          rw [heq]
          exact ⟨rfl, hM.st⟩
      · rw [if_pos hue] at heq
        ((with_reducible (refine mop_cT trivial ?_ ?_)); (focus (first | assumption | omega | with_reducible rfl | exact fun h => Bool.noConfusion h)); (with_reducible (refine mif_true ?_; refine mop_c trivial ?_; refine mm_st hM ?_; clear hM; intro _ hM; refine rm_ld hM ?_)))
        rw [heq]
        exact ⟨rfl, hM.st⟩
  · intro hge
    obtain rfl : i = side.length := by omega
    rw [List.drop_length] at heq
    ((with_reducible (refine mif_false ?_; refine mop_c trivial ?_; refine mm_st hM ?_; clear hM; intro _ hM; refine rm_ld hM ?_)))
    rw [heq]
    exact ⟨rfl, hM.st⟩
end
end Go.Proofs.YtpjodlnlmaaihaaGreat
namespace Go.Proofs.YtpjodlnlmaaihaaGreat
open Go.RowKit Go.Lib
theorem keysL_at {way : List Int} {s : H32} {n i : Nat} (hi : i < (keysL way s n).length) : (keysL way s n)[i] = keyK way s i := by simp [keysL]
theorem keyK_priv {way : List Int} {s : H32} {i : Nat} (h : 0 ≤ way.getD i 0 ∧ way.getD i 0 ≤ 1000) : (keyK way s i).priv = drv (secK s i) bnode es0 := by
  unfold keyK
  rw [mkKy_eq h]
theorem getD_rng {way : List Int} (hr : ∀ x ∈ way, 0 ≤ x ∧ x ≤ 1000) (i : Nat) : 0 ≤ way.getD i 0 ∧ way.getD i 0 ≤ 1000 := by
  rw [List.getD_eq_getElem?_getD]
  by_cases h : i < way.length
  · rw [List.getElem?_eq_getElem h]
    exact hr _ (List.getElem_mem h)
  · rw [List.getElem?_eq_none (by omega)]
    simp
section
variable {H : Hp} {w0 w : World} {L R : List Res} {A B K F : Option Addr} {a b c n m kc fc : Nat} {t : Tr} {v : Value}
theorem risen_q {Q : Value → World → Prop} (way : List Int) (s : H32) (pubs : List H32) (hlen : pubs.length = way.length) (hl : way.length ≤ 100) (hr : ∀ x ∈ way, 0 ≤ x ∧ x ≤ 1000) (hW : Sl H 1 A (ints8 way)) (hP : Sl H 32 B (kfds pubs)) (hM : Mem H w0 L w)
    (h1 : pubsL s way.length = pubs → ∀ SA sc KA kc w', Mem H w0 (rowR 34 32 SA way.length sc (kfds (secL s way.length)) :: rowR 43 33 KA way.length kc ((keysL way s way.length).map Ky.fds) :: L) w' → Q (.tuple #[.agg (fl (gfd none 0 0 none 0 0 none 0 0 SA way.length sc KA way.length kc (comS s way.length))).toArray, .bool true]) w')
    (h0 : pubsL s way.length ≠ pubs → ∀ w', Mem H w0 L w' → Q (.tuple #[.agg (fl (gfd none 0 0 none 0 0 none 0 0 none 0 0 none 0 0 hzero)).toArray, .bool false]) w') :
    Calls Tryz.prog 56 #[.pointer none, .slice A way.length a, ha s, .slice B pubs.length b] w fun en w' => ∃ v, en = .returned v ∧ Q v w' := by
  refine C_climb_risen ?_
  unfold F_climb_risen
  ((with_reducible (refine mm_box hM ?_; clear hM; intro _ _ hM; refine mm_new hM ?_; clear hM; intro _ _ hM; refine mm_ld hM ?_)))
  rename_i g6 _ g8 _
  refine mm_own (up_ok way s hl hr (hW.mono (le_of hM.fz)) hM) ?_
  clear hM
  rintro v w2 ⟨K1, c1, K2, c2, rfl, hM⟩
  have hkn := keysL_len way s way.length
  ((with_reducible ((iterate 3 refine mop_c trivial ?_); refine mm_new hM ?_; clear hM; intro _ _ hM; refine mm_st hM ?_; clear hM; intro _ hM; refine mop_c trivial ?_)))
  rename_i g12 _ _
  replace hM : Mem H w0 (rowR 43 33 K2 way.length c2 ((keysL way s way.length).map Ky.fds) :: fb g8 56 (gfd none 0 0 none 0 0 none 0 0 none 0 0 none 0 0 hzero) :: fb g6 34 [.arr 32 (u8s s.1)] :: L) _ := hM.sub
  refine ⟨fun v w' => ∃ i : Nat, v = .int .i64 i ∧ i ≤ way.length ∧ pubsL s i = pubs.take i ∧ Mem H w0 (rowR 43 33 K2 way.length c2 ((keysL way s way.length).map Ky.fds) :: fb g8 56 (gfd none 0 0 none 0 0 none 0 0 none 0 0 none 0 0 hzero) :: fb g6 34 [.arr 32 (u8s s.1)] :: L) w', fun v _ => match v with | .int _ k => way.length - k.toNat | _ => 0, ⟨0, rfl, by omega, by simp [pubsL], hM⟩, ?_⟩
  clear hM
  rintro v u w3 ⟨i, rfl, hi, hpl, hM⟩
  skip
  ((with_reducible (refine mop_cS trivial ?_ ?_)))
  · intro hlt
    have hit : i < way.length := by omega
    have hpt : i < pubs.length := by omega
    have hpv : ((keysL way s way.length)[i]'(by omega)).priv = drv (secK s i) bnode es0 := by rw [keysL_at, keyK_priv (getD_rng hr i)]
    have hst : pubs.take (i + 1) = pubs.take i ++ [pubs[i]] := List.take_succ_eq_append_getElem hpt
    ((with_reducible (refine mif_true ?_; refine mm_ixr hM ?_ ?_)); (focus omega); (with_reducible (intro _ hA)); (cases hA); (with_reducible (refine mm_ldr0 hM (map_atI ?_) ?_)); (focus omega); (with_reducible (refine mm_new hM ?_; clear hM; intro _ _ hM; refine mm_st hM ?_; clear hM; intro _ hM; refine dp_c trivial ?_; refine dm_ld hM ?_; refine dm_purC hM ?_ (fun _ _ hM => ?_))); (focus (first | exact trivial | assumption | omega)); (with_reducible refine dp_ixs ‹_› ?_ ?_ ?_); (focus (simp only [List.length_map]; omega)); (focus (simp only [List.length_map]; first | done | omega)); (with_reducible (intro _ _ hA)); (cases hA))
    refine dm_lds0 ‹_› hP (map_at hpt) ?_
    skip
    refine dp_c trivial ?_
    rw [hpv]
    have hst2 : pubsL s (i + 1) = pubs.take (i + 1) ↔ pubH (drv (secK s i) bnode es0) = pubs[i] := by
      rw [pubsL_succ, hst, hpl]
      show pubs.take i ++ [pubH (drv (secK s i) bnode es0)] = pubs.take i ++ [pubs[i]] ↔ _
      exact ⟨fun h => (List.cons.inj (List.append_cancel_left h)).1, fun h => by rw [h]⟩
    by_cases hpe : pubH (drv (secK s i) bnode es0) = pubs[i]
    · rw [decide_eq_false (fun h => h hpe)]
      ((with_reducible (refine mm_end hM ?_; clear hM; intro _ hM; refine mif_false ?_; refine mop_c ?_ ?_)); (focus omega))
      exact ⟨⟨i + 1, by rw [Value.int.injEq]; refine ⟨rfl, ?_⟩; push_cast; rfl, by omega, hst2.2 hpe, hM.sub⟩, by simp only; omega⟩
    · rw [decide_eq_true hpe]
      ((with_reducible (refine mm_end hM ?_; clear hM; intro _ hM; refine mif_true ?_; refine mop_c trivial ?_; refine mm_st hM ?_; clear hM; intro _ hM; refine rm_ld hM ?_)))
      refine ⟨_, rfl, h0 (fun h => hpe (hst2.1 ?_)) _ hM.sub⟩
      rw [← h]
      unfold pubsL
      rw [← List.map_take, List.take_range, Nat.min_eq_left (by omega)]
  · intro hge
    obtain rfl : i = way.length := by omega
    rw [List.take_of_length_le (by omega)] at hpl
    ((with_reducible (refine mif_false ?_; refine mm_new hM ?_; clear hM; intro _ _ hM; refine mm_ld hM ?_)))
    rename_i g15 _
    refine mm_own (up_ok way s hl hr (hW.mono (le_of hM.fz)) hM) ?_
    clear hM
    rintro v w5 ⟨K3, c3, K4, c4, rfl, hM⟩
    ((with_reducible ((iterate 4 refine mop_c trivial ?_); refine mm_st hM ?_; clear hM; intro _ hM; refine mop_c trivial ?_; refine mm_st hM ?_; clear hM; intro _ hM; refine mop_c trivial ?_; refine mm_st hM ?_; clear hM; intro _ hM; refine mop_c trivial ?_; refine mm_ld hM ?_; refine mop_c trivial ?_)))
    refine ⟨fun v w' => ∃ i : Nat, v = .int .i64 i ∧ i ≤ way.length ∧ Mem H w0 (rowR 34 32 K3 way.length c3 (kfds (secL s way.length)) :: rowR 43 33 K4 way.length c4 ((keysL way s way.length).map Ky.fds) :: fb g15 56 (gfd none 0 0 none 0 0 none 0 0 K3 way.length c3 K4 way.length c4 (comS s way.length)) :: fb g8 56 (gfd none 0 0 none 0 0 none 0 0 none 0 0 none 0 0 hzero) :: L) w', fun v _ => match v with | .int _ k => way.length - k.toNat | _ => 0, ⟨0, rfl, by omega, hM.sub⟩, ?_⟩
    clear hM
    rintro v u w6 ⟨i, rfl, hi, hM⟩
    skip
    ((with_reducible (refine mop_cS trivial ?_ ?_)))
    · intro hlt
      have hit : i < way.length := by omega
      ((with_reducible (refine mif_true ?_; refine mm_ixr hM ?_ ?_)); (focus omega); (with_reducible (intro _ hA)); (cases hA); (with_reducible (refine mm_ldr0 hM (map_atI ?_) ?_)); (focus omega); (with_reducible (refine mm_new hM ?_; clear hM; intro _ _ hM; refine mm_st hM ?_; clear hM; intro _ hM; refine mop_c trivial ?_; refine mm_ld hM ?_; refine mm_purC hM ?_ ?_)); (focus (first | exact trivial | assumption | omega)); (with_reducible (clear hM; intro _ hM; refine mop_c ?_ ?_)); (focus omega))
      exact ⟨⟨i + 1, by rw [Value.int.injEq]; refine ⟨rfl, ?_⟩; push_cast; rfl, by omega, hM.sub⟩, by simp only; omega⟩
    · intro hge
      ((with_reducible (refine mif_false ?_; refine mm_ld hM ?_; refine mm_st hM ?_; clear hM; intro _ hM; refine rm_ld hM ?_)))
      exact ⟨_, rfl, h1 hpl _ _ _ _ _ hM.sub⟩
end
end Go.Proofs.YtpjodlnlmaaihaaGreat
namespace Go.Proofs.YtpjodlnlmaaihaaGreat
open Go.RowKit Go.Shelf Go.Lib
theorem own_outC {H : Hp} {w W' : World} {e : TypeId} {v : Value} {D : List Int} (hf : Fz H w) (ho : W'.ownsRow w.heap.size e 1 v D.length (D.map (Value.int .i64))) (hb : Below w.heap.size w W') :
    Outp H w (fun H' v => ∃ A cap, v = .slice A D.length cap ∧ D.length ≤ cap ∧ Sl H' 1 A (ints8 D)) (.returned v) W' := by
  have hst : St w [] W' := ⟨(fun _ h => by cases h), .nil, (fun _ h => by cases h), Only.of_below hb fun i hi hge => by omega⟩
  have hF : ∀ b c, H b = some c → ∃ t fr, W'.heap[b]? = some (.cells c t fr) := fun b c hc => by
    obtain ⟨t, fr, h⟩ := hf b c hc
    exact ⟨t, fr, (hb.block b (hf.lt hc)).trans h⟩
  rcases ho.2 with ⟨rfl, hn⟩ | ⟨g, cap, cur, rfl, hge, hgb, hnc, hcm, hsz, htk⟩
  · have hD : D = [] := List.eq_nil_of_length_eq_zero hn
    subst hD
    exact ⟨_, H, rfl, Le.refl _ _, ⟨⟨[], rfl, hst, fun _ h => by cases h⟩, hF⟩, none, 0, rfl, Nat.le_refl _, Sl.nil _ _ _⟩
  · have hg0 : H g = none := by
      cases hh : H g with
      | none => rfl
      | some c => have := hf.lt hh; omega
    refine ⟨_, fun k => if k = g then some cur else H k, rfl, ⟨fun b c hc => ?_, fun b hb' hn => ?_⟩, ⟨⟨[], rfl, hst, fun _ h => by cases h⟩, fun b c hc => ?_⟩, some ⟨g, 0, none⟩, cap, rfl, hnc, els_ints8 D, .inr ⟨g, 0, cur, rfl, if_pos rfl, fun j u hu => ?_⟩⟩
    · show (if b = g then some cur else H b) = some c
      rw [if_neg (by rintro rfl; rw [hg0] at hc; cases hc)]
      exact hc
    · show (if b = g then some cur else H b) = none
      rw [if_neg (by omega)]
      exact hn
    · have hc : (if b = g then some cur else H b) = some c := hc
      by_cases e : b = g
      · rw [if_pos e] at hc
        cases hc
        exact ⟨_, _, by rw [e]; exact hgb⟩
      · rw [if_neg e] at hc
        exact hF b c hc
    · rw [fls_ints8, ← htk] at hu
      rw [Nat.zero_add, ← Array.getElem?_toList]
      rw [List.getElem?_take] at hu
      split at hu
      · exact hu
      · cases hu
theorem bdirectC_ok {H : Hp} {w : World} (n l : Int) (hb : l ≤ 1000000) (hf : Fz H w) : Calls Tryz.prog 32 #[.int .i64 n, .int .i64 l] w (Outp H w (fun H' v => ∃ A cap, v = .slice A (dirL n l).length cap ∧ (dirL n l).length ≤ cap ∧ Sl H' 1 A (ints8 (dirL n l)))) := by
  by_cases hl : 0 ≤ l ∧ l < n
  · refine (dir_in n l hl hb w).mono ?_
    rintro e W' ⟨v, rfl, ho, hB⟩
    exact own_outC hf ho hB
  · refine (dir_nil n l (by omega) w).mono ?_
    rintro e W' ⟨rfl, hB⟩
    have : dirL n l = [] := if_neg hl
    rw [this]
    exact own_outC (e := 3) (D := []) hf ⟨rfl, .inl ⟨rfl, rfl⟩⟩ hB
end Go.Proofs.YtpjodlnlmaaihaaGreat
namespace Go.Proofs.YtpjodlnlmaaihaaGreat
open Go.RowKit Go.Lib
set_option maxRecDepth 100000 in
theorem ab_root_fin : ∀ n : Fin 65, ∀ x : Fin 127, thr (n.val : Int) (x.val : Int) → ab n.val x.val < 0 → (x.val : Int) = root n.val := by decide +kernel
theorem root_odd_fin : ∀ n : Fin 65, 2 ≤ n.val → root (n.val : Int) % 2 = 1 := by decide +kernel
theorem ab_root {n x : Int} (h : thr n x) (ha : ab n x < 0) : x = root n := by
  obtain ⟨h1, h2, h3⟩ := id h
  have := ab_root_fin ⟨n.toNat, by omega⟩ ⟨x.toNat, by omega⟩
  simp only [Int.toNat_of_nonneg h2, Int.toNat_of_nonneg (show 0 ≤ n by omega)] at this
  exact this h ha
theorem root_odd {n : Int} (h : 2 ≤ n ∧ n ≤ 64) : root n % 2 = 1 := by
  have := root_odd_fin ⟨n.toNat, by omega⟩ (by simp only; omega)
  simpa only [Int.toNat_of_nonneg (show 0 ≤ n by omega)] using this
theorem dirF_root {n : Int} : ∀ (f : Nat) (x : Int), okd f n x = true → thr n x → x ≠ root n → root n ∈ dirF f n x
  | f, x, ho, ht, hx => by
    by_cases ha : ab n x < 0
    · exact absurd (ab_root ht ha) hx
    · obtain ⟨g, rfl, e, ho2⟩ := dirF_step ha ho
      rw [e]
      by_cases h2 : ab n x = root n
      · rw [h2]
        exact List.mem_cons_self ..
      · exact List.mem_cons_of_mem _ (dirF_root g (ab n x) ho2 (ab_thr ht ha) h2)
theorem dir_meets {n p q : Int} (hp : 0 ≤ p ∧ p < n) (hq : 0 ≤ q ∧ q < n) (hn : n ≤ 64) (hne : q ≠ p) : (dirL n p).findIdx (fun x => decide (hld n x q)) < (dirL n p).length := by
  rw [List.findIdx_lt_length]
  have hd : dirL n p = dirF 8 n (2 * p) := if_pos hp
  have hro := root_odd (n := n) ⟨by omega, hn⟩
  refine ⟨root n, ?_, decide_eq_true (root_all ⟨by omega, hn⟩ hq)⟩
  rw [hd]
  exact dirF_root 8 (2 * p) (okd_eq _ _) ⟨⟨by omega, hn⟩, by omega, by omega⟩ (by omega)
def followT (t : Tr) (pl : Int) (leaf : H32) (rungs : List Rg) (about fresh : List Int) (mine : Int) (keys : List Kr) : Gw × Int :=
  if ¬ t.right = true then (Gw.none, 1)
  else if t.nobody pl ∨ t.nobody mine then (Gw.none, 7)
  else if mine = pl then (Gw.none, 1)
  else if rungs.length ≠ (dirL t.size pl).length then (Gw.none, 16)
  else if ¬ ∀ i (h : i < rungs.length), rungs[i].wraps.length = (sideK t pl (dirL t.size pl) fresh i).length then (Gw.none, 16)
  else
    let way := dirL t.size pl
    let at_ := way.findIdx fun x => decide (hld t.size x mine)
    let o := openedT about keys (sideK t pl way fresh at_) (rungs.getD at_ ⟨hzero, []⟩).wraps
    if o.2 ≠ 0 then (Gw.none, o.2)
    else if pubsL o.1 (way.length - at_) ≠ (rungs.map Rg.pub).drop at_ then (Gw.none, 16)
    else (⟨(t.pathP pl leaf (rungs.map Rg.pub)).1, rungs, secL o.1 (way.length - at_), keepT (t.pathP pl leaf (rungs.map Rg.pub)).1 ((keysL (way.drop at_) o.1 (way.length - at_)).map Ky.kr ++ keys), comS o.1 (way.length - at_)⟩, 0)
section
variable {H : Hp} {w0 w : World} {L R : List Res} {A B K F : Option Addr} {a b c n m kc fc : Nat} {t : Tr} {v : Value}
def CloF {α : Type} (P : Program) (H : Hp) (c : Value) (enc : α → Value) (f : α → Bool) : Prop :=
  ∀ (y : α) (w : World) (w0 : World) (L : List Res) (K : Value → World → Prop) (X : List PanicEntry → World → Prop), Mem H w0 L w → (∀ w', Mem H w0 L w' → K (.bool (f y)) w') → mop P (o_call c [enc y]) w K X
theorem iidxF_ok {cl : Value} {f : Int → Bool} (xs : List Int) (hl : xs.length ≤ 1000000) (hs : Sl H 1 A (ints8 xs)) (hc : CloF Tryz.prog H cl ivv f) (hM : Mem H w0 L w) :
    Calls Tryz.prog 58 #[.slice A xs.length c, cl] w fun en w' => ∃ v, en = .returned v ∧ v = .int .i64 (idxI f xs) ∧ Mem H w0 L w' := by
  have h8 := ints8_length xs
  refine C_slices_IndexFunc_int_int ?_
  unfold F_slices_IndexFunc_int_int
  ((with_reducible (refine mop_c trivial ?_)))
  refine ⟨fun x w => ∃ i : Nat, x = .int .i64 i ∧ i ≤ xs.length ∧ (∀ j (hj : j < xs.length), j < i → f xs[j] = false) ∧ hM.now w, fun x _ => match x with | .int _ i => xs.length - i.toNat | _ => 0, ⟨0, rfl, by omega, by intro j hj h; omega, hM⟩, ?_⟩
  rintro x u w ⟨i, rfl, hi, hf, hM⟩
  ((with_reducible (refine mop_cS trivial ?_ ?_)))
  · intro hlt
    have hit : i < xs.length := by omega
    ((with_reducible (refine mif_true ?_)); (with_reducible refine mm_ixs ‹_› ?_ ?_ ?_); (focus (simp only [List.length_map]; omega)); (focus (simp only [List.length_map]; first | done | omega)); (with_reducible (intro _ _ hA)); (cases hA); (with_reducible refine mm_lds0 hM ‹_› (map_atI ?_) ?_); (focus omega))
    refine hc _ _ _ _ _ _ hM (fun w hM => ?_)
    cases hfi : f xs[i]
    · ((with_reducible (refine mif_false ?_; refine mop_c ?_ ?_)); (focus omega))
      exact ⟨⟨i + 1, by rw [Value.int.injEq]; refine ⟨rfl, ?_⟩; push_cast; rfl, by omega, fun j hj hji => by
        rcases Nat.lt_or_ge j i with h | h
        · exact hf j hj h
        · obtain rfl : j = i := by omega
          exact hfi, hM⟩, by simp only; omega⟩
    · ((with_reducible (refine mif_true ?_)))
      exact ⟨_, rfl, by rw [idxI_at (i := i) hit (fun j hj => hf j (by omega) hj) hfi], hM⟩
  · intro hge
    ((with_reducible (refine mif_false ?_)))
    exact ⟨_, rfl, by rw [idxI_none fun j hj => hf j hj (by omega)], hM⟩
theorem cloStr_ok {ps : List (List Fd)} (hs : Sl (Hp.of w) 1 A ps) (hn : n = ps.length) (hb : n ≤ 1000000) (hM : Mem H w0 L w) : Calls Tryz.prog 62 #[.slice A n a] w fun en w' => ∃ v, en = .returned v ∧ Ext w w' ∧ ∃ A' a', v = .slice A' n a' ∧ Mem H w0 (rowR 9 1 A' n a' ps :: L) w' := by
  refine C_slices_Clone_string_string ?_
  unfold F_slices_Clone_string_string
  refine clone_gen (P := Tryz.prog) (t := 70) (R := fun en w' => ∃ v, en = .returned v ∧ Ext w w' ∧ ∃ A' a', v = .slice A' n a' ∧ Mem H w0 (rowR 9 1 A' n a' ps :: L) w') hs hn hM ?_ (fun A' a' w' hx hM => ⟨_, rfl, hx, _, _, rfl, hM⟩)
  omega
theorem clo_follow (g1 g2 : Nat) (n m : Int) (h1 : FbF H g1 [.one (.int .i64 n)]) (h2 : FbF H g2 [.one (.int .i64 m)]) : CloF Tryz.prog H (.func (.func 59) #[] #[.pointer (some ⟨g1, 0, none⟩), .pointer (some ⟨g2, 0, none⟩)]) ivv (fun x : Int => decide (hld n x m)) := fun y w w0 L K X hM hk => by
  refine mop_callv (Q := fun en w' => en = .returned (.bool (decide (hld n y m))) ∧ Mem H w0 L w') ?_ ?_
  · show Calls Tryz.prog 59 #[.int .i64 y, .pointer (some ⟨g1, 0, none⟩), .pointer (some ⟨g2, 0, none⟩)] w _
    refine C_climb_Follow_1 ?_
    unfold F_climb_Follow_1
    ((with_reducible refine mm_ldf hM ‹_› ?_); (with_reducible refine mm_ldf hM ‹_› ?_); (with_reducible (refine mm_purC hM ?_ ?_)); (focus (first | exact trivial | assumption | omega)); (with_reducible (clear hM; intro _ hM)))
    exact ⟨rfl, hM⟩
  · rintro en w' ⟨rfl, hM⟩
    exact hk _ hM
end
end Go.Proofs.YtpjodlnlmaaihaaGreat
namespace Go.Proofs.YtpjodlnlmaaihaaGreat
open Go.RowKit Go.Lib
section
variable {H : Hp} {w0 w : World} {L R : List Res} {A B K F : Option Addr} {a b c n m kc fc ra : Nat} {t : Tr} {v : Value} {qr : List (List Fd)}
theorem dS_no {P : Program} {s : Sem Next} {S : Rl} {Kt : Value → World → Prop} (h : Mem H w0 L w) (hk : ∀ w1, Mem H w0 L w1 → mop P s w1 Kt (fun _ _ => False)) : dfS P S w s false Kt :=
  ⟨fun w1 hd => mop_mono (hk w1 (h.drawn hd)) (fun _ _ x => ⟨(fun e => by cases e), x⟩) fun _ _ h => h⟩
theorem follow_ok (pl : Int) (leaf : H32) (rungs : List Rg) (about fresh : List Int) (mine : Int) (keys : List Kr) (hpl : -1000000 ≤ pl ∧ pl ≤ 1000000) (hmi : -1000000 ≤ mine ∧ mine ≤ 1000000) (hal : about.length ≤ 1000000) (hl : fresh.length ≤ maxLen) (hrl : rungs.length ≤ 100000) (hkl : keys.length ≤ 900)
    (hwr : ∀ r ∈ rungs, ∀ x ∈ r.wraps, x.length ≤ 1000000 ∧ ∀ y ∈ x, 0 ≤ y ∧ y < 256) (h : TrF H v t) (hfr : Sl H 1 F (ints8 fresh)) (hR1 : Sl H 33 A qr) (hR2 : All2 (RgF H) qr rungs) (hK : Sl H 33 K (keys.map Kr.fds)) (hf : Fz H w) :
    Calls Tryz.prog 20 #[.pointer none, v, .int .i64 pl, ha leaf, .slice A rungs.length ra, .string (strOfNums about), .slice F fresh.length fc, .int .i64 mine, .slice K keys.length kc] w (Outp H w fun H' r => ∃ gv, r = .tuple #[gv, .int .i64 (followT t pl leaf rungs about fresh mine keys).2] ∧ GwF H' gv (followT t pl leaf rungs about fresh mine keys).1) := by
  have hx := h.ex
  obtain ⟨TA, ta, TB, tb, tq, rfl, -⟩ := hx
  obtain ⟨w1, hw1⟩ : ∃ w1, w1 = w := ⟨_, rfl⟩
  rw [← hw1]
  rw [← hw1] at hf
  have hM := Mem.start hf
  have hqr : qr.length = rungs.length := hR2.len
  refine C_climb_Follow ?_
  unfold F_climb_Follow
  ((with_reducible (refine mm_box hM ?_; clear hM; intro _ _ hM; refine mm_box hM ?_; clear hM; intro _ _ hM; refine mm_box hM ?_; clear hM; intro _ _ hM; refine mm_new hM ?_; clear hM; intro _ _ hM; refine mm_ld hM ?_)))
  rename_i gt _ gl _ gm _ g18 _
  refine mm_pure hM (right_c h hM.fz) (fun w hM2 => ?_)
  replace hM := hM2
  clear hM2
  unfold followT
  cases hr : t.right
  · ((with_reducible (refine mop_c trivial ?_; refine mif_true ?_; refine mop_c trivial ?_; refine mm_st hM ?_; clear hM; intro _ hM; refine rm_ld hM ?_)))
    exact hM.out (Le.refl _ _) ⟨_, rfl, GwF.none _⟩
  rw [if_neg (by simp)]
  have hR := Tr.rt.1 hr
  have hlen := hR.len
  have hts : t.size = t.ls.length := rfl
  have hdl := dirL_len t.size pl
  ((with_reducible (refine mop_c trivial ?_; refine mif_false ?_)))
  refine ⟨fun v w' => v = .bool (decide (t.nobody pl ∨ t.nobody mine)) ∧ hM.now w', ?_, ?_⟩
  · ((with_reducible (refine mm_ld hM ?_)))
    refine mm_pure hM (cblank_ok pl h hM.fz) (fun w hM => ?_)
    by_cases hnb : t.nobody pl
    · rw [decide_eq_true hnb]
      ((with_reducible ((iterate 3 refine mguard_n1 ?_); refine mop_c trivial ?_)))
      exact ⟨by rw [decide_eq_true (Or.inl hnb)], hM⟩
    · rw [decide_eq_false hnb]
      ((with_reducible (refine mguard_yes ?_; refine mm_ld hM ?_; refine mguard_yes ?_; refine mm_ld hM ?_; refine mguard_yes ?_)))
      refine mm_pure hM (cblank_ok mine h hM.fz) (fun w hM => ?_)
      ((with_reducible (refine mop_c trivial ?_)))
      refine ⟨?_, hM⟩
      rw [Value.bool.injEq, decide_eq_decide]
      exact ⟨fun h => .inr h, fun h => h.resolve_left hnb⟩
  rintro v u w2 ⟨rfl, hM2⟩
  replace hM : Mem H w1 [fb g18 56 (gfd none 0 0 none 0 0 none 0 0 none 0 0 none 0 0 hzero), fb gm 3 [.one (.int .i64 mine)], fb gl 34 [.arr 32 (u8s leaf.1)], fb gt 25 (tfd TA t.ls.length ta TB t.ps.length tb)] _ := hM2
  clear hM2
  by_cases hnb : t.nobody pl ∨ t.nobody mine
  · rw [decide_eq_true hnb, if_pos hnb]
    ((with_reducible (refine mif_true ?_; refine mop_c trivial ?_; refine mm_st hM ?_; clear hM; intro _ hM; refine rm_ld hM ?_)))
    exact hM.out (Le.refl _ _) ⟨_, rfl, GwF.none _⟩
  rw [decide_eq_false hnb, if_neg hnb]
  obtain ⟨b0, b1, b2⟩ := Tr.body (fun k => hnb (.inl k))
  obtain ⟨c0, c1, c2⟩ := Tr.body (fun k => hnb (.inr k))
  ((with_reducible (refine mif_false ?_; refine mm_ld hM ?_)))
  ((with_reducible (refine mop_cS trivial ?_ ?_)))
  · intro he
    rw [if_pos he]
    ((with_reducible (refine mif_true ?_; refine mop_c trivial ?_; refine mm_st hM ?_; clear hM; intro _ hM; refine rm_ld hM ?_)))
    exact hM.out (Le.refl _ _) ⟨_, rfl, GwF.none _⟩
  intro he
  rw [if_neg he]
  ((with_reducible (refine mif_false ?_; refine mop_c trivial ?_; refine mm_ld hM ?_; refine mop_c trivial ?_; refine mm_new hM ?_; clear hM; intro _ _ hM; refine mm_st hM ?_; clear hM; intro _ hM; refine mm_ld hM ?_)))
  rename_i g20 _ _
  refine mm_call hM (bdirectC_ok t.size pl (by omega) hM.fz) ?_
  clear hM
  rintro H2 r w2 l2 hM ⟨WA, wc, rfl, hwc, hW⟩
  ((with_reducible (refine mop_c trivial ?_; refine mop_c trivial ?_)))
  ((with_reducible (refine mop_cS trivial ?_ ?_)))
  · intro hne
    rw [if_pos (by omega)]
    ((with_reducible (refine mif_true ?_; refine mop_c trivial ?_; refine mm_st hM ?_; clear hM; intro _ hM; refine rm_ld hM ?_)))
    exact hM.out l2 ⟨_, rfl, GwF.none _⟩
  intro hne
  rw [if_neg (by omega)]
  have hrw : rungs.length = (dirL t.size pl).length := by omega
  have h2 := h.mono l2.le
  have hfr2 := hfr.mono l2.le
  ((with_reducible (refine mif_false ?_; refine mm_ld hM ?_)))
  refine mm_call hM (beside_ok pl fresh hl ⟨b0, by omega⟩ hR h2 hW hfr2 hM.fz) ?_
  clear hM
  rintro H3 r w7 l3 hM ⟨SA, sc, qs, rfl, hS, hSA⟩
  have hqs : qs.length = (dirL t.size pl).length := by
    have := hSA.len
    rw [this]
    simp [sidesK]
  have hR13 := hR1.mono (l2.trans l3).le
  have hR23 := hR2.mono fun q x k => RgF.mono k (l2.trans l3).le
  have hW3 := hW.mono l3.le
  have hK3 := hK.mono (l2.trans l3).le
  have h3 := h.mono (l2.trans l3).le
  ((with_reducible (refine mop_c trivial ?_)))
  refine ⟨fun v w' => ∃ i : Nat, v = .int .i64 i ∧ i ≤ (dirL t.size pl).length ∧ (∀ j (hj : j < rungs.length), j < i → rungs[j].wraps.length = (sideK t pl (dirL t.size pl) fresh j).length) ∧ Mem H3 w1 [fb g20 3 [.one (.int .i64 t.ls.length)], fb g18 56 (gfd none 0 0 none 0 0 none 0 0 none 0 0 none 0 0 hzero), fb gm 3 [.one (.int .i64 mine)], fb gl 34 [.arr 32 (u8s leaf.1)], fb gt 25 (tfd TA t.ls.length ta TB t.ps.length tb)] w', fun v _ => match v with | .int _ k => (dirL t.size pl).length - k.toNat | _ => 0, ⟨0, rfl, by omega, fun j _ hj => by omega, hM.sub⟩, ?_⟩
  clear hM
  rintro v u w8 ⟨i, rfl, hi, hlow, hM⟩
  skip
  ((with_reducible (refine mop_cS trivial ?_ ?_)))
  · intro hlt
    have hit : i < (dirL t.size pl).length := by omega
    have hir : i < rungs.length := by omega
    obtain ⟨q, hq1, SC, scc, rfl, hSC, hscl⟩ := hSA.at_ (i := i) (by simp [sidesK]; omega)
    have hse : (sidesK t pl (dirL t.size pl) fresh (dirL t.size pl).length)[i]'(by simp [sidesK]; omega) = sideK t pl (dirL t.size pl) fresh i := by simp [sidesK]
    rw [hse] at hq1 hSC hscl
    obtain ⟨q2, hq2, RC, rcc, rfl, hRC, hrcl⟩ := hR23.at_ (i := i) hir
    have hq1' : qs[((i : Int)).toNat]? = some [.one (.slice SC (sideK t pl (dirL t.size pl) fresh i).length scc)] := hq1
    have hq2' : qr[((i : Int)).toNat]? = some (rungs[i].row RC rcc) := hq2
    ((with_reducible (refine mif_true ?_)))
    refine mm_ixs hS (by omega) hqs.symm (fun bb oo hB => ?_)
    cases hB
    refine mm_lds0 hM hS hq1' ?_
    skip
    refine mm_ixs hR13 (by omega) hqr.symm (fun bb oo hB => ?_)
    cases hB
    ((with_reducible (refine mop_c trivial ?_)))
    refine mm_lds hM hR13 hq2' ?_
    ((with_reducible (refine mop_c trivial ?_; refine mop_c trivial ?_)))
    ((with_reducible (refine mop_cS trivial ?_ ?_)))
    · intro hwne
      rw [if_pos (fun hall => by have := hall i hir; omega)]
      ((with_reducible (refine mif_true ?_; refine mop_c trivial ?_; refine mm_st hM ?_; clear hM; intro _ hM; refine rm_ld hM ?_)))
      exact hM.out (l2.trans l3) ⟨_, rfl, GwF.none _⟩
    · intro hwe
      ((with_reducible (refine mif_false ?_; refine mop_c ?_ ?_)); (focus omega))
      exact ⟨⟨i + 1, by rw [Value.int.injEq]; refine ⟨rfl, ?_⟩; push_cast; rfl, by omega, fun j hj hji => by
        rcases Nat.lt_or_ge j i with h | h
        · exact hlow j hj h
        · obtain rfl : j = i := by omega
          omega, hM⟩, by simp only; omega⟩
  intro hge
  obtain rfl : i = (dirL t.size pl).length := by omega
  have hall : ∀ j (hj : j < rungs.length), rungs[j].wraps.length = (sideK t pl (dirL t.size pl) fresh j).length := fun j hj => hlow j hj (by omega)
  rw [if_neg (fun k => k hall)]
  replace hM : Mem H3 w1 (fb g20 3 [.one (.int .i64 t.ls.length)] :: fb gm 3 [.one (.int .i64 mine)] :: [fb g18 56 (gfd none 0 0 none 0 0 none 0 0 none 0 0 none 0 0 hzero), fb gl 34 [.arr 32 (u8s leaf.1)], fb gt 25 (tfd TA t.ls.length ta TB t.ps.length tb)]) _ := hM.sub
  obtain ⟨H4, l4, hM4, hg20⟩ := hM.fzb
  obtain ⟨H5, l5, hM5, hgm⟩ := hM4.fzb
  clear hM hM4
  have hM := hM5
  clear hM5
  replace hg20 := hg20.mono l5.le
  have l35 := l4.trans l5
  replace hS := hS.mono l35.le
  replace hSA := hSA.mono fun q x k => IrF.mono k l35.le
  replace hR13 := hR13.mono l35.le
  replace hR23 := hR23.mono fun q x k => RgF.mono k l35.le
  replace hW3 := hW3.mono l35.le
  replace hK3 := hK3.mono l35.le
  replace h3 := h3.mono l35.le
  have hle5 := (l2.trans l3).trans l35
  have hmeet := dir_meets (n := t.size) (p := pl) (q := mine) ⟨b0, by omega⟩ ⟨c0, by omega⟩ (by omega) he
  obtain ⟨q, hq⟩ : ∃ q, (dirL t.size pl).findIdx (fun x => decide (hld t.size x mine)) = q := ⟨_, rfl⟩
  have hidx : idxI (fun x => decide (hld t.size x mine)) (dirL t.size pl) = q := by
    rw [← hq]
    exact idxI_at hmeet (fun j hj => by simpa using List.not_of_lt_findIdx hj) (List.findIdx_getElem (w := hmeet))
  rw [hq] at hmeet
  simp only [hq]
  have hqr2 : q < rungs.length := by omega
  obtain ⟨e1, hq1, SC, scc, rfl, hSC, hscl⟩ := hSA.at_ (i := q) (by simp [sidesK]; omega)
  have hse : (sidesK t pl (dirL t.size pl) fresh (dirL t.size pl).length)[q]'(by simp [sidesK]; omega) = sideK t pl (dirL t.size pl) fresh q := by simp [sidesK]
  rw [hse] at hq1 hSC hscl
  obtain ⟨e2, hq2, RC, rcc, rfl, hRC, hrcl⟩ := hR23.at_ (i := q) hqr2
  have hrg : rungs.getD q ⟨hzero, []⟩ = rungs[q] := by
    rw [List.getD_eq_getElem?_getD, List.getElem?_eq_getElem hqr2]
    rfl
  rw [hrg]
  have hq1' : qs[((q : Int)).toNat]? = some [.one (.slice SC (sideK t pl (dirL t.size pl) fresh q).length scc)] := hq1
  have hq2' : qr[((q : Int)).toNat]? = some (rungs[q].row RC rcc) := hq2
  ((with_reducible (refine mif_false ?_; refine mop_c trivial ?_)))
  refine mm_own (iidxF_ok (dirL t.size pl) (by omega) hW3 (clo_follow g20 gm t.size mine hg20 hgm) hM) ?_
  clear hM
  rintro r w9 ⟨rfl, hM⟩
  rw [hidx]
  have hop := fun (w : World) (hf : Fz H5 w) => opened_ok (K := K) (kc := kc) about (sideK t pl (dirL t.size pl) fresh q) rungs[q].wraps keys hal (by omega) (hall q hqr2) (by omega) (hwr _ (List.getElem_mem hqr2)) hSC hRC hK3 hf (a := scc) (b := rcc)
  generalize openedT about keys (sideK t pl (dirL t.size pl) fresh q) rungs[q].wraps = oo at hop ⊢
  obtain ⟨os, oe⟩ := oo
  simp only at hop ⊢
  refine ⟨fun v1 v2 w' => ∃ g26 : Nat, v1 = .pointer (some ⟨g26, 0, none⟩) ∧ v2 = .int .i64 oe ∧ Mem H5 w1 [fb g26 34 [.arr 32 (u8s os.1)], fb g18 56 (gfd none 0 0 none 0 0 none 0 0 none 0 0 none 0 0 hzero), fb gl 34 [.arr 32 (u8s leaf.1)], fb gt 25 (tfd TA t.ls.length ta TB t.ps.length tb)] w', ?_, ?_⟩
  · have hM0 := hM
    repeat' apply And.intro
    all_goals
      refine dp_ixs hS (by omega) hqs.symm (fun bb oo hB => ?_)
      subst hB
      refine dm_lds0 hM0 hS hq1' ?_
      refine dp_ixs hR13 (by omega) hqr.symm (fun bb2 oo2 hB => ?_)
      subst hB
      ((with_reducible (refine dp_c trivial ?_)))
      refine dm_lds hM0 hR13 hq2' ?_
      (first | ((with_reducible (refine dm_new hM ?_; clear hM; intro _ _ hM))) | skip)
      refine dm_pure hM (fun w hM => hop w hM.fz) (fun w5 _ hM2 => ?_)
      replace hM := hM2
      clear hM2
      (first | ((with_reducible (refine dp_c trivial ?_; refine dp_c trivial ?_; refine dm_new hM ?_; clear hM; intro _ _ hM; refine dS_st hM ?_; clear hM; intro _ hM; refine mm_end hM ?_; clear hM; intro _ hM))) | ((with_reducible (refine dp_c trivial ?_; refine dp_c trivial ?_; refine dS_st hM ?_; clear hM; intro _ hM; refine mm_end hM ?_; clear hM; intro _ hM))))
      exact ⟨_, rfl, rfl, hM.sub⟩
  clear hM hop
  rintro v1 v2 u2 w10 ⟨g26, rfl, rfl, hM⟩
  by_cases hoe : oe = 0
  · subst hoe
    rw [if_neg (by simp)]
    ((with_reducible (refine mop_cF trivial ?_ ?_)); (focus (first | assumption | omega | with_reducible rfl | exact fun h => Bool.noConfusion h)); (with_reducible (refine mif_false ?_; refine mop_c trivial ?_)))
    replace hM : Mem H5 w1 [rowR 34 32 none 0 0 (kfds ((rungs.map Rg.pub).take 0)), fb g26 34 [.arr 32 (u8s os.1)], fb g18 56 (gfd none 0 0 none 0 0 none 0 0 none 0 0 none 0 0 hzero), fb gl 34 [.arr 32 (u8s leaf.1)], fb gt 25 (tfd TA t.ls.length ta TB t.ps.length tb)] _ := hM.row0 34 32
    refine ⟨fun v1 v2 w' => ∃ (i : Nat) (KB : Option Addr) (kb : Nat), v1 = .slice KB i kb ∧ v2 = .int .i64 i ∧ i ≤ rungs.length ∧ Mem H5 w1 [rowR 34 32 KB i kb (kfds ((rungs.map Rg.pub).take i)), fb g26 34 [.arr 32 (u8s os.1)], fb g18 56 (gfd none 0 0 none 0 0 none 0 0 none 0 0 none 0 0 hzero), fb gl 34 [.arr 32 (u8s leaf.1)], fb gt 25 (tfd TA t.ls.length ta TB t.ps.length tb)] w', fun _ v _ => match v with | .int _ k => rungs.length - k.toNat | _ => 0, ⟨0, none, 0, rfl, rfl, by omega, hM⟩, ?_⟩
    clear hM
    rintro v1 v2 u w11 ⟨i, KB, kb, rfl, rfl, hi, hM⟩
    skip
    ((with_reducible (refine mop_cS trivial ?_ ?_)))
    · intro hlt
      have hir : i < rungs.length := by omega
      obtain ⟨e3, hq3, RD, rdc, rfl, hRD, -⟩ := hR23.at_ (i := i) hir
      have hq3' : qr[((i : Int)).toNat]? = some (rungs[i].row RD rdc) := hq3
      ((with_reducible (refine mif_true ?_)))
      refine mm_ixs hR13 (by omega) hqr.symm (fun bb oo hB => ?_)
      subst hB
      refine mm_lds0 hM hR13 hq3' ?_
      ((with_reducible (refine mm_new hM ?_; clear hM; intro _ _ hM; refine mm_st hM ?_; clear hM; intro _ hM; refine mop_c trivial ?_; refine mm_ld hM ?_; refine mm_bsl hM ?_ ?_ ?_)); (focus rfl); (focus (constructor <;> simp)); (with_reducible (clear hM; intro _ _ hM; refine mm_appo hM ?_ ?_)); (focus omega); (with_reducible (clear hM; intro _ _ _ hM; refine mop_c ?_ ?_)); (focus omega))
      rename_i KB2 kb2 _
      have e1 : kfds ((rungs.map Rg.pub).take i) ++ [[.arr 32 (u8s rungs[i].pub.1)]] = kfds ((rungs.map Rg.pub).take (i + 1)) := by
        rw [List.take_succ_eq_append_getElem (by simpa using hir), kfds_app]
        simp [kfds]
      rw [e1] at hM
      exact ⟨⟨i + 1, KB2, kb2, rfl, by rw [Value.int.injEq]; refine ⟨rfl, ?_⟩; push_cast; rfl, by omega, hM.sub⟩, by simp only; omega⟩
    intro hge2
    obtain rfl : i = rungs.length := by omega
    have hrml : (rungs.map Rg.pub).length = rungs.length := by rw [List.length_map]
    rw [List.take_of_length_le (by omega)] at hM
    have hkb := (Mem.rowLen hM ⟨.refl _⟩).2.1
    obtain ⟨H6, l6, hM6, hKB, -⟩ := hM.fz0
    clear hM
    have hM := hM6
    clear hM6
    replace hR13 := hR13.mono l6.le
    replace hR23 := hR23.mono fun q x k => RgF.mono k l6.le
    replace hW3 := hW3.mono l6.le
    replace hK3 := hK3.mono l6.le
    replace h3 := h3.mono l6.le
    ((with_reducible (refine mif_false ?_)))
    have hwr2 : ∀ x ∈ (dirL t.size pl).drop q, 0 ≤ x ∧ x ≤ 1000 := fun x hx => by
      obtain ⟨m, hm, rfl⟩ := List.getElem_of_mem (List.mem_of_mem_drop hx)
      have := way_mem (n := t.size) (pl := pl) ⟨b0, by omega, by omega⟩ hm
      omega
    have hdq : ((dirL t.size pl).drop q).length = (dirL t.size pl).length - q := by rw [List.length_drop]
    have hrq : ((rungs.map Rg.pub).drop q).length = (dirL t.size pl).length - q := by rw [List.length_drop, hrml, hrw]
    have hdi : (ints8 (dirL t.size pl)).drop q = ints8 ((dirL t.size pl).drop q) := (List.map_drop ..).symm
    have hdk : (kfds (rungs.map Rg.pub)).drop q = kfds ((rungs.map Rg.pub).drop q) := (List.map_drop ..).symm
    have h8l := ints8_length (dirL t.size pl)
    by_cases hok : pubsL os ((dirL t.size pl).length - q) = (rungs.map Rg.pub).drop q
    · rw [if_neg (fun k => k hok)]
      refine ⟨fun v1 v2 w' => ∃ (g31 : Nat) (SA : Option Addr) (sc : Nat) (KA : Option Addr) (kc2 : Nat), v1 = .pointer (some ⟨g31, 0, none⟩) ∧ v2 = .bool true ∧ Mem H6 w1 [fb g31 56 (gfd none 0 0 none 0 0 none 0 0 SA ((dirL t.size pl).length - q) sc KA ((dirL t.size pl).length - q) kc2 (comS os ((dirL t.size pl).length - q))), rowR 34 32 SA ((dirL t.size pl).length - q) sc (kfds (secL os ((dirL t.size pl).length - q))), rowR 43 33 KA ((dirL t.size pl).length - q) kc2 ((keysL ((dirL t.size pl).drop q) os ((dirL t.size pl).length - q)).map Ky.fds), fb g18 56 (gfd none 0 0 none 0 0 none 0 0 none 0 0 none 0 0 hzero), fb gl 34 [.arr 32 (u8s leaf.1)], fb gt 25 (tfd TA t.ls.length ta TB t.ps.length tb)] w', ?_, ?_⟩
      · have hM0 := hM
        repeat' apply And.intro
        all_goals
          refine dp_sld hW3 (by omega) (by omega) hwc (fun WB hWB => ?_)
          rw [Int.toNat_natCast, hdi] at hWB
          rw [Int.toNat_natCast]
          ((with_reducible (refine dm_ld hM ?_)))
          refine dp_sld hKB (by rw [List.length_map]; omega) (by omega) hkb (fun PB hPB => ?_)
          rw [Int.toNat_natCast, hdk] at hPB
          rw [Int.toNat_natCast]
          (first | ((with_reducible (refine dm_new hM ?_; clear hM; intro _ _ hM))) | skip)
          have hro := fun (w : World) (L : List Res) (hM : Mem H6 w1 L w) => risen_q (Q := fun v w' => ∃ SA sc KA kc, v = .tuple #[.agg (fl (gfd none 0 0 none 0 0 none 0 0 SA ((dirL t.size pl).length - q) sc KA ((dirL t.size pl).length - q) kc (comS os ((dirL t.size pl).length - q)))).toArray, .bool true] ∧ Mem H6 w1 (rowR 34 32 SA ((dirL t.size pl).length - q) sc (kfds (secL os ((dirL t.size pl).length - q))) :: rowR 43 33 KA ((dirL t.size pl).length - q) kc ((keysL ((dirL t.size pl).drop q) os ((dirL t.size pl).length - q)).map Ky.fds) :: L) w') ((dirL t.size pl).drop q) os ((rungs.map Rg.pub).drop q) (by omega) (by omega) hwr2 hWB hPB hM (fun _ SA sc KA kc w' hM => ⟨SA, sc, KA, kc, by rw [hdq], by rw [hdq] at hM; exact hM⟩) (fun k => absurd (by rw [hdq]; exact hok) k) (a := wc - q) (b := kb - q)
          rw [hdq, hrq] at hro
          have e9 : rungs.length - q = (dirL t.size pl).length - q := by omega
          rw [e9]
          refine df_no hM (fun w hM => ?_)
          refine mm_own (hro w _ hM) ?_
          rintro r w5 ⟨SA2, sc2, KA2, kc2, rfl, hM2⟩
          replace hM := hM2
          clear hM2
          (first | ((with_reducible (refine dp_c trivial ?_; refine dp_c trivial ?_; refine dm_new hM ?_; clear hM; intro _ _ hM; refine dS_st hM ?_; clear hM; intro _ hM; refine mm_end hM ?_; clear hM; intro _ hM))) | ((with_reducible (refine dp_c trivial ?_; refine dp_c trivial ?_; refine dS_st hM ?_; clear hM; intro _ hM; refine mm_end hM ?_; clear hM; intro _ hM))))
          exact ⟨_, SA2, sc2, KA2, kc2, rfl, rfl, hM.sub⟩
      clear hM
      rintro v1 v2 u w12 ⟨g31, SA2, sc2, KA2, kc2, rfl, rfl, hM⟩
      have hlp : rungs.length = (rungs.map Rg.pub).length := hrml.symm
      ((with_reducible (refine mop_c trivial ?_; refine mif_false ?_; refine mm_ld hM ?_; refine mm_ld hM ?_)))
      rw [hlp]
      refine mm_call hM (path_c pl leaf (rungs.map Rg.pub) (by omega) hKB h3 hM.fz) ?_
      rw [← hlp]
      clear hM
      rintro H7 r w13 l7 hM ⟨v1, rfl, hv1⟩
      generalize t.pathP pl leaf (rungs.map Rg.pub) = tp at hv1 ⊢
      have hvx := hv1.ex
      obtain ⟨PA, pa, PB, pb, pq, rfl, -⟩ := hvx
      have hR17 := hR13.mono l7.le
      have hR27 := hR23.mono fun q x k => RgF.mono k l7.le
      have hK7 := hK3.mono l7.le
      ((with_reducible ((iterate 3 refine mop_c trivial ?_); refine mm_st hM ?_; clear hM; intro _ hM)))
      replace hM : Mem H7 w1 [fb g31 56 (gfd PA tp.1.ls.length pa PB tp.1.ps.length pb none 0 0 SA2 ((dirL t.size pl).length - q) sc2 KA2 ((dirL t.size pl).length - q) kc2 (comS os ((dirL t.size pl).length - q))), rowR 34 32 SA2 ((dirL t.size pl).length - q) sc2 (kfds (secL os ((dirL t.size pl).length - q))), rowR 43 33 KA2 ((dirL t.size pl).length - q) kc2 ((keysL ((dirL t.size pl).drop q) os ((dirL t.size pl).length - q)).map Ky.fds), fb g18 56 (gfd none 0 0 none 0 0 none 0 0 none 0 0 none 0 0 hzero)] _ := hM.sub
      have hkn := keysL_len ((dirL t.size pl).drop q) os ((dirL t.size pl).length - q)
      have hkk : (keysL ((dirL t.size pl).drop q) os ((dirL t.size pl).length - q)).map Ky.fds ++ keys.map Kr.fds = ((keysL ((dirL t.size pl).drop q) os ((dirL t.size pl).length - q)).map Ky.kr ++ keys).map Kr.fds := by
        rw [List.map_append, List.map_map]
        rfl
      have hkkl : ((dirL t.size pl).length - q) + keys.length = ((keysL ((dirL t.size pl).drop q) os ((dirL t.size pl).length - q)).map Ky.kr ++ keys).length := by rw [List.length_append, List.length_map, hkn]
      refine ⟨Rl.fz (hadd H7 g31 (fl (gfd PA tp.1.ls.length pa PB tp.1.ps.length pb none 0 0 SA2 ((dirL t.size pl).length - q) sc2 KA2 ((dirL t.size pl).length - q) kc2 (comS os ((dirL t.size pl).length - q))))), ?_⟩
      have hF := hM.fzAdd hM.fz g31
      have hgf : FbF (hadd H7 g31 (fl (gfd PA tp.1.ls.length pa PB tp.1.ps.length pb none 0 0 SA2 ((dirL t.size pl).length - q) sc2 KA2 ((dirL t.size pl).length - q) kc2 (comS os ((dirL t.size pl).length - q))))) g31 (gfd PA tp.1.ls.length pa PB tp.1.ps.length pb none 0 0 SA2 ((dirL t.size pl).length - q) sc2 KA2 ((dirL t.size pl).length - q) kc2 (comS os ((dirL t.size pl).length - q))) := FbF.add inferInstance
      ((with_reducible (refine dp_c trivial ?_)); (with_reducible refine dK_ldf ‹_› ‹_› ?_); (with_reducible (refine dp_c trivial ?_)); (with_reducible refine dK_ldf ‹_› ‹_› ?_))
      refine dfz hM (fun w hM => ?_)
      refine mm_apps hM hK7 (by rw [List.length_map]) ?_ ?_
      focus (constructor <;> omega)
      clear hM
      intro A' c' w' hM
      refine ⟨hM.fzAdd hM.fz g31, ?_⟩
      clear hF hgf
      rw [hkk, hkkl] at hM
      rw [hkkl]
      skip
      refine dS_no hM (fun w hM => ?_)
      obtain ⟨H8, l8, hM8, hKs, -⟩ := hM.fz0
      clear hM
      have h88 := hv1.mono l8.le
      refine mm_call hM8 (keep_ok ((keysL ((dirL t.size pl).drop q) os ((dirL t.size pl).length - q)).map Ky.kr ++ keys) (by omega) h88 hKs hM8.fz) ?_
      rintro H9 r w14 l9 hM ⟨KC, kcc, rfl, hKC⟩
      clear hM8
      have hv9 := h88.mono l9.le
      have hR19 := hR17.mono (l8.trans l9).le
      have hR29 := hR27.mono fun q x k => RgF.mono k (l8.trans l9).le
      generalize keepT tp.1 ((keysL ((dirL t.size pl).drop q) os ((dirL t.size pl).length - q)).map Ky.kr ++ keys) = kt at hKC ⊢
      ((with_reducible (refine dp_c trivial ?_; refine dS_st hM ?_; clear hM; intro _ hM; refine mm_end hM ?_; clear hM; intro _ hM; refine mop_c trivial ?_)))
      replace hM : Mem H9 w1 [fb g31 56 (gfd PA tp.1.ls.length pa PB tp.1.ps.length pb none 0 0 SA2 ((dirL t.size pl).length - q) sc2 KC kt.length kcc (comS os ((dirL t.size pl).length - q))), rowR 72 33 none 0 0 [], rowR 34 32 SA2 ((dirL t.size pl).length - q) sc2 (kfds (secL os ((dirL t.size pl).length - q))), fb g18 56 (gfd none 0 0 none 0 0 none 0 0 none 0 0 none 0 0 hzero)] _ := (hM.row0 72 33).sub
      refine ⟨fun v1 w' => ∃ (i : Nat) (Hc : Hp) (RA : Option Addr) (rc : Nat) (rs : List (List Fd)), v1 = .int .i64 i ∧ i ≤ rungs.length ∧ rs.length = i ∧ Le w1 H9 Hc ∧ All2 (RgF Hc) rs (rungs.take i) ∧ Mem Hc w1 [fb g31 56 (gfd PA tp.1.ls.length pa PB tp.1.ps.length pb RA i rc SA2 ((dirL t.size pl).length - q) sc2 KC kt.length kcc (comS os ((dirL t.size pl).length - q))), rowR 72 33 RA i rc rs, rowR 34 32 SA2 ((dirL t.size pl).length - q) sc2 (kfds (secL os ((dirL t.size pl).length - q))), fb g18 56 (gfd none 0 0 none 0 0 none 0 0 none 0 0 none 0 0 hzero)] w', fun v _ => match v with | .int _ k => rungs.length - k.toNat | _ => 0, ⟨0, H9, none, 0, [], rfl, by omega, rfl, Le.refl _ _, trivial, hM⟩, ?_⟩
      clear hM
      rintro v1 u w15 ⟨i, Hc, RA, rc, rs, rfl, hi, hrs, lc, hrg, hM⟩
      have hR1c := hR19.mono lc.le
      have hR2c := hR29.mono fun q x k => RgF.mono k lc.le
      skip
      ((with_reducible (refine mop_cS trivial ?_ ?_)))
      · intro hlt
        have hir : i < rungs.length := by omega
        obtain ⟨e3, hq3, RD, rdc, rfl, hRD, hrdl⟩ := hR2c.at_ (i := i) hir
        have hq3' : qr[((i : Int)).toNat]? = some (rungs[i].row RD rdc) := hq3
        ((with_reducible (refine mif_true ?_)))
        refine mm_ixs hR1c (by omega) hqr.symm (fun bb oo hB => ?_)
        subst hB
        refine mm_lds0 hM hR1c hq3' ?_
        ((with_reducible (refine mm_new hM ?_; clear hM; intro _ _ hM; refine mm_st hM ?_; clear hM; intro _ hM; refine dp_c trivial ?_; refine dm_ld hM ?_; refine dp_c trivial ?_; refine dm_ld hM ?_; refine dp_c trivial ?_; refine dm_ld hM ?_)))
        refine dm_ownE hM (fun w hM => cloStr_ok (hRD.mono (le_of hM.fz)) (by rw [List.length_map]) (by omega) hM) ?_
        rintro r w16 - ⟨RE, rec_, rfl, hM2⟩
        replace hM := hM2
        clear hM2
        obtain ⟨Hd, ld, hMd, hRE, -⟩ := hM.fz0
        clear hM
        have hM := hMd
        clear hMd
        ((with_reducible (refine dp_c trivial ?_; refine dS_bsl hM ?_ ?_ ?_)); (focus rfl); (focus (constructor <;> simp)); (with_reducible (clear hM; intro _ _ hM; refine dS_appF hM ?_ ?_)); (focus omega); (with_reducible (clear hM; intro _ _ _ hM; refine dp_c trivial ?_; refine dS_st hM ?_; clear hM; intro _ hM; refine mm_end hM ?_; clear hM; intro _ hM; refine mop_c ?_ ?_)); (focus omega))
        rename_i A9 c9 _ _ _
        have hrk : RgF Hd ([.arr 32 (u8s rungs[i].pub.1), .one (.slice RE rungs[i].wraps.length rec_)]) rungs[i] := ⟨RE, rec_, rfl, hRE, hrdl⟩
        have hrgd := (hrg.mono fun q x k => RgF.mono k ld.le).snoc hrk
        rw [← List.take_succ_eq_append_getElem hir] at hrgd
        exact ⟨⟨i + 1, Hd, A9, c9, _, by rw [Value.int.injEq]; refine ⟨rfl, ?_⟩; push_cast; rfl, by omega, by rw [List.length_append, hrs]; rfl, lc.trans ld, hrgd, hM.sub⟩, by simp only; omega⟩
      · intro hge3
        obtain rfl : i = rungs.length := by omega
        rw [List.take_length] at hrg
        ((with_reducible (refine mif_false ?_; refine mm_ld hM ?_; refine mm_st hM ?_; clear hM; intro _ hM; refine rm_ld hM ?_)))
        replace hM : Mem Hc w1 (rowR 72 33 RA rungs.length rc rs :: rowR 34 32 SA2 ((dirL t.size pl).length - q) sc2 (kfds (secL os ((dirL t.size pl).length - q))) :: []) _ := hM.sub
        obtain ⟨Hy, ly, hMy, hRg, -⟩ := hM.fz0
        obtain ⟨Hz, lz, hMz, hSg, -⟩ := hMy.fz0
        have hqz : Hc.le Hz := (ly.trans lz).le
        have hq9 : H9.le Hz := lc.le.trans hqz
        refine hMz.out (hle5.trans (l6.trans (l7.trans (l8.trans (l9.trans (lc.trans (ly.trans lz))))))) ⟨_, rfl, PA, pa, PB, pb, RA, rc, SA2, sc2, KC, kcc, rs, ?_, hv9.mono hq9, hRg.mono lz.le, hrg.mono fun q x k => RgF.mono k hqz, hSg, hKC.mono hq9⟩
        simp only [secL_len]
    · rw [if_pos hok]
      refine ⟨fun v1 v2 w' => v2 = .bool false ∧ Mem H6 w1 [fb g18 56 (gfd none 0 0 none 0 0 none 0 0 none 0 0 none 0 0 hzero)] w', ?_, ?_⟩
      · have hM0 := hM
        repeat' apply And.intro
        all_goals
          refine dp_sld hW3 (by omega) (by omega) hwc (fun WB hWB => ?_)
          rw [Int.toNat_natCast, hdi] at hWB
          rw [Int.toNat_natCast]
          ((with_reducible (refine dm_ld hM ?_)))
          refine dp_sld hKB (by rw [List.length_map]; omega) (by omega) hkb (fun PB hPB => ?_)
          rw [Int.toNat_natCast, hdk] at hPB
          rw [Int.toNat_natCast]
          (first | ((with_reducible (refine dm_new hM ?_; clear hM; intro _ _ hM))) | skip)
          have hro := fun (w : World) (L : List Res) (hM : Mem H6 w1 L w) => risen_q (Q := fun v w' => v = .tuple #[.agg (fl (gfd none 0 0 none 0 0 none 0 0 none 0 0 none 0 0 hzero)).toArray, .bool false] ∧ Mem H6 w1 L w') ((dirL t.size pl).drop q) os ((rungs.map Rg.pub).drop q) (by omega) (by omega) hwr2 hWB hPB hM (fun k => absurd (by rw [hdq] at k; exact k) hok) (fun _ w' hM => ⟨rfl, hM⟩) (a := wc - q) (b := kb - q)
          rw [hdq, hrq] at hro
          have e9 : rungs.length - q = (dirL t.size pl).length - q := by omega
          rw [e9]
          refine df_no hM (fun w hM => ?_)
          refine mm_own (hro w _ hM) ?_
          rintro r w5 ⟨rfl, hM2⟩
          replace hM := hM2
          clear hM2
          (first | ((with_reducible (refine dp_c trivial ?_; refine dp_c trivial ?_; refine dm_new hM ?_; clear hM; intro _ _ hM; refine dS_st hM ?_; clear hM; intro _ hM; refine mm_end hM ?_; clear hM; intro _ hM))) | ((with_reducible (refine dp_c trivial ?_; refine dp_c trivial ?_; refine dS_st hM ?_; clear hM; intro _ hM; refine mm_end hM ?_; clear hM; intro _ hM))))
          exact ⟨rfl, hM.sub⟩
      clear hM
      rintro v1 v2 u w12 ⟨rfl, hM⟩
      ((with_reducible (refine mop_c trivial ?_; refine mif_true ?_; refine mop_c trivial ?_; refine mm_st hM ?_; clear hM; intro _ hM; refine rm_ld hM ?_)))
      exact hM.out (hle5.trans l6) ⟨_, rfl, GwF.none _⟩
  · rw [if_pos hoe]
    ((with_reducible (refine mop_cT trivial ?_ ?_)); (focus (first | assumption | omega | with_reducible rfl | exact fun h => Bool.noConfusion h)); (with_reducible (refine mif_true ?_; refine mop_c trivial ?_; refine mm_st hM ?_; clear hM; intro _ hM; refine rm_ld hM ?_)))
    exact hM.out hle5 ⟨_, rfl, GwF.none _⟩
end
end Go.Proofs.YtpjodlnlmaaihaaGreat
namespace Go.Proofs.YtpjodlnlmaaihaaGreat
open Go.RowKit Go.Lib
def wanted (t : Tr) (m x : Int) : Prop := x = 2 * m ∨ (x % 2 = 1 ∧ hld t.size x m ∧ (parAt t (x / 2)).set = true ∧ m ∉ (parAt t (x / 2)).loose)
def fst_ (K : List Kr) (x : Int) : Option Kr := K.find? fun k => decide (k.node = x)
structure KU (u : Tr) (m : Int) (K : List Kr) : Prop where
  own : ∀ x, wanted u m x → ∃ k, fst_ K x = some k ∧ (pubAt u x).1 = pubH k.priv
  only : ∀ k ∈ K, k.node = 2 * m ∨ (k.node % 2 = 1 ∧ (thr u.size k.node → hld u.size k.node m) ∧ ((parAt u (k.node / 2)).set = true → m ∉ (parAt u (k.node / 2)).loose))
theorem fst_some {K : List Kr} {x : Int} {k : Kr} (h : fst_ K x = some k) : k ∈ K ∧ k.node = x := ⟨List.mem_of_find?_eq_some h, by simpa using List.find?_some h⟩
theorem res_loose {t : Tr} : ∀ (f : Nat) (x : Int), level x ≤ f → thr t.size x → ∀ z ∈ resL f t x, z % 2 = 1 → (parAt t (z / 2)).set = true ∧ ∀ p ∈ (parAt t (z / 2)).loose, 2 * p ∈ resL f t x
  | 0, x, hl, ht, z, hz, ho => by
    have := level_odd x
    rw [resL_leaf (by omega)] at hz
    split at hz
    · obtain rfl := List.mem_singleton.1 hz
      omega
    · cases hz
  | f + 1, x, hl, ht, z, hz, ho => by
    unfold resL at hz ⊢
    by_cases he : x % 2 = 0
    · rw [if_pos he] at hz
      split at hz
      · obtain rfl := List.mem_singleton.1 hz
        omega
      · cases hz
    · rw [if_neg he] at hz ⊢
      by_cases hs : (parAt t (x / 2)).set = true
      · rw [if_pos hs] at hz ⊢
        rcases List.mem_cons.1 hz with rfl | hz
        · exact ⟨hs, fun p hp => List.mem_cons_of_mem _ (List.mem_map.2 ⟨p, hp, rfl⟩)⟩
        · obtain ⟨p, -, rfl⟩ := List.mem_map.1 hz
          omega
      · rw [if_neg hs] at hz ⊢
        obtain ⟨⟨t1, t2⟩, ⟨l1, l2⟩, -⟩ := lr_eq ht (by omega)
        rcases List.mem_append.1 hz with hz | hz
        · obtain ⟨a, b⟩ := res_loose f _ (by omega) t1 z hz ho
          exact ⟨a, fun p hp => List.mem_append.2 (.inl (b p hp))⟩
        · obtain ⟨a, b⟩ := res_loose f _ (by omega) t2 z hz ho
          exact ⟨a, fun p hp => List.mem_append.2 (.inr (b p hp))⟩
theorem opened_made {about : List Int} {K : List Kr} {u : Tr} (s : H32) : ∀ (L : List Int) (W : List (List Int)), W.length = L.length → (∀ (j : Nat) (h : j < L.length) (h2 : j < W.length), ∃ o, W[j] = wrapL rowK tagK kemH (pubAt u L[j]).1 o about s.1) →
    (∀ x ∈ L, ∀ k, fst_ K x = some k → (pubAt u x).1 = pubH k.priv) → (∃ x ∈ L, ∃ k, fst_ K x = some k) → openedT about K L W = (s, 0)
  | [], _, _, _, _, h => by
    obtain ⟨x, hx, -⟩ := h
    cases hx
  | x :: L, [], h, _, _, _ => by simp at h
  | x :: L, y :: W, hl, hw, ha, he => by
    rw [openedT_cons]
    have ef : K.find? (fun k => decide (k.node = x)) = fst_ K x := rfl
    rw [ef]
    cases hk : fst_ K x with
    | none =>
      simp only
      refine opened_made s L W (by simpa using hl) (fun j h h2 => ?_) (fun z hz => ha z (List.mem_cons_of_mem _ hz)) ?_
      · obtain ⟨o, e⟩ := hw (j + 1) (by simp only [List.length_cons]; omega) (by simp only [List.length_cons]; omega)
        exact ⟨o, by simpa using e⟩
      · obtain ⟨z, hz, k, e⟩ := he
        rcases List.mem_cons.1 hz with rfl | hz
        · rw [hk] at e
          cases e
        · exact ⟨z, hz, k, e⟩
    | some k =>
      simp only
      obtain ⟨o, e⟩ := hw 0 (by simp) (by simp)
      simp only [List.getElem_cons_zero] at e
      have hp := ha x (List.mem_cons_self ..) k hk
      rw [hp] at e
      have hu : unwrapE k.priv about y = (s.1, 0) := by
        rw [e]
        exact unwrapE_wrap k.priv o about s.1 s.2.2 (by rw [s.2.1]; omega)
      rw [hu, if_neg (by simp), if_neg (by rw [s.2.1]; omega), h32_self]
theorem opened_side {u : Tr} (hR : u.Rt) {m : Int} {K : List Kr} (hK : KU u m K) {y : Int} (hy : thr u.size y) (hm : hld u.size y m) (hn : nameAt u.ls m ≠ 0) (fresh : List Int) (hf : m ∉ fresh) (once : H32) (about : List Int) (s : H32) (i : Nat) :
    openedT about K ((resT u y).filter fun z => !isF fresh z) (wrapsT u once about s i ((resT u y).filter fun z => !isF fresh z) ((resT u y).filter fun z => !isF fresh z).length) = (s, 0) := by
  have hrt : resT u y = resL 8 u y := if_pos hy
  have hlv : level y ≤ (8 : Nat) := by have := lev_rng 8 y; unfold level; omega
  obtain ⟨m0, m1, -⟩ := hld_rng hm
  have hlen := hR.len
  have hts : u.size = u.ls.length := rfl
  have hF : isF fresh (2 * m) = false := by
    rw [isF_eq (by omega) (by omega), decide_eq_false]
    rintro ⟨-, h⟩
    rw [show 2 * m / 2 = m by omega] at h
    exact hf h
  refine opened_made (u := u) s _ _ (wrapsT_len ..) (fun j h h2 => ?_) (fun x hx k hk => ?_) ?_
  · refine ⟨drv once swrap (strOfNums (numB i ++ numB j)), ?_⟩
    simp only [wrapsT, List.getElem_map, List.getElem_range]
    rw [List.getD_eq_getElem?_getD, List.getElem?_eq_getElem h]
    rfl
  · obtain ⟨hkm, rfl⟩ := fst_some hk
    have hx := (List.mem_filter.1 hx).1
    rw [hrt] at hx
    have hw : wanted u m k.node := by
      rcases hK.only k hkm with e | ⟨e1, e2, e3⟩
      · exact .inl e
      · obtain ⟨r1, -⟩ := res_loose 8 y hlv hy k.node hx e1
        exact .inr ⟨e1, e2 (resL_thr hR 8 y hy _ hx), r1, e3 r1⟩
    obtain ⟨k', h1, h2⟩ := hK.own _ hw
    rw [hk] at h1
    cases h1
    exact h2
  · have hc := ((cover hR m 8 y hlv hy).2 hm).2 hn
    have key : 2 * m ∈ resL 8 u y → ∃ x ∈ (resT u y).filter fun z => !isF fresh z, ∃ k, fst_ K x = some k := fun h => by
      obtain ⟨k, hk, -⟩ := hK.own _ (.inl rfl)
      exact ⟨2 * m, List.mem_filter.2 ⟨by rw [hrt]; exact h, by rw [hF]; rfl⟩, k, hk⟩
    by_cases h2 : 2 * m ∈ resL 8 u y
    · exact key h2
    · have h3 : slf m (resL 8 u y) = 0 := by
        unfold slf
        rw [List.countP_eq_zero]
        intro z hz
        rw [decide_eq_true_eq]
        rintro rfl
        exact h2 hz
      have h4 : 0 < ovr u.size m (resL 8 u y) := by omega
      unfold ovr at h4
      obtain ⟨z, hz, hzz⟩ := List.countP_pos_iff.1 h4
      rw [decide_eq_true_eq] at hzz
      have hzt := resL_thr hR 8 y hy z hz
      have hzo : z % 2 = 1 := by
        by_cases he : z % 2 = 0
        · exfalso
          obtain ⟨p, rfl⟩ : ∃ p, z = 2 * p := ⟨z / 2, by omega⟩
          exact hzz.1 (by rw [(hld_leaf hzt).1 hzz.2])
        · omega
      obtain ⟨r1, r2⟩ := res_loose 8 y hlv hy z hz hzo
      by_cases hl : m ∈ (parAt u (z / 2)).loose
      · exact absurd (r2 m hl) h2
      · obtain ⟨k, hk, -⟩ := hK.own z (.inr ⟨hzo, hzz.2, r1, hl⟩)
        refine ⟨z, List.mem_filter.2 ⟨by rw [hrt]; exact hz, ?_⟩, k, hk⟩
        obtain ⟨z1, z2, z3⟩ := hzt
        rw [isF_eq (by omega) (by omega), decide_eq_false (by omega)]
        rfl
end Go.Proofs.YtpjodlnlmaaihaaGreat
namespace Go.Proofs.YtpjodlnlmaaihaaGreat
open Go.RowKit Go.Lib
theorem secK_add (s : H32) (a : Nat) : ∀ b, secK (secK s a) b = secK s (a + b)
  | 0 => rfl
  | b + 1 => by
    rw [secK_succ, secK_add s a b]
    rfl
theorem hld_up {n x p : Int} (h : thr n x) (hh : hld n x p) (ha : 0 ≤ ab n x) : hld n (ab n x) p := by
  obtain ⟨ho, hz⟩ := up_lr h ha
  have hta : thr n (ab n x) := ab_thr h (by omega)
  rw [hld_kids hta ho]
  rcases hz with hz | hz
  · exact .inl (hz ▸ hh)
  · exact .inr (hz ▸ hh)
theorem hld_side {n z p : Int} (h : thr n z) (ha : 0 ≤ ab n z) (hu : hld n (ab n z) p) (hn : ¬ hld n z p) : hld n (bs n z) p := by
  obtain ⟨ho, hz⟩ := up_lr h ha
  have hta : thr n (ab n z) := ab_thr h (by omega)
  obtain ⟨-, -, -, b1, b2⟩ := lr_eq hta ho
  rw [hld_kids hta ho] at hu
  rcases hz with hz | hz
  · have hb : bs n z = rt n (ab n z) := by
      conv => lhs; rw [hz]
      exact b1
    rw [hb]
    exact hu.resolve_left (fun k => hn (hz ▸ k))
  · have hb : bs n z = lf n (ab n z) := by
      conv => lhs; rw [hz]
      exact b2
    rw [hb]
    exact hu.resolve_right (fun k => hn (hz ▸ k))
theorem way_step {n pl : Int} (h : 0 ≤ pl ∧ pl < n) {m : Nat} (hm : m < (dirL n pl).length) : (dirL n pl)[m] = ab n (wNode pl (dirL n pl) m) ∧ 0 ≤ (dirL n pl)[m] := by
  have hd : dirL n pl = dirF 8 n (2 * pl) := if_pos h
  have h1 := dirF_nth (n := n) 8 (2 * pl) m (by rw [← hd]; exact hm)
  rw [wNode_eq (by omega)]
  simp only [hd]
  exact h1
theorem way_thr {n pl : Int} (h : 0 ≤ pl ∧ pl < n ∧ n ≤ 64) {m : Nat} (hm : m < (dirL n pl).length) : thr n (dirL n pl)[m] := by
  obtain ⟨h1, h2⟩ := way_step ⟨h.1, h.2.1⟩ hm
  obtain ⟨h3, -⟩ := way_ok h hm
  rw [h1] at h2 ⊢
  exact ab_thr h3 (by omega)
theorem meet_at {n pl m : Int} (h : 0 ≤ pl ∧ pl < n ∧ n ≤ 64) (hm : 0 ≤ m ∧ m < n) (hne : m ≠ pl) {q : Nat} (hq : (dirL n pl).findIdx (fun x => decide (hld n x m)) = q) :
    q < (dirL n pl).length ∧ hld n (bs n (wNode pl (dirL n pl) q)) m ∧ (∀ i (hi : i < (dirL n pl).length), hld n (dirL n pl)[i] m ↔ q ≤ i) := by
  have hlt := dir_meets (n := n) (p := pl) (q := m) ⟨h.1, h.2.1⟩ hm h.2.2 hne
  have hat := List.findIdx_getElem (w := hlt)
  have hlow : ∀ j (hj : j < (dirL n pl).length), j < q → ¬ hld n (dirL n pl)[j] m := fun j hj hjq => by
    have := List.not_of_lt_findIdx (p := fun x => decide (hld n x m)) (xs := dirL n pl) (i := j) (by omega)
    simpa using this
  have hq1 : q < (dirL n pl).length := by omega
  have hqh : hld n (dirL n pl)[q] m := by
    simp only [hq, decide_eq_true_eq] at hat
    exact hat
  obtain ⟨e1, e2⟩ := way_step ⟨h.1, h.2.1⟩ hq1
  obtain ⟨w1, w2, w3, w4⟩ := way_ok h hq1
  have hup : ∀ d, (hi : q + d < (dirL n pl).length) → hld n (dirL n pl)[q + d] m := by
    intro d
    induction d with
    | zero => exact fun _ => hqh
    | succ d ih =>
      intro hi
      have h0 := ih (by omega)
      obtain ⟨f1, f2⟩ := way_step ⟨h.1, h.2.1⟩ hi
      have f3 : wNode pl (dirL n pl) (q + (d + 1)) = (dirL n pl)[q + d]'(by omega) := by
        show (dirL n pl).getD (q + d) 0 = _
        rw [List.getD_eq_getElem?_getD, List.getElem?_eq_getElem (by omega)]
        rfl
      rw [f3] at f1
      rw [f1] at f2 ⊢
      exact hld_up (way_thr h (by omega)) h0 f2
  refine ⟨hq1, ?_, fun i hi => ⟨fun hh => ?_, fun hle => ?_⟩⟩
  · refine hld_side w1 (by omega) (by rw [← e1]; exact hqh) ?_
    cases q with
    | zero =>
      intro hh
      exact hne ((hld_leaf (n := n) (p := pl) w1).1 hh).symm
    | succ k =>
      have f3 : wNode pl (dirL n pl) (k + 1) = (dirL n pl)[k]'(by omega) := by
        show (dirL n pl).getD k 0 = _
        rw [List.getD_eq_getElem?_getD, List.getElem?_eq_getElem (by omega)]
        rfl
      rw [f3]
      exact hlow k (by omega) (by omega)
  · exact Decidable.byContradiction fun hn => hlow i hi (by omega) hh
  · obtain ⟨d, rfl⟩ : ∃ d, i = q + d := ⟨i - q, by omega⟩
    exact hup d hi
def pathG (u : Tr) (pl : Int) (pub : H32) (keys : List H32) : Tr := ⟨u.ls.modify pl.toNat (·.key pub (sd u pl (dirL u.size pl) keys 0)), pthPs (dirL u.size pl) (newP u pl (dirL u.size pl) keys) (fun _ => true) u.ps⟩
theorem pathP_eq {u : Tr} (hR : u.Rt) {pl : Int} (hp : ¬ u.nobody pl) {pub : H32} {keys : List H32} (hk : keys.length = (dirL u.size pl).length) : u.pathP pl pub keys = (pathG u pl pub keys, 0) := by
  unfold Tr.pathP Tr.pathR
  rw [if_neg (by rw [Tr.rt.2 hR]; simp), if_neg hp, if_neg (by omega)]
  rfl
theorem pathG_size (u : Tr) (pl : Int) (pub : H32) (keys : List H32) : (pathG u pl pub keys).size = u.size := by
  show ((pathG u pl pub keys).ls.length : Int) = u.ls.length
  simp [pathG]
theorem pathG_self {u : Tr} {pl : Int} (h0 : 0 ≤ pl ∧ pl < u.size) {pub : H32} {keys : List H32} : (leafAt (pathG u pl pub keys) pl).pub = pub ∧ (leafAt (pathG u pl pub keys) pl).name = (leafAt u pl).name := by
  have hts : u.size = u.ls.length := rfl
  unfold leafAt
  show ((u.ls.modify pl.toNat _).getD pl.toNat Lf.zero).pub = pub ∧ ((u.ls.modify pl.toNat _).getD pl.toNat Lf.zero).name = _
  rw [List.getD_eq_getElem?_getD, List.getD_eq_getElem?_getD, List.getElem?_modify, List.getElem?_eq_getElem (by omega)]
  simp only [if_pos, Option.map_some, Option.map_eq_map, Option.getD_some]
  exact ⟨rfl, rfl⟩
end Go.Proofs.YtpjodlnlmaaihaaGreat
namespace Go.Proofs.YtpjodlnlmaaihaaGreat
open Go.RowKit Go.Lib
theorem pubsL_drop (s : H32) (n : Nat) : (pubsL s (n + 1)).drop 1 = (List.range n).map fun i => pubK s (i + 1) := by
  refine List.ext_getElem (by simp [pubsL]) fun i h1 h2 => ?_
  simp [pubsL]
theorem pubs_len (s : H32) (n : Nat) : ((pubsL s (n + 1)).drop 1).length = n := by simp [pubsL]
def grT (u : Tr) (pl : Int) (once : H32) : Tr := pathG u pl (pubK (leafS once) 0) ((pubsL (leafS once) ((dirL u.size pl).length + 1)).drop 1)
theorem growG_tree {u : Tr} (hR : u.Rt) {pl : Int} (hp : ¬ u.nobody pl) (once : H32) (about fresh : List Int) : (growG u pl once about fresh).tree = grT u pl once ∧ (grT u pl once).Rt := by
  have h := pathP_eq hR hp (pub := pubK (leafS once) 0) (keys := (pubsL (leafS once) ((dirL u.size pl).length + 1)).drop 1) (pubs_len ..)
  refine ⟨?_, ?_⟩
  · show (u.pathP pl _ _).1 = _
    rw [h]
    rfl
  · have hr : u.pathP pl (pubK (leafS once) 0) ((pubsL (leafS once) ((dirL u.size pl).length + 1)).drop 1) = u.pathR pl (pubK (leafS once) 0) ((pubsL (leafS once) ((dirL u.size pl).length + 1)).drop 1) := by
      unfold Tr.pathP
      rw [if_neg (by rw [Tr.rt.2 hR]; simp)]
    have h2 := path_rt hR pl (pubK (leafS once) 0) ((pubsL (leafS once) ((dirL u.size pl).length + 1)).drop 1) (by rw [← hr, h])
    rw [← hr, h] at h2
    exact h2
end Go.Proofs.YtpjodlnlmaaihaaGreat
namespace Go.Proofs.YtpjodlnlmaaihaaGreat
open Go.RowKit Go.Lib
def Tr.leaf (t : Tr) (x : Int) (k : H32) : Prop := ∃ l ∈ t.ls, l.name = x ∧ l.pub = k
end Go.Proofs.YtpjodlnlmaaihaaGreat
namespace Go.Proofs.YtpjodlnlmaaihaaGreat
open Go.RowKit Go.Lib
theorem rungs_pub (t : Tr) (pl : Int) (way fresh : List Int) (once : H32) (about : List Int) (s : H32) (n : Nat) : (rungsK t pl way fresh once about s n).map Rg.pub = (pubsL s (n + 1)).drop 1 := by
  rw [pubsL_drop]
  unfold rungsK
  rw [List.map_map]
  rfl
theorem com_eq {s : H32} {q n : Nat} (h : q < n) : comS (secK s (q + 1)) (n - q) = comS s (n + 1) := by
  unfold comS
  rw [secK_add]
  congr 2
  omega
theorem pubs_eq {s : H32} {q n : Nat} : pubsL (secK s (q + 1)) (n - q) = ((pubsL s (n + 1)).drop 1).drop q := by
  rw [pubsL_drop]
  refine List.ext_getElem (by simp [pubsL]) fun i h1 h2 => ?_
  simp only [pubsL, List.getElem_map, List.getElem_range, List.getElem_drop]
  unfold pubK
  rw [secK_add]
  congr 3
  omega
def folG (u : Tr) (pl m : Int) (once : H32) (about fresh : List Int) (K : List Kr) (q : Nat) : Gw :=
  ⟨grT u pl once, (growG u pl once about fresh).rungs, secL (secK (leafS once) (q + 1)) ((dirL u.size pl).length - q), keepT (grT u pl once) ((keysL ((dirL u.size pl).drop q) (secK (leafS once) (q + 1)) ((dirL u.size pl).length - q)).map Ky.kr ++ K), (growG u pl once about fresh).com⟩
theorem follow_meets {u : Tr} (hR : u.Rt) {pl m : Int} (hp : ¬ u.nobody pl) (hm : ¬ u.nobody m) (hne : m ≠ pl) {K : List Kr} (hK : KU u m K) (once : H32) (about fresh : List Int) (hf : m ∉ fresh) :
    followT u pl (pubK (leafS once) 0) (growG u pl once about fresh).rungs about fresh m K = (folG u pl m once about fresh K ((dirL u.size pl).findIdx fun x => decide (hld u.size x m)), 0) := by
  have hlen := hR.len
  have hts : u.size = u.ls.length := rfl
  obtain ⟨b0, b1, b2⟩ := Tr.body hp
  obtain ⟨c0, c1, c2⟩ := Tr.body hm
  obtain ⟨q, hq⟩ : ∃ q, (dirL u.size pl).findIdx (fun x => decide (hld u.size x m)) = q := ⟨_, rfl⟩
  obtain ⟨hq1, hq2, hq3⟩ := meet_at (n := u.size) (pl := pl) (m := m) ⟨b0, by omega, by omega⟩ ⟨c0, by omega⟩ hne hq
  obtain ⟨y1, y2, y3, y4⟩ := way_ok (n := u.size) (pl := pl) ⟨b0, by omega, by omega⟩ hq1
  have hrl : (growG u pl once about fresh).rungs = rungsK u pl (dirL u.size pl) fresh once about (leafS once) (dirL u.size pl).length := rfl
  have hrn := rungsK_len u pl (dirL u.size pl) fresh once about (leafS once) (dirL u.size pl).length
  have hn : nameAt u.ls m ≠ 0 := fun h => hm (.inr h)
  unfold followT
  rw [if_neg (by rw [Tr.rt.2 hR]; simp), if_neg (fun h => h.elim hp hm), if_neg hne, hrl, if_neg (by omega), if_neg (fun k => k (fun i hi => by
    simp only [rungsK, List.getElem_map, List.getElem_range, rungK, wrapsT_len]))]
  simp only [hq]
  have hrg : (rungsK u pl (dirL u.size pl) fresh once about (leafS once) (dirL u.size pl).length).getD q ⟨hzero, []⟩ = rungK u once about (leafS once) (sideK u pl (dirL u.size pl) fresh q) q := by
    rw [List.getD_eq_getElem?_getD, List.getElem?_eq_getElem (by omega)]
    simp [rungsK]
  have hop : openedT about K (sideK u pl (dirL u.size pl) fresh q) (rungK u once about (leafS once) (sideK u pl (dirL u.size pl) fresh q) q).wraps = (secK (leafS once) (q + 1), 0) := opened_side hR hK y3 hq2 hn fresh hf once about _ _
  rw [hrg, hop, rungs_pub]
  simp only
  rw [if_neg (by simp), if_neg (fun k => k pubs_eq), com_eq hq1]
  have ht : (u.pathP pl (pubK (leafS once) 0) ((pubsL (leafS once) ((dirL u.size pl).length + 1)).drop 1)).1 = grT u pl once := (growG_tree hR hp once about fresh).1
  rw [ht]
  rfl
end Go.Proofs.YtpjodlnlmaaihaaGreat
namespace Go.Proofs.YtpjodlnlmaaihaaGreat
open Go.RowKit Go.Lib
theorem wrapL_len (pub once : H32) (ab t : List Int) : (wrapL rowK tagK kemH pub once ab t).length = t.length + 48 := by
  unfold wrapL
  rw [List.length_append, once.2.1, sealK_len]
  omega
theorem sealL_rng (k : H32) (ab t : List Int) : ∀ x ∈ sealL rowK tagK k ab t, 0 ≤ x ∧ x < 256 := fun x hx => by
  unfold sealL at hx
  rcases List.mem_append.1 hx with hx | hx
  · exact crossL_rng x hx
  · exact tagK_rng _ _ _ x hx
theorem wrapL_rng (pub once : H32) (ab t : List Int) : ∀ x ∈ wrapL rowK tagK kemH pub once ab t, 0 ≤ x ∧ x < 256 := fun x hx => by
  unfold wrapL at hx
  rcases List.mem_append.1 hx with hx | hx
  · exact once.2.2 x hx
  · exact sealL_rng _ _ _ x hx
theorem grow_wraps (t : Tr) (pl : Int) (once : H32) (about fresh : List Int) : ∀ r ∈ (growG t pl once about fresh).rungs, ∀ x ∈ r.wraps, x.length ≤ 1000000 ∧ ∀ y ∈ x, 0 ≤ y ∧ y < 256 := fun r hr x hx => by
  have hr : r ∈ rungsK t pl (dirL t.size pl) fresh once about (leafS once) (dirL t.size pl).length := hr
  unfold rungsK at hr
  obtain ⟨i, hi, rfl⟩ := List.mem_map.1 hr
  unfold rungK wrapsT at hx
  obtain ⟨j, hj, rfl⟩ := List.mem_map.1 hx
  unfold wrapT
  exact ⟨by rw [wrapL_len, (secK _ _).2.1]; omega, wrapL_rng _ _ _ _⟩
def k7 : H32 := hset hzero 0 7
def k9 : H32 := hset hzero 0 9
def aw9 : Tr := ⟨[⟨1, hzero, hzero, hzero⟩, ⟨2, pubH k7, hzero, hzero⟩], [Pn.zero]⟩
theorem aw9_right (P : H32) : Tr.right ⟨[⟨1, hzero, hzero, hzero⟩, ⟨2, P, hzero, hzero⟩], [Pn.zero]⟩ = true := by kernel_rfl
theorem aw9_dir : dirL aw9.size 0 = [1] := by
  show dirL 2 0 = [1]
  decide +kernel
theorem aw9_bs : bs aw9.size 0 = 2 := by
  show bs 2 0 = 2
  decide +kernel
theorem aw9_body : ¬ aw9.nobody 0 ∧ ¬ aw9.nobody 1 := by
  constructor
  · rintro ((h | h) | h)
    · omega
    · have : aw9.size = 2 := rfl
      omega
    · have : nameAt aw9.ls 0 = 1 := rfl
      omega
  · rintro ((h | h) | h)
    · omega
    · have : aw9.size = 2 := rfl
      omega
    · have : nameAt aw9.ls 1 = 2 := rfl
      omega
theorem aw9_par (x : Int) : (parAt aw9 x).set = false := by
  unfold parAt
  rw [List.getD_eq_getElem?_getD]
  cases h : aw9.ps[x.toNat]? with
  | none => rfl
  | some p =>
    have := List.mem_of_getElem? h
    rw [List.mem_singleton.1 this]
    rfl
theorem aw9_ku : KU aw9 1 [⟨2, k7⟩] := by
  refine ⟨fun x hx => ?_, fun k hk => ?_⟩
  · rcases hx with rfl | ⟨-, -, h, -⟩
    · exact ⟨⟨2, k7⟩, rfl, rfl⟩
    · rw [aw9_par] at h
      cases h
  · rw [List.mem_singleton.1 hk]
    exact .inl rfl
theorem aw9_side : sideK aw9 0 (dirL aw9.size 0) [] 0 = [2] := by
  unfold sideK
  show (resT aw9 (bs aw9.size (2 * 0))).filter _ = _
  rw [show (2 * 0 : Int) = 0 from rfl, aw9_bs]
  unfold resT
  rw [if_pos (by show thr 2 2; decide +kernel), resL_leaf (by rfl)]
  rw [if_pos (by show (0 : Int) < 2; omega)]
  decide +kernel
theorem grow9 : growT aw9 0 k9 [] [] = (growG aw9 0 k9 [] [], 0) ∧ (growG aw9 0 k9 [] []).rungs.length = 1 ∧ (growG aw9 0 k9 [] []).tree = grT aw9 0 k9 := by
  refine ⟨?_, ?_, (growG_tree (Tr.rt.1 (aw9_right _)) aw9_body.1 ..).1⟩
  · unfold growT
    rw [if_neg (by rw [show aw9.right = true from aw9_right _]; simp), if_neg aw9_body.1, if_neg (by simp)]
  · show (rungsK ..).length = 1
    rw [rungsK_len, aw9_dir]
    rfl
theorem grow9_wraps : ∀ r ∈ (growG aw9 0 k9 [] []).rungs, r.wraps.length = 1 := fun r hr => by
  have hr : r ∈ rungsK aw9 0 (dirL aw9.size 0) [] k9 [] (leafS k9) (dirL aw9.size 0).length := hr
  unfold rungsK at hr
  obtain ⟨i, hi, rfl⟩ := List.mem_map.1 hr
  have hi0 : i = 0 := by
    rw [aw9_dir] at hi
    simpa using hi
  subst hi0
  unfold rungK
  rw [wrapsT_len, aw9_side]
  rfl
section
variable {H : Hp} {w0 w : World} {L R : List Res} {A B K F : Option Addr} {a b c n m kc fc : Nat} {t : Tr} {v : Value}
theorem awake9_ok (w : World) : Calls Tryz.prog 5 #[] w fun en w' => en = .returned (.bool true) ∧ St w [] w' := by
  obtain ⟨w1, hw1⟩ : ∃ w1, w1 = w := ⟨_, rfl⟩
  rw [← hw1]
  have hM := Mem.start (Fz.of w1)
  refine C_bevylaw09_awake ?_
  unfold F_bevylaw09_awake
  ((with_reducible (refine mop_c ?_ ?_)); (focus (simp only [and_true]; omega)); (with_reducible (refine mm_new hM ?_; clear hM; intro _ _ hM; refine mm_st hM ?_; clear hM; intro _ hM; refine mop_c trivial ?_; refine mm_ld hM ?_; refine mm_purC hM ?_ ?_)); (focus (first | exact trivial | assumption | omega)); (with_reducible (clear hM; intro _ hM; refine mop_c trivial ?_; refine mm_bsl hM ?_ ?_ ?_)); (focus rfl); (focus (constructor <;> simp)); (with_reducible (clear hM; intro _ _ hM; refine mop_c trivial ?_; refine mm_bsl hM ?_ ?_ ?_)); (focus rfl); (focus (constructor <;> simp)); (with_reducible (clear hM; intro _ _ hM; refine mop_c trivial ?_; refine mm_new hM ?_; clear hM; intro _ _ hM; refine mm_st hM ?_; clear hM; intro _ hM; refine mm_ld hM ?_; refine mop_c ?_ ?_)); (focus (simp only [and_true]; omega)))
  rename_i g1 _ _ _ gL _ gP _ g2 _ _
  replace hM : Mem (Hp.of w1) w1 (rowR 40 97 (some ⟨gL, 0, none⟩) 2 2 (aw9.ls.map Lf.fds) :: rowR 69 66 (some ⟨gP, 0, none⟩) 1 1 [[.one (.bool false), .arr 32 (u8s hzero.1), .arr 32 (u8s hzero.1), .one (.slice none 0 0)]] :: [fb g2 25 (tfd (some ⟨gL, 0, none⟩) 2 2 (some ⟨gP, 0, none⟩) 1 1), fb g1 34 [.arr 32 (u8s k7.1)]]) _ := hM.perm (by
    refine (List.Perm.cons _ (List.Perm.swap ..)).trans ?_
    refine (List.Perm.swap ..).trans ?_
    exact List.Perm.cons _ (List.Perm.swap ..))
  obtain ⟨H1, l1, hM1, hsL, -⟩ := hM.fz0
  obtain ⟨H2, l2, hM2, hsP, -⟩ := hM1.fz0
  clear hM hM1
  have hT : TrF H2 (tv (some ⟨gL, 0, none⟩) 2 2 (some ⟨gP, 0, none⟩) 1 1) aw9 := ⟨⟨_, _, _, _, _, rfl, hsL.mono l2.le, hsP, ⟨none, 0, rfl, Sl.nil _ _ _, by decide⟩, trivial⟩, by decide, by decide⟩
  refine mm_call hM2 (grow_ok (H := H2) (F := none) (fc := 0) 0 k9 [] [] (by omega) (by simp) (by simp) hT (Sl.nil _ _ _) hM2.fz) ?_
  clear hM2
  obtain ⟨e1, e2, e3⟩ := grow9
  rw [e1]
  rintro H3 r w3 l3 hM ⟨gv, rfl, hG⟩
  have hfm : ∃ f : Gw, followT aw9 0 (pubK (leafS k9) 0) (growG aw9 0 k9 [] []).rungs [] [] 1 [⟨2, k7⟩] = (f, 0) ∧ f.tree = (growG aw9 0 k9 [] []).tree ∧ f.com = (growG aw9 0 k9 [] []).com := ⟨_, follow_meets (u := aw9) (Tr.rt.1 (aw9_right _)) aw9_body.1 aw9_body.2 (by omega) aw9_ku k9 [] [] (by simp), e3.symm, rfl⟩
  have e4 := grow9_wraps
  have hwl : ∀ r ∈ (growG aw9 0 k9 [] []).rungs, ∀ x ∈ r.wraps, x.length ≤ 1000000 ∧ ∀ y ∈ x, 0 ≤ y ∧ y < 256 := grow_wraps aw9 0 k9 [] []
  have hlf : (leafAt (grT aw9 0 k9) 0).pub = pubK (leafS k9) 0 := (pathG_self (u := aw9) (pl := 0) ⟨by omega, by show (0 : Int) < 2; omega⟩).1
  have hls : (grT aw9 0 k9).ls.length = 2 := by
    have := pathG_size aw9 0 (pubK (leafS k9) 0) ((pubsL (leafS k9) ((dirL aw9.size 0).length + 1)).drop 1)
    have h2 : ((grT aw9 0 k9).ls.length : Int) = 2 := this
    omega
  rw [← e3] at hlf hls
  dsimp only at hG
  generalize growG aw9 0 k9 [] [] = g at *
  obtain ⟨f, hf1, hf2, hf3⟩ := hfm
  obtain ⟨A, a, B, b, R, ra, S, sa, K, ka, qs, rfl, hGt, hGr, hGr2, hGs, hGk⟩ := hG
  have hT3 := hT.mono l3.le
  have hgx := hGt.ex
  obtain ⟨A', a', B', b', pq, hv, hgl, hgp, hgq⟩ := hgx
  cases hv
  have hr0 : 0 < g.rungs.length := by omega
  have hqs : qs.length = 1 := by rw [hGr2.len, e2]
  obtain ⟨q0, hq0, RC, rcc, rfl, hRC, hrcl⟩ := hGr2.at_ (i := 0) hr0
  have e6 := e4 _ (List.getElem_mem hr0)
  have hl0 : (leafAt g.tree 0) = g.tree.ls[0]'(by omega) := by
    unfold leafAt
    rw [List.getD_eq_getElem?_getD]
    simp [show 0 < g.tree.ls.length by omega]
  rw [hl0] at hlf
  have hq0' : qs[(0 : Int).toNat]? = some (g.rungs[0].row RC rcc) := hq0
  have hl0' : (g.tree.ls.map Lf.fds)[(0 : Int).toNat]? = some (g.tree.ls[0]'(by omega)).fds := map_at (by omega)
  ((with_reducible (refine mop_c trivial ?_; refine mop_c trivial ?_; refine mm_new hM ?_; clear hM; intro _ _ hM; refine mm_st hM ?_; clear hM; intro _ hM)))
  dsimp only
  rename_i g3 _ _
  refine ⟨fun v w' => v = .bool false ∧ hM.now w', ?_, ?_⟩
  · ((with_reducible (refine mop_cF trivial ?_ ?_)); (focus (first | assumption | omega | with_reducible rfl | exact fun h => Bool.noConfusion h)); (with_reducible (refine mguard_yes ?_; refine mop_c trivial ?_; refine mguard_yes ?_; refine mm_ld hM ?_; refine mguard_yes ?_; refine mop_c trivial ?_; refine mguard_yes ?_; refine mop_cF trivial ?_ ?_)); (focus (first | assumption | omega | with_reducible rfl | exact fun h => Bool.noConfusion h)); (with_reducible (refine mop_c trivial ?_; refine mguard_yes ?_; refine mop_c trivial ?_; refine mguard_yes ?_; refine mm_ld hM ?_; refine mguard_yes ?_)))
    refine mm_ixs hGr (by omega) (by omega) (fun bb oo hB => ?_)
    cases hB
    ((with_reducible (refine mguard_yes ?_; refine mop_c trivial ?_; refine mguard_yes ?_)))
    refine mm_lds hM hGr hq0' ?_
    ((with_reducible (refine mguard_yes ?_; refine mop_c trivial ?_; refine mguard_yes ?_; refine mop_cF trivial ?_ ?_)); (focus (first | assumption | omega | with_reducible rfl | exact fun h => Bool.noConfusion h)); (with_reducible (refine mop_c trivial ?_)))
    exact ⟨rfl, hM⟩
  rintro v u w4 ⟨rfl, hM2⟩
  replace hM : Mem H3 w1 [fb g3 56 (gfd A g.tree.ls.length a B g.tree.ps.length b R g.rungs.length ra S g.secs.length sa K g.keys.length ka g.com), fb g2 25 (tfd (some ⟨gL, 0, none⟩) 2 2 (some ⟨gP, 0, none⟩) 1 1), fb g1 34 [.arr 32 (u8s k7.1)]] _ := hM2
  clear hM2
  ((with_reducible (refine mif_false ?_)))
  refine ⟨fun v1 v2 w' => ∃ (H4 : Hp) (g5 : Nat) (fs : List Fd) (C : Option Addr) (cc : Nat) (D : Option Addr) (dc : Nat), v1 = .int .i64 0 ∧ v2 = .pointer (some ⟨g5, 0, none⟩) ∧ H3.le H4 ∧ TrF H4 (tv C f.tree.ls.length cc D f.tree.ps.length dc) f.tree ∧ ∃ X xn xc Y yn yc Z zn zc, fs = gfd C f.tree.ls.length cc D f.tree.ps.length dc X xn xc Y yn yc Z zn zc f.com ∧ Mem H4 w1 [fb g5 56 fs, fb g3 56 (gfd A g.tree.ls.length a B g.tree.ps.length b R g.rungs.length ra S g.secs.length sa K g.keys.length ka g.com)] w', ?_, ?_⟩
  · have hM0 := hM
    repeat' apply And.intro
    · ((with_reducible (refine dm_ld hM ?_; refine dp_c trivial ?_; refine dp_c trivial ?_; refine dm_ld hM ?_)); (with_reducible refine dp_ixs ‹_› ?_ ?_ ?_); (focus (simp only [List.length_map]; omega)); (focus (simp only [List.length_map]; first | done | omega)); (with_reducible (intro _ _ hA)); (cases hA); (with_reducible (refine dp_c trivial ?_)); (with_reducible refine dm_lds hM ‹_› (map_at ?_) ?_); (focus omega); (with_reducible (refine dp_c trivial ?_; refine dm_ld hM ?_; refine dm_ld hM ?_; refine dp_c trivial ?_; refine dS_bsl hM ?_ ?_ ?_)); (focus rfl); (focus (constructor <;> simp)); (with_reducible (clear hM; intro _ _ hM)))
      rename_i bb oo _ gk _
      replace hM : Mem H3 w1 (rowR 43 33 (some ⟨gk, 0, none⟩) 1 1 [[.one (.int .i64 2), .arr 32 (u8s k7.1)]] :: [fb g3 56 (gfd (some ⟨bb, oo, none⟩) g.tree.ls.length a B g.tree.ps.length b R g.rungs.length ra S g.secs.length sa K g.keys.length ka g.com)]) _ := hM.sub
      obtain ⟨H4, l4, hM4, hKk, -⟩ := hM.fz0
      clear hM hM0
      have hM := hM4
      clear hM4
      refine df_no hM (fun w hM => ?_)
      refine mm_call hM (follow_ok (F := none) (fc := 0) 0 (g.tree.ls[0]'(by omega)).pub g.rungs [] [] 1 [⟨2, k7⟩] (by omega) (by omega) (by simp) (by simp) (by omega) (by simp) hwl (hT3.mono l4.le) (Sl.nil _ _ _) (hGr.mono l4.le) (hGr2.mono fun q x k => RgF.mono k l4.le) hKk hM.fz) ?_
      clear hM
      rw [hlf, hf1]
      rintro H5 r w5 l5 hM ⟨gv, rfl, hG⟩
      dsimp only at hG
      obtain ⟨C, cc, D, dc, X, xc, Y, yc, Z, zc, qq, rfl, hFt, -⟩ := hG
      ((with_reducible (refine dp_c trivial ?_; refine dp_c trivial ?_; refine dm_new hM ?_; clear hM; intro _ _ hM; refine dS_st hM ?_; clear hM; intro _ hM; refine mm_end hM ?_; clear hM; intro _ hM)))
      rename_i g5 _ _ _
      exact ⟨H5, g5, _, C, cc, D, dc, rfl, rfl, (l4.trans l5).le, hFt, X, f.rungs.length, xc, Y, f.secs.length, yc, Z, f.keys.length, zc, rfl, hM.sub⟩
    · ((with_reducible (refine dm_ld hM ?_; refine dp_c trivial ?_; refine dp_c trivial ?_; refine dm_ld hM ?_)); (with_reducible refine dp_ixs ‹_› ?_ ?_ ?_); (focus (simp only [List.length_map]; omega)); (focus (simp only [List.length_map]; first | done | omega)); (with_reducible (intro _ _ hA)); (cases hA); (with_reducible (refine dp_c trivial ?_)); (with_reducible refine dm_lds hM ‹_› (map_at ?_) ?_); (focus omega); (with_reducible (refine dp_c trivial ?_; refine dm_ld hM ?_; refine dm_ld hM ?_; refine dp_c trivial ?_; refine dS_bsl hM ?_ ?_ ?_)); (focus rfl); (focus (constructor <;> simp)); (with_reducible (clear hM; intro _ _ hM; refine dm_new hM ?_; clear hM; intro _ _ hM)))
      rename_i bb oo _ gk _ g5 _
      replace hM : Mem H3 w1 (rowR 43 33 (some ⟨gk, 0, none⟩) 1 1 [[.one (.int .i64 2), .arr 32 (u8s k7.1)]] :: [fb g5 56 (gfd none 0 0 none 0 0 none 0 0 none 0 0 none 0 0 hzero), fb g3 56 (gfd (some ⟨bb, oo, none⟩) g.tree.ls.length a B g.tree.ps.length b R g.rungs.length ra S g.secs.length sa K g.keys.length ka g.com)]) _ := hM.sub
      obtain ⟨H4, l4, hM4, hKk, -⟩ := hM.fz0
      clear hM hM0
      have hM := hM4
      clear hM4
      refine df_no hM (fun w hM => ?_)
      refine mm_call hM (follow_ok (F := none) (fc := 0) 0 (g.tree.ls[0]'(by omega)).pub g.rungs [] [] 1 [⟨2, k7⟩] (by omega) (by omega) (by simp) (by simp) (by omega) (by simp) hwl (hT3.mono l4.le) (Sl.nil _ _ _) (hGr.mono l4.le) (hGr2.mono fun q x k => RgF.mono k l4.le) hKk hM.fz) ?_
      clear hM
      rw [hlf, hf1]
      rintro H5 r w5 l5 hM ⟨gv, rfl, hG⟩
      dsimp only at hG
      obtain ⟨C, cc, D, dc, X, xc, Y, yc, Z, zc, qq, rfl, hFt, -⟩ := hG
      ((with_reducible (refine dp_c trivial ?_; refine dp_c trivial ?_; refine dS_st hM ?_; clear hM; intro _ hM; refine mm_end hM ?_; clear hM; intro _ hM)))
      exact ⟨H5, g5, _, C, cc, D, dc, rfl, rfl, (l4.trans l5).le, hFt, X, f.rungs.length, xc, Y, f.secs.length, yc, Z, f.keys.length, zc, rfl, hM.sub⟩
    · ((with_reducible (refine dm_ld hM ?_; refine dp_c trivial ?_; refine dp_c trivial ?_; refine dm_ld hM ?_)); (with_reducible refine dp_ixs ‹_› ?_ ?_ ?_); (focus (simp only [List.length_map]; omega)); (focus (simp only [List.length_map]; first | done | omega)); (with_reducible (intro _ _ hA)); (cases hA); (with_reducible (refine dp_c trivial ?_)); (with_reducible refine dm_lds hM ‹_› (map_at ?_) ?_); (focus omega); (with_reducible (refine dp_c trivial ?_; refine dm_ld hM ?_; refine dm_ld hM ?_; refine dp_c trivial ?_; refine dm_new hM ?_; clear hM; intro _ _ hM; refine dS_bsl hM ?_ ?_ ?_)); (focus rfl); (focus (constructor <;> simp)); (with_reducible (clear hM; intro _ _ hM)))
      rename_i bb oo _ g5 _ gk _
      replace hM : Mem H3 w1 (rowR 43 33 (some ⟨gk, 0, none⟩) 1 1 [[.one (.int .i64 2), .arr 32 (u8s k7.1)]] :: [fb g5 56 (gfd none 0 0 none 0 0 none 0 0 none 0 0 none 0 0 hzero), fb g3 56 (gfd (some ⟨bb, oo, none⟩) g.tree.ls.length a B g.tree.ps.length b R g.rungs.length ra S g.secs.length sa K g.keys.length ka g.com)]) _ := hM.sub
      obtain ⟨H4, l4, hM4, hKk, -⟩ := hM.fz0
      clear hM hM0
      have hM := hM4
      clear hM4
      refine df_no hM (fun w hM => ?_)
      refine mm_call hM (follow_ok (F := none) (fc := 0) 0 (g.tree.ls[0]'(by omega)).pub g.rungs [] [] 1 [⟨2, k7⟩] (by omega) (by omega) (by simp) (by simp) (by omega) (by simp) hwl (hT3.mono l4.le) (Sl.nil _ _ _) (hGr.mono l4.le) (hGr2.mono fun q x k => RgF.mono k l4.le) hKk hM.fz) ?_
      clear hM
      rw [hlf, hf1]
      rintro H5 r w5 l5 hM ⟨gv, rfl, hG⟩
      dsimp only at hG
      obtain ⟨C, cc, D, dc, X, xc, Y, yc, Z, zc, qq, rfl, hFt, -⟩ := hG
      ((with_reducible (refine dp_c trivial ?_; refine dp_c trivial ?_; refine dS_st hM ?_; clear hM; intro _ hM; refine mm_end hM ?_; clear hM; intro _ hM)))
      exact ⟨H5, g5, _, C, cc, D, dc, rfl, rfl, (l4.trans l5).le, hFt, X, f.rungs.length, xc, Y, f.secs.length, yc, Z, f.keys.length, zc, rfl, hM.sub⟩
  clear hM
  rintro v1 v2 u w6 ⟨H4, g5, fs, C, cc, D, dc, rfl, rfl, l34, hFt, X, xn, xc, Y, yn, yc, Z, zn, zc, rfl, hM⟩
  ((with_reducible (refine mop_cT trivial ?_ ?_)); (focus (first | assumption | omega | with_reducible rfl | exact fun h => Bool.noConfusion h)); (with_reducible (refine mguard_yes ?_; refine mop_c trivial ?_; refine mguard_yes ?_; refine mm_ld hM ?_; refine mguard_yes ?_; refine mop_c trivial ?_; refine mguard_yes ?_; refine mm_ld hM ?_; refine mguard_yes ?_; refine mop_cT trivial ?_ ?_)); (focus (first | assumption | omega | with_reducible rfl | exact fun h => Bool.noConfusion h)); (with_reducible (refine mop_c trivial ?_; refine mguard_yes ?_; refine mop_c trivial ?_; refine mguard_yes ?_; refine mm_ld hM ?_; refine mguard_yes ?_; refine mop_c trivial ?_; refine mguard_yes ?_; refine mm_ld hM ?_; refine mguard_yes ?_)))
  refine mm_pure hM (tsame_ok hFt (hGt.mono l34) hM.fz) (fun w hM => ?_)
  rw [decide_eq_true hf2]
  ((with_reducible (refine mop_c trivial ?_)))
  exact ⟨rfl, hM.st⟩
end
end Go.Proofs.YtpjodlnlmaaihaaGreat
namespace Go.Proofs.YtpjodlnlmaaihaaGreat
open Go.RowKit Go.Lib
def Tr.few9 (t : Tr) : Prop := t.ls.length ≤ 80 ∧ t.ps.length ≤ 80 ∧ ∀ p ∈ t.ps, p.loose.length ≤ 80
instance (t : Tr) : Decidable t.few9 := by unfold Tr.few9; infer_instance
instance : PurC Tryz.prog 5 [] True (.bool true) := ⟨fun _ w => awake9_ok w⟩
theorem rdr_kr : Rdr Tryz.prog 43 33 (fun _ fs (x : Kr) => fs = x.fds ∧ True) :=
  (rdr_struct (sz := 33) Tryz.underlying43 (by kernel_rfl) (Rdf.cons rdr_i64 rfl rfl rfl (Rdf.cons rdr_hash rfl rfl rfl (Rdf.nil _)))).map fun _ fs x _ h => by
    obtain ⟨g1, h1, rfl, _, ⟨rfl, _⟩, g2, h2, rfl, _, rfl, rfl⟩ := h
    exact ⟨⟨x.1, x.2.1⟩, rfl, trivial⟩
theorem rdr_krs : Rdr Tryz.prog 26 1 (fun H fs (xs : List Kr) => ∃ A cap, fs = [.one (.slice A xs.length cap)] ∧ xs.length ≤ maxLen ∧ Sl H 33 A (xs.map Kr.fds)) :=
  (rdr_slice Tryz.underlying26 (by kernel_rfl) (by omega) rdr_kr).map fun H fs xs _ ⟨A, cap, ps, h1, h2, h3, h4⟩ => by
    obtain ⟨rfl, _⟩ := All2.eq_map h4
    exact ⟨xs, A, cap, h1, h2, h3⟩
section
variable {H : Hp} {w0 w : World} {L R : List Res} {A B K F : Option Addr} {a b c n m kc fc : Nat} {t : Tr} {v : Value} {qs : List (List Fd)}
theorem few9_ok (h1 : Sl H 97 A (t.ls.map Lf.fds)) (h2 : Sl H 66 B qs) (h3 : All2 (PnF H) qs t.ps) (hl : t.ls.length ≤ maxLen) (hp : t.ps.length ≤ maxLen) (hf : Fz H w) :
    Calls Tryz.prog 6 #[tv A t.ls.length a B t.ps.length b] w fun en w' => en = .returned (.bool (decide t.few9)) ∧ St w [] w' := by
  have hl' : t.ls.length ≤ 9223372036854775807 := hl
  have hp' : t.ps.length ≤ 9223372036854775807 := hp
  have hq : qs.length = t.ps.length := h3.len
  have hM := Mem.start hf
  refine C_bevylaw09_few ?_
  unfold F_bevylaw09_few
  ((with_reducible (refine mm_box hM ?_; clear hM; intro _ _ hM)))
  refine ⟨fun v w' => v = .bool (!decide (t.ls.length ≤ 80 ∧ t.ps.length ≤ 80)) ∧ hM.now w', ?_, ?_⟩
  · ((with_reducible (refine mop_c trivial ?_; refine mm_ld hM ?_; refine mop_c trivial ?_)))
    ((with_reducible (refine mop_cS trivial ?_ ?_)))
    · intro h
      ((with_reducible ((iterate 4 refine mguard_n1 ?_); refine mop_c trivial ?_)))
      exact ⟨by rw [decide_eq_false (by omega)]; rfl, hM⟩
    · intro h
      ((with_reducible (refine mguard_yes ?_; refine mop_c trivial ?_; refine mguard_yes ?_; refine mm_ld hM ?_; refine mguard_yes ?_; refine mop_c trivial ?_; refine mguard_yes ?_)))
      ((with_reducible (refine mop_cS trivial ?_ ?_)))
      · intro h4
        ((with_reducible (refine mop_c trivial ?_)))
        exact ⟨by rw [decide_eq_false (by omega)]; rfl, hM⟩
      · intro h4
        ((with_reducible (refine mop_c trivial ?_)))
        exact ⟨by rw [decide_eq_true (by omega)]; rfl, hM⟩
  rintro v u w2 ⟨rfl, hM⟩
  by_cases hc : t.ls.length ≤ 80 ∧ t.ps.length ≤ 80
  case neg =>
    rw [decide_eq_false hc]
    ((with_reducible (refine mif_nf ?_)))
    exact ⟨by rw [decide_eq_false (show ¬ t.few9 from fun h => hc ⟨h.1, h.2.1⟩)], hM.st⟩
  rw [decide_eq_true hc]
  ((with_reducible (refine mif_nt ?_)))
  refine ⟨fun v w' => ∃ i : Nat, v = .int .i64 i ∧ i ≤ t.ps.length ∧ (∀ j (hj : j < t.ps.length), j < i → t.ps[j].loose.length ≤ 80) ∧ hM.now w', fun v _ => match v with | .int _ k => t.ps.length - k.toNat | _ => 0, ⟨0, rfl, by omega, fun j _ h => by omega, hM⟩, ?_⟩
  rintro v u w3 ⟨i, rfl, hi, hlo, hM⟩
  ((with_reducible (refine mop_c trivial ?_; refine mm_ld hM ?_; refine mop_c trivial ?_)))
  ((with_reducible (refine mop_cS trivial ?_ ?_)))
  · intro hlt
    have hlt' : i < t.ps.length := by omega
    obtain ⟨q, hq1, C, c, rfl, hC, hcl⟩ := h3.at_ (i := i) hlt'
    simp only [maxLen] at hcl
    ((with_reducible (refine mif_true ?_; refine mop_c trivial ?_; refine mm_ld hM ?_)))
    refine mm_ixs h2 (by omega) hq.symm (fun bb oo hB => ?_)
    cases hB
    ((with_reducible (refine mop_c trivial ?_)))
    refine mm_lds hM h2 hq1 ?_
    ((with_reducible (refine mop_c trivial ?_)))
    ((with_reducible (refine mop_cS trivial ?_ ?_)))
    · intro h
      ((with_reducible (refine mif_true ?_)))
      exact ⟨by rw [decide_eq_false (show ¬ t.few9 from fun hh => by have := hh.2.2 _ (List.getElem_mem hlt'); omega)], hM.st⟩
    · intro h
      ((with_reducible (refine mif_false ?_; refine mop_c ?_ ?_)); (focus omega))
      refine ⟨⟨i + 1, rfl, by omega, fun j hj hji => ?_, hM⟩, by simp only; omega⟩
      rcases Nat.lt_or_ge j i with h2 | h2
      · exact hlo j hj h2
      · obtain rfl : j = i := by omega
        omega
  · intro hge
    ((with_reducible (refine mif_false ?_)))
    refine ⟨?_, hM.st⟩
    rw [decide_eq_true (show t.few9 from ⟨hc.1, hc.2, fun p hp => ?_⟩)]
    obtain ⟨j, hj, rfl⟩ := List.getElem_of_mem hp
    exact hlo j hj (by omega)
end
section
variable {H : Hp} {w0 w : World} {L R : List Res} {v : Value} {t : Tr}
theorem few9_c (h : TrF H v t) (hf : Fz H w) : Calls Tryz.prog 6 #[v] w fun en w' => en = .returned (.bool (decide t.few9)) ∧ St w [] w' := by
  obtain ⟨A, a, B, b, q, rfl, h1, h2, h3⟩ := h.ex
  exact few9_ok h1 h2 h3 h.len.1 h.len.2 hf
theorem climbKeeps_ok {K : Option Addr} {kc : Nat} (l : List Kr) (hl : l.length ≤ maxLen) (h : TrF H v t) (hK : Sl H 33 K (l.map Kr.fds)) (hf : Fz H w) : Calls Tryz.prog 3 #[v, .slice K l.length kc] w fun en w' => en = .returned (.bool true) ∧ St w [] w' := by
  have hx := h.ex
  obtain ⟨TA, ta, TB, tb, tq, rfl, -⟩ := hx
  obtain ⟨w1, hw1⟩ : ∃ w1, w1 = w := ⟨_, rfl⟩
  rw [← hw1]
  rw [← hw1] at hf
  have hM := Mem.start hf
  refine C_bevylaw09_ClimbKeeps ?_
  unfold F_bevylaw09_ClimbKeeps
  ((with_reducible (refine mm_box hM ?_; clear hM; intro _ _ hM)))
  rename_i gt _
  refine ⟨fun v w' => v = .bool (!decide (t.few9 ∧ l.length ≤ 80)) ∧ hM.now w', ?_, ?_⟩
  · ((with_reducible (refine mm_purC hM ?_ (fun _ hM2 => ?_))); (focus (first | exact trivial | assumption | omega)); (with_reducible (replace hM := hM2; clear hM2; refine mop_c trivial ?_; refine mguard_yes ?_; refine mm_ld hM ?_; refine mguard_yes ?_)))
    refine mm_pure hM (few9_c h hM.fz) (fun w hM => ?_)
    by_cases hfw : t.few9
    · rw [decide_eq_true hfw]
      ((with_reducible (refine mguard_yes ?_; refine mop_c trivial ?_; refine mop_c trivial ?_; refine mguard_yes ?_; refine mop_c trivial ?_; refine mguard_yes ?_; refine mop_c trivial ?_; refine mguard_yes ?_)))
      ((with_reducible (refine mop_cS trivial ?_ ?_)))
      · intro hgt
        ((with_reducible (refine mop_c trivial ?_)))
        exact ⟨by rw [decide_eq_false (fun k => by omega)]; rfl, hM⟩
      · intro hgt
        ((with_reducible (refine mop_c trivial ?_)))
        exact ⟨by rw [decide_eq_true ⟨hfw, by omega⟩]; rfl, hM⟩
    · rw [decide_eq_false hfw]
      ((with_reducible (refine mguard_yes ?_; refine mop_c trivial ?_; refine mop_c trivial ?_; (iterate 3 refine mguard_n1 ?_); refine mop_c trivial ?_)))
      exact ⟨by rw [decide_eq_false (fun k => hfw k.1)]; rfl, hM⟩
  rintro v u w2 ⟨rfl, hM2⟩
  replace hM : Mem H w1 [fb gt 25 (tfd TA t.ls.length ta TB t.ps.length tb)] _ := hM2
  clear hM2
  by_cases hok : t.few9 ∧ l.length ≤ 80
  · rw [decide_eq_true hok]
    have hM0 := hM
    ((with_reducible (refine mif_nt ?_; refine dm_ld hM ?_)))
    refine dm_call hM (fun w hM => keep_ok l (by omega) h hK hM.fz) ?_
    clear hM
    rintro H2 r w3 hx l2 hM ⟨K2, kc2, rfl, hK2⟩
    ((with_reducible refine dm_ld ‹Mem _ _ _ _› ?_))
    refine dm_call hM (fun w hM => rkeep_ok l (by omega) (h.mono l2.le) (hK.mono l2.le) hM.fz) ?_
    clear hM
    rintro H3 r w4 - l3 hM ⟨K3, kc3, rfl, hK3⟩
    have hkl : (keepT t l).length ≤ 1000 := by
      unfold keepT
      split
      · have h1 := sortedK_len (keepL t l) (keepL t l).length (Nat.le_refl _)
        have h2 := List.length_filterMap_le (keep1 t) l
        rw [List.take_length] at h1
        have h3 : (keepL t l).length ≤ l.length := h2
        omega
      · simp
    refine dm_pure hM (fun w hM => sameKeys_ok (keepT t l) hkl (hK2.mono l3.le) hK3 hM.fz) (fun w5 _ hM2 => ?_)
    replace hM := hM2
    clear hM2
    ((with_reducible (refine mm_end hM ?_; clear hM; intro _ hM)))
    exact ⟨rfl, hM.st⟩
  · rw [decide_eq_false hok]
    ((with_reducible (refine mif_nf ?_; refine mm_purC hM ?_ ?_)); (focus (first | exact trivial | assumption | omega)); (with_reducible (clear hM; intro _ hM)))
    exact ⟨rfl, hM.st⟩
end
end Go.Proofs.YtpjodlnlmaaihaaGreat
namespace Go.Proofs.YtpjodlnlmaaihaaGreat
open Go.ChangeShapes Go.WideShapes Go.ChangeAt Go.RowKit
set_option linter.unusedVariables false
theorem fl_arr1 (n : Nat) (l : List Value) : fl [.arr n l] = l := by simp [fl, Fd.cells]
theorem own : ownKnob Tryz.prog.godebug = none := by kernel_rfl
theorem laidOut : laidOutB Tryz.prog = true := by kernel_rfl
set_option maxRecDepth 100000 in
theorem climbKeeps_lifted (os : Os) (started : os.Started) (H : Type) (enc : TypeId × Value → H) :
    ReturnsInHanded {} Tryz.checked os 3 .any (Rows.climbKeepsSpec.pre6 enc Tryz.prog Tryz.f3 Rows.climbKeepsRow.domain false) (Rows.climbKeepsSpec.post enc Tryz.prog Tryz.f3 false true false false) := by
  refine returnsInHanded_of_change (C := Tryz.checked) own started (by kernel_rfl) Tryz.func3
    (ChangeSpec.witness6 (enc := enc) (C := Tryz.checked) false ⟨#[], #[tv none 0 0 none 0 0, .slice none 0 0], []⟩ 8 (by kernel_rfl) (by kernel_rfl) (by kernel_rfl) (by kernel_rfl)) ?_
  intro W base args ds gs before hval0 hW hcnd _
  have hval : ∀ (j : Nat) t v, Tryz.f3.params[j]? = some t → args[j]? = some v → Value.okWide Tryz.prog W .any base t v := hval0
  have hW' := hW
  obtain ⟨p, q, hA0, hV, rfl, hfz, hnd⟩ := hW
  have hA : DataW.TrodAll enc Tryz.prog W 0 (fun _ => true) true Tryz.f3.params.toList args.toList ds p := hA0
  rw [Tryz.params3] at hA hval
  obtain ⟨v0, vs0, d0, ds0, p0, q0, hargs, rfl, rfl, h0, r0⟩ := trodAll_cons hA
  obtain ⟨v1, vs1, d1, ds1, p1, q1, rfl, rfl, rfl, h1, r1⟩ := trodAll_cons r0
  obtain ⟨rfl, rfl, rfl⟩ := trodAll_nil r1
  obtain rfl : args = #[v0, v1] := by cases args; simp_all
  obtain ⟨rfl, rfl⟩ := trodVars_none hV
  have k0 := h0
  have lt0 : ∀ x ∈ p0, x.block < W.heap.size := by obtain ⟨m, hm⟩ := k0; exact DataW.trod_lt m _ _ _ hm
  have k1 := h1
  have lt1 : ∀ x ∈ p1, x.block < W.heap.size := by obtain ⟨m, hm⟩ := k1; exact DataW.trod_lt m _ _ _ hm
  obtain ⟨m0, hm0⟩ := h0
  obtain ⟨fs0, x0, e0, ok0, -, hr0⟩ := (rdr_tr).read enc W 0 _ _ m0 _ _ hm0
  obtain ⟨hx0, hl0⟩ := hr0
  obtain rfl := arg_agg (t := 25) (by kernel_rfl) (hval 0 25 v0 rfl rfl) e0
  obtain ⟨m1, hm1⟩ := h1
  obtain ⟨fs1, x1, e1, ok1, -, hr1⟩ := (rdr_krs).read enc W 0 _ _ m1 _ _ hm1
  obtain ⟨A1, c1, rfl, hl1, hs1⟩ := hr1
  obtain rfl := arg_one (t := 26) (by kernel_rfl) (hval 1 26 v1 rfl rfl) e1
  clear hA0 hval0
  have hc := climbKeeps_ok (kc := c1) x1 hl1 ⟨hx0, hl0⟩ hs1 (Fz.of W)
  refine hc.mono fun e W' ⟨he, hst⟩ => ?_
  subst he
  have bel : Below W.heap.size W W' := hst.only.below (Nat.le_refl _) (fun _ _ h => by obtain ⟨_, hb, _⟩ := h; cases hb)
  exact ⟨_, rfl, _, _, _, [], _, [], hW', trodAll_mk1 (shut_bool Tryz.underlying4 _), (trodAll_cons_mk (Below.trod laidOut (by kernel_rfl) (of_decide_eq_true (by kernel_rfl)) k0 bel lt0) (trodAll_cons_mk (Below.trod laidOut (by kernel_rfl) (of_decide_eq_true (by kernel_rfl)) k1 bel lt1) trodAll_mk0)), rfl, bel.frame _, fun h => by cases h⟩
theorem climbKeeps_proved : Rows.ClimbKeepsSaid :=
  OpenClaim.holds_of_wide 3 Tryz.f3 rfl rfl rfl rfl rfl rfl rfl ⟨rfl, rfl, rfl, rfl, rfl⟩ rfl rfl rfl rfl rfl (by kernel_rfl) Tryz.func3 (by kernel_rfl)
    (of_decide_eq_true (by kernel_rfl)) (by unfold Func.isWrapper; first | (rw [if_pos (by decide +kernel)]; kernel_rfl) | (rw [if_neg (by decide +kernel)]; exact ⟨rfl, rfl⟩))
    (fun os started H enc _ => climbKeeps_lifted os started H enc)
#print axioms climbKeeps_proved
end Go.Proofs.YtpjodlnlmaaihaaGreat
