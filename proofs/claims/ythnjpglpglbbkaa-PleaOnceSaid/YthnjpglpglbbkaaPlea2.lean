/- Plea: the list's small methods; deletion in place. -/
import Derived.Test.YthnjpglpglbbkaaPlea1
namespace Go.Proofs.Ythnjpglpglbbkaa
open Go.RowKit

section
variable {H : Hp} {w0 w : World} {L R : List Res}
/-- The first place at which f holds, or -1. -/
def idxOf {α : Type} (f : α → Bool) (l : List α) : Int := match l.findIdx? f with
  | some i => i
  | none => -1
theorem idxOf_at {α : Type} {f : α → Bool} {l : List α} {i : Nat} (hi : i < l.length) (h : ∀ j (hj : j < i), f (l[j]'(by omega)) = false) (hf : f l[i] = true) : idxOf f l = i := by
  unfold idxOf
  have : l.findIdx? f = some i := List.findIdx?_eq_some_iff_getElem.2 ⟨hi, hf, fun j hj => by simp [h j hj]⟩
  rw [this]
theorem idxOf_none {α : Type} {f : α → Bool} {l : List α} (h : ∀ j (hj : j < l.length), f l[j] = false) : idxOf f l = -1 := by
  unfold idxOf
  have : l.findIdx? f = none := by
    rw [List.findIdx?_eq_none_iff]
    intro x hx
    obtain ⟨j, hj, rfl⟩ := List.mem_iff_getElem.1 hx
    exact h j hj
  rw [this]
theorem idxOf_cases {α : Type} (f : α → Bool) (l : List α) : (idxOf f l = -1 ∧ ∀ x ∈ l, f x = false) ∨ ∃ i : Nat, ∃ hi : i < l.length, idxOf f l = i ∧ f l[i] = true ∧ ∀ j (hj : j < i), f (l[j]'(by omega)) = false := by
  unfold idxOf
  cases h : l.findIdx? f with
  | none => exact .inl ⟨rfl, by simpa [List.findIdx?_eq_none_iff] using h⟩
  | some i =>
    obtain ⟨h1, h2, h3⟩ := List.findIdx?_eq_some_iff_getElem.1 h
    exact .inr ⟨i, h1, rfl, h2, fun j hj => by simpa using h3 j hj⟩
abbrev prow (A : Option Addr) (n c : Nat) (l : List Ple) : Res := rowR 129 68 A n c (l.map Ple.fds)
theorem pfind_ok {A : Option Addr} {n cap : Nat} {r : Res} {c : Value} {f : Ple → Bool} (xs : List Ple) (hn : xs.length = n) (hc : Clo Try.prog H w0 r c pv f) (hM : Mem H w0 (r :: prow A n cap xs :: R) w) (hb : n < 1000000) :
    Calls Try.prog 101 #[.slice A n cap, c] w fun en w' => ∃ v, en = .returned v ∧ v = .int .i64 (idxOf f xs) ∧ Mem H w0 (r :: prow A n cap xs :: R) w' := by
  refine C_slices_IndexFunc_plea_Plea_plea_Plea ?_
  unfold F_slices_IndexFunc_plea_Plea_plea_Plea
  ((with_reducible (refine mop_c trivial ?_)))
  refine ⟨fun x w => ∃ i : Nat, x = .int .i64 i ∧ i ≤ n ∧ (∀ j (hj : j < xs.length), j < i → f xs[j] = false) ∧ hM.now w, fun x _ => match x with | .int _ i => n - i.toNat | _ => 0, ⟨0, rfl, by omega, by intro j hj h; omega, hM⟩, ?_⟩
  rintro x u w ⟨i, rfl, hi, hf, hM⟩
  ((with_reducible (refine mop_cS trivial ?_ ?_)))
  · intro hlt
    ((with_reducible (refine mif_true ?_; refine mm_ixr hM ?_ ?_)); (focus omega); (with_reducible (intro _ hA)); (cases hA); (with_reducible (refine mm_ldr0 hM (map_atI ?_) ?_)); (focus omega))
    refine hc _ _ _ _ _ hM (fun w hM => ?_)
    cases hfi : f (xs[i]'(by omega))
    · ((with_reducible (refine mif_false ?_; refine mop_c ?_ ?_)); (focus omega))
      exact ⟨⟨i + 1, by simp, by omega, fun j hj hji => by
        rcases Nat.lt_or_ge j i with h | h
        · exact hf j hj h
        · have : j = i := by omega
          subst this
          exact hfi, hM⟩, by simp; omega⟩
    · ((with_reducible (refine mif_true ?_)))
      exact ⟨_, rfl, by rw [idxOf_at (i := i) (by omega) (fun j hj => hf j (by omega) hj) hfi], hM⟩
  · intro hge
    ((with_reducible (refine mif_false ?_)))
    exact ⟨_, rfl, by rw [idxOf_none fun j hj => hf j hj (by omega)], hM⟩
theorem pclone_R {A : Option Addr} {n cap : Nat} (xs : List Ple) (hn : n = xs.length) (hb : n < 1000000) (hs : Sl (Hp.of w) 68 A (xs.map Ple.fds)) (hM : Mem H w0 L w) (Q : Ending → World → Prop)
    (hQ : ∀ A' cap' w', Ext w w' → Mem H w0 (prow A' n cap' xs :: L) w' → Q (.returned (.slice A' n cap')) w') : Calls Try.prog 89 #[.slice A n cap] w Q := by
  refine C_slices_Clone_plea_Plea_plea_Plea ?_
  unfold F_slices_Clone_plea_Plea_plea_Plea
  refine clone_gen (P := Try.prog) (t := 123) (R := Q) hs ?_ hM ?_ hQ
  · simpa using hn
  · omega
theorem pclone_ok {A : Option Addr} {n cap : Nat} (xs : List Ple) (hn : n = xs.length) (hb : n < 1000000) (hs : Sl (Hp.of w) 68 A (xs.map Ple.fds)) (hM : Mem H w0 L w) :
    Calls Try.prog 89 #[.slice A n cap] w fun en w' => ∃ v, en = .returned v ∧ ∃ A' cap', v = .slice A' n cap' ∧ Ext w w' ∧ Mem H w0 (prow A' n cap' xs :: L) w' :=
  pclone_R xs hn hb hs hM _ fun A' cap' _ hx hm => ⟨_, rfl, A', cap', rfl, hx, hm⟩
theorem set_take_succ {α : Type} (l : List α) (i : Nat) (x : α) (h : i < l.length) : (l.set i x).take (i + 1) = l.take i ++ [x] := by
  rw [List.take_succ_eq_append_getElem (by simpa using h), List.getElem_set_self, List.take_set_of_le (Nat.le_refl i)]
theorem set_drop {α : Type} (l : List α) (i j : Nat) (x : α) (h : i < j) : (l.set i x).drop j = l.drop j := List.drop_set_of_lt h
theorem pdel_ok {A : Option Addr} {n cap : Nat} {r : Res} {c : Value} {f : Ple → Bool} (xs : List Ple) (hn : xs.length = n) (hc : Clo Try.prog H w0 r c pv f) (hM : Mem H w0 (r :: prow A n cap xs :: R) w) (hb : n < 1000000) :
    Calls Try.prog 92 #[.slice A n cap, c] w fun en w' => ∃ v, en = .returned v ∧ ∃ k, v = .slice A k cap ∧ k = (xs.filter fun x => !f x).length ∧ Mem H w0 (r :: prow A k cap (xs.filter fun x => !f x) :: R) w' := by
  refine C_slices_DeleteFunc_plea_Plea_plea_Plea ?_
  unfold F_slices_DeleteFunc_plea_Plea_plea_Plea
  refine mm_own (pfind_ok xs hn hc hM hb) ?_
  rintro v w2 ⟨rfl, hM⟩
  rcases idxOf_cases f xs with ⟨hi, hall⟩ | ⟨i0, hi0, hi, hfi, hlow⟩
  · rw [hi]
    ((with_reducible (refine mop_cT trivial ?_ ?_)); (focus (first | assumption | omega)); (with_reducible (refine mif_true ?_)))
    have e : xs.filter (fun x => !f x) = xs := List.filter_eq_self.2 fun x hx => by simp [hall x hx]
    rw [e]
    exact ⟨_, rfl, n, rfl, hn.symm, hM⟩
  · rw [hi]
    have hcl : n ≤ cap := ((hM.up A).rowLen ⟨.refl _⟩).2.1
    ((with_reducible (refine mop_cF trivial ?_ ?_)); (focus (first | assumption | omega)); (with_reducible (refine mif_false ?_; refine mop_c ?_ ?_)); (focus omega))
    have e0 : (xs.take (i0 + 1)).filter (fun x => !f x) = xs.take i0 := by
      rw [List.take_succ_eq_append_getElem hi0, List.filter_append, List.filter_eq_self.2 fun x hx => ?_]
      · simp [hfi]
      · obtain ⟨j, hj, rfl⟩ := List.mem_iff_getElem.1 hx
        have hj2 : j < i0 := by simp at hj; omega
        simp [hlow j hj2]
    obtain ⟨g, rfl⟩ := (hM.up A).rowAt ⟨.refl _⟩ (by omega)
    refine ⟨fun x y w' => ∃ (i j : Nat) (ys : List Ple), x = .int .i64 i ∧ y = .int .i64 j ∧ i < j ∧ j ≤ n ∧ ys.length = n ∧ ys.take i = (xs.take j).filter (fun x => !f x) ∧ ys.drop j = xs.drop j ∧ Mem H w0 (r :: prow (some ⟨g, 0, none⟩) n cap ys :: R) w',
      fun _ y _ => match y with | .int _ j => n - j.toNat | _ => 0, ⟨i0, i0 + 1, xs, rfl, by simp, by omega, by omega, hn, e0.symm, rfl, hM⟩, ?_⟩
    clear hM
    rintro x y u w3 ⟨i, j, ys, rfl, rfl, hij, hjn, hyl, htk, hdr, hM⟩
    ((with_reducible (refine mop_c trivial ?_)))
    ((with_reducible (refine mop_cS trivial ?_ ?_)))
    · intro hlt
      have hj1 : j < ys.length := by omega
      have hj2 : j < xs.length := by omega
      have hyj : ys[j] = xs[j] := by
        have := congrArg (·[0]?) hdr
        simpa [hj1, hj2] using this
      ((with_reducible (refine mif_true ?_)))
      refine ⟨fun x w' => ∃ (i : Nat) (ys : List Ple), x = .int .i64 i ∧ i < j + 1 ∧ ys.length = n ∧ ys.take i = (xs.take (j + 1)).filter (fun x => !f x) ∧ ys.drop (j + 1) = xs.drop (j + 1) ∧ Mem H w0 (r :: prow (some ⟨g, 0, none⟩) n cap ys :: R) w', ?_, ?_⟩
      · ((with_reducible (refine mm_ixr hM ?_ ?_)); (focus omega); (with_reducible (intro _ hA)); (cases hA); (with_reducible (refine mm_ldr0 hM (map_atI ?_) ?_)); (focus omega); (with_reducible (refine mm_new hM ?_; clear hM; intro _ _ hM; refine mm_st hM ?_; clear hM; intro _ hM; refine mm_ld hM ?_)))
        rename_i b2 _ _
        have hd1 : ys.drop (j + 1) = xs.drop (j + 1) := by
          have := congrArg (List.drop 1) hdr
          simpa [List.drop_drop] using this
        refine hc ys[j] _ _ _ _ (hM.at_ r) (fun w hM => ?_)
        rw [hyj, List.take_succ_eq_append_getElem hj2, List.filter_append]
        cases hf : f xs[j]
        · ((with_reducible (refine mop_c trivial ?_; refine mif_true ?_; refine mm_ld hM ?_; refine mm_ixr hM ?_ ?_)); (focus omega); (with_reducible (intro _ hA)); (cases hA); (with_reducible (refine mm_str hM ?_ ?_)); (focus omega); (with_reducible (clear hM; intro _ hM; refine mop_c ?_ ?_)); (focus omega))
          refine ⟨i + 1, ys.set i xs[j], by simp, by omega, by simpa using hyl, ?_, ?_, ?_⟩
          · rw [set_take_succ _ _ _ (by omega), htk]
            simp [hf]
          · rw [set_drop _ _ _ _ (by omega), hd1]
          · have hM := hM.rm b2
            rw [← List.map_set, Int.toNat_natCast, hyj] at hM
            exact hM.same
        · ((with_reducible (refine mop_c trivial ?_; refine mif_false ?_)))
          exact ⟨i, ys, rfl, by omega, hyl, by simp [hf, htk], hd1, (hM.rm b2).same⟩
      · rintro x u w4 ⟨i, ys, rfl, hij, hyl, htk, hdr, hM⟩
        ((with_reducible (refine mop_c ?_ ?_)); (focus omega))
        exact ⟨⟨i, j + 1, ys, rfl, by simp, by omega, by omega, hyl, htk, hdr, hM⟩, by simp; omega⟩
    · intro hge
      have : j = n := by omega
      subst this
      rw [← hn, List.take_length] at htk
      have hlen : i = (xs.filter fun x => !f x).length := by rw [← htk, List.length_take]; omega
      ((with_reducible (refine mif_false ?_; refine mop_c ?_ ?_)); (focus omega))
      rw [Int.toNat_natCast]
      refine mm_clear hM (k := i) (by omega) (fun w4 hM => ?_)
      ((with_reducible (refine mop_c ?_ ?_)); (focus omega))
      rw [← List.map_take, htk] at hM
      exact ⟨_, rfl, i, by rw [Int.toNat_natCast], hlen, hM.same⟩
theorem psnoc (op : List Ple) (x : Ple) : op.map Ple.fds ++ [x.fds] = (op ++ [x]).map Ple.fds := by simp
/-- A list: the last number, the open pleas, those that were dropped. -/
def listR (g : Nat) (last : Int) (op dr : List Ple) : Res := exR fun p : (Option Addr × Nat) × (Option Addr × Nat) =>
  [fb g 175 [.one (.int .i64 last), .one (.slice p.1.1 op.length p.1.2), .one (.slice p.2.1 dr.length p.2.2)], prow p.1.1 op.length p.1.2 op, prow p.2.1 dr.length p.2.2 dr]
theorem Mem.list {g : Nat} {last : Int} {op dr : List Ple} (h : Mem H w0 (listR g last op dr :: L) w) : ∃ A1 c1 A2 c2, Mem H w0 (fb g 175 [.one (.int .i64 last), .one (.slice A1 op.length c1), .one (.slice A2 dr.length c2)] :: prow A1 op.length c1 op :: prow A2 dr.length c2 dr :: L) w := by
  obtain ⟨p, h⟩ := h.unex
  exact ⟨p.1.1, p.1.2, p.2.1, p.2.2, h⟩
theorem Mem.unlist {g n1 n2 c1 c2 : Nat} {last : Int} {op dr : List Ple} {A1 A2 : Option Addr} (h : Mem H w0 (fb g 175 [.one (.int .i64 last), .one (.slice A1 n1 c1), .one (.slice A2 n2 c2)] :: prow A1 n1 c1 op :: prow A2 n2 c2 dr :: L) w) (e1 : n1 = op.length) (e2 : n2 = dr.length) : Mem H w0 (listR g last op dr :: L) w := by
  subst e1; subst e2
  exact Mem.toex (R := fun p : (Option Addr × Nat) × (Option Addr × Nat) => [fb g 175 [.one (.int .i64 last), .one (.slice p.1.1 op.length p.1.2), .one (.slice p.2.1 dr.length p.2.2)], prow p.1.1 op.length p.1.2 op, prow p.2.1 dr.length p.2.2 dr]) ((A1, c1), (A2, c2)) h
theorem pnew_ok (hM : Mem H w0 L w) : Calls Try.prog 62 #[] w fun en w' => ∃ v, en = .returned v ∧ ∃ g, v = .pointer (some ⟨g, 0, none⟩) ∧ Mem H w0 (listR g 0 [] [] :: L) w' := by
  refine C_plea_New ?_
  unfold F_plea_New
  ((with_reducible (refine mop_c trivial ?_; refine mm_box hM ?_; clear hM; intro _ _ hM)))
  exact ⟨_, rfl, _, rfl, Mem.unlist (A1 := none) (A2 := none) (c1 := 0) (c2 := 0) (((hM.row0 129 68).row0 129 68).upB _) rfl rfl⟩
/-- What Ask makes of the open ones. -/
def askL (last : Int) (op : List Ple) (c : Chg) (e : H32) : Int × List Ple × Int × Int :=
  if 32 ≤ op.length then (last, op, 0, 9) else (last + 1, op ++ [⟨last + 1, c, e, 0⟩], last + 1, 0)
theorem ask_ok (g : Nat) (last : Int) (op dr : List Ple) (c : Chg) (e : H32) (hl : 0 ≤ last ∧ last < 1000000) (hM : Mem H w0 (listR g last op dr :: L) w) :
    Calls Try.prog 63 #[.pointer (some ⟨g, 0, none⟩), cv c, ha e] w fun en w' => ∃ v, en = .returned v ∧ v = .tuple #[.int .i64 (askL last op c e).2.2.1, .int .i64 (askL last op c e).2.2.2] ∧ Mem H w0 (listR g (askL last op c e).1 (askL last op c e).2.1 dr :: L) w' := by
  obtain ⟨A1, c1, A2, c2, hM⟩ := hM.list
  refine C_plea_List_Ask ?_
  unfold F_plea_List_Ask
  ((with_reducible (refine mm_box hM ?_; clear hM; intro _ _ hM; refine mm_box hM ?_; clear hM; intro _ _ hM; refine mop_c trivial ?_; refine mif_false ?_; refine mop_c trivial ?_; refine mop_c trivial ?_; refine mm_ld hM ?_; refine mop_c trivial ?_)))
  rename_i b1 _ b2 _
  unfold askL
  ((with_reducible (refine mop_cS trivial ?_ ?_)))
  · intro h
    ((with_reducible (refine mif_true ?_)))
    rw [if_pos (by omega)]
    exact ⟨_, rfl, rfl, Mem.unlist ((hM.rm b1).rm b2) rfl rfl⟩
  · intro h
    ((with_reducible (refine mif_false ?_; refine mop_c trivial ?_; refine mop_c trivial ?_; refine mm_ld hM ?_; refine mop_c ?_ ?_)); (focus omega); (with_reducible (refine mop_c trivial ?_; refine mop_c trivial ?_; refine mm_st hM ?_; clear hM; intro _ hM; refine dp_c trivial ?_; refine dp_c trivial ?_; refine dm_ld hM ?_; refine dp_c trivial ?_; refine dp_c trivial ?_; (iterate 3 refine dm_ld hM ?_); refine dp_c trivial ?_; refine dS_bsl hM ?_ ?_ ?_)); (focus rfl); (focus (constructor <;> simp)); (with_reducible (clear hM; intro _ _ hM; refine dS_appF hM ?_ ?_)); (focus omega); (with_reducible (clear hM; intro _ _ _ hM; refine dp_c trivial ?_; refine dp_c trivial ?_; refine dS_st hM ?_; clear hM; intro _ hM; refine mm_end hM ?_; clear hM; intro _ hM; refine mop_c trivial ?_; refine mop_c trivial ?_; refine mm_ld hM ?_)))
    rw [if_neg (by omega)]
    refine ⟨_, rfl, rfl, ?_⟩
    have hM := ((hM.rm b1).rm b2).upB g
    rw [psnoc op ⟨last + 1, c, e, 0⟩] at hM
    exact Mem.unlist hM (by simp) rfl
end
end Go.Proofs.Ythnjpglpglbbkaa
