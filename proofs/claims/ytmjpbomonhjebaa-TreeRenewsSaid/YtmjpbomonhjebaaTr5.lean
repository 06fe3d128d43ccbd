/- Copies of trees; where a name is; whether nobody is at a place. -/
import Derived.Test.YtmjpbomonhjebaaTr4
namespace Go.Proofs.Ytmjpbomonhjebaa
open Go.RowKit Go.Lib

theorem xrow0 : xrow x0 = [.one (.bool false), .arr 32 (u8s hzero.1), .arr 32 (u8s hzero.1), .one (.slice none 0 0)] := rfl
theorem modify_const {α : Type} (l : List α) (k : Nat) (y : α) : l.modify k (fun _ => y) = l.set k y := by
  refine List.ext_getElem (by simp) fun i h1 h2 => ?_
  simp only [List.getElem_modify, List.getElem_set]
theorem onDir_succ {f : Pn → Pn} {D : List Int} {ps : List Pn} {i : Nat} (h : i < D.length) : onDir f (D.take (i + 1)) ps = (onDir f (D.take i) ps).modify (D[i] / 2).toNat f := by
  unfold onDir
  rw [List.take_succ_eq_append_getElem h, List.foldl_append]
  rfl
section
variable {H : Hp} {w0 w : World} {L R : List Res} {A B C : Option Addr} {a b c n : Nat} {t : Tr} {qs ps : List (List Fd)}
theorem cloneL_q {Q : Ending → World → Prop} (hs : Sl (Hp.of w) 97 A ps) (hn : n = ps.length) (hb : n ≤ 100000) (hM : Mem H w0 L w)
    (hQ : ∀ A' a' w', Ext w w' → Mem H w0 (rowR 52 97 A' n a' ps :: L) w' → Q (.returned (.slice A' n a')) w') : Calls Try.prog 122 #[.slice A n a] w Q := by
  refine C_slices_Clone_api_Leaf_api_Leaf ?_
  unfold F_slices_Clone_api_Leaf_api_Leaf
  refine clone_gen (P := Try.prog) (t := 46) (R := Q) hs hn hM ?_ hQ
  omega
theorem cloneL_ok (hs : Sl (Hp.of w) 97 A ps) (hn : n = ps.length) (hb : n ≤ 100000) (hM : Mem H w0 L w) : Calls Try.prog 122 #[.slice A n a] w fun en w' => ∃ v, en = .returned v ∧ Ext w w' ∧ ∃ A' a', v = .slice A' n a' ∧ Mem H w0 (rowR 52 97 A' n a' ps :: L) w' :=
  cloneL_q hs hn hb hM fun A' a' w' hx hM => ⟨_, rfl, hx, _, _, rfl, hM⟩
theorem cloneP_q {Q : Ending → World → Prop} (hs : Sl (Hp.of w) 66 A ps) (hn : n = ps.length) (hb : n ≤ 100000) (hM : Mem H w0 L w)
    (hQ : ∀ A' a' w', Ext w w' → Mem H w0 (rowR 104 66 A' n a' ps :: L) w' → Q (.returned (.slice A' n a')) w') : Calls Try.prog 123 #[.slice A n a] w Q := by
  refine C_slices_Clone_api_Parent_api_Parent ?_
  unfold F_slices_Clone_api_Parent_api_Parent
  refine clone_gen (P := Try.prog) (t := 47) (R := Q) hs hn hM ?_ hQ
  omega
theorem cloneP_ok (hs : Sl (Hp.of w) 66 A ps) (hn : n = ps.length) (hb : n ≤ 100000) (hM : Mem H w0 L w) : Calls Try.prog 123 #[.slice A n a] w fun en w' => ∃ v, en = .returned v ∧ Ext w w' ∧ ∃ A' a', v = .slice A' n a' ∧ Mem H w0 (rowR 104 66 A' n a' ps :: L) w' :=
  cloneP_q hs hn hb hM fun A' a' w' hx hM => ⟨_, rfl, hx, _, _, rfl, hM⟩
theorem cloneI_q {Q : Ending → World → Prop} (hs : Sl (Hp.of w) 1 A ps) (hn : n = ps.length) (hb : n ≤ 100000) (hM : Mem H w0 L w)
    (hQ : ∀ A' a' w', Ext w w' → Mem H w0 (rowR 3 1 A' n a' ps :: L) w' → Q (.returned (.slice A' n a')) w') : Calls Try.prog 124 #[.slice A n a] w Q := by
  refine C_slices_Clone_int_int ?_
  unfold F_slices_Clone_int_int
  refine clone_gen (P := Try.prog) (t := 69) (R := Q) hs hn hM ?_ hQ
  omega
theorem cloneI_ok (hs : Sl (Hp.of w) 1 A ps) (hn : n = ps.length) (hb : n ≤ 100000) (hM : Mem H w0 L w) : Calls Try.prog 124 #[.slice A n a] w fun en w' => ∃ v, en = .returned v ∧ Ext w w' ∧ ∃ A' a', v = .slice A' n a' ∧ Mem H w0 (rowR 3 1 A' n a' ps :: L) w' :=
  cloneI_q hs hn hb hM fun A' a' w' hx hM => ⟨_, rfl, hx, _, _, rfl, hM⟩
theorem clone_ok (h1 : Sl H 97 A (t.ls.map Lf.fds)) (h2 : Sl H 66 B qs) (h3 : All2 (PnF H) qs t.ps) (hl : t.ls.length ≤ 1000) (hp : t.ps.length ≤ 1000) (hlo : ∀ p ∈ t.ps, p.loose.length ≤ 1000) (hM : Mem H w0 L w) :
    Calls Try.prog 73 #[tv A t.ls.length a B t.ps.length b] w fun en w' => ∃ v, en = .returned v ∧ ∃ A' a' B' b' X, v = tv A' t.ls.length a' B' t.ps.length b' ∧ X.map (·.1) = t.ps ∧
      Mem H w0 (rowR 52 97 A' t.ls.length a' (t.ls.map Lf.fds) :: rowR 104 66 B' t.ps.length b' (X.map xrow) :: allR X :: L) w' := by
  have hq : qs.length = t.ps.length := h3.len
  refine C_tree_clone ?_
  unfold F_tree_clone
  ((with_reducible (refine mm_box hM ?_; clear hM; intro _ _ hM; refine mm_new hM ?_; clear hM; intro _ _ hM)))
  rename_i g1 _ g2 _
  refine ⟨fun v w' => ∃ g3 A' a' B' b', v = .pointer (some ⟨g3, 0, none⟩) ∧ Mem H w0 (fb g3 49 (tfd A' t.ls.length a' B' t.ps.length b') :: fb g2 49 (tfd none 0 0 none 0 0) :: rowR 52 97 A' t.ls.length a' (t.ls.map Lf.fds) :: rowR 104 66 B' t.ps.length b' qs :: L) w', ⟨?_, ?_, ?_⟩, ?_⟩
  · ((with_reducible (refine dp_c trivial ?_; refine dm_ld hM ?_; refine dp_c trivial ?_; refine dm_ld hM ?_)))
    refine dm_ownE hM (fun w hM => cloneL_ok (h1.mono (le_of hM.fz)) (by simp) (by omega) hM) ?_
    rintro v w' hx ⟨A', a', rfl, hM⟩
    skip
    refine dm_own hM (fun w hM => (cloneP_ok (h2.mono (le_of hM.fz)) hq.symm (by omega) hM).mono fun en w' ⟨v, h, _, k⟩ => ⟨v, h, k⟩) ?_
    rintro v w' ⟨B', b', rfl, hM⟩
    ((with_reducible (refine dp_c trivial ?_; refine dm_new hM ?_; clear hM; intro _ _ hM; refine dS_st hM ?_; clear hM; intro _ hM; refine mm_end hM ?_; clear hM; intro _ hM)))
    exact ⟨_, A', a', B', b', rfl, hM.sub⟩
  · ((with_reducible (refine dp_c trivial ?_; refine dm_ld hM ?_; refine dp_c trivial ?_; refine dm_ld hM ?_)))
    refine dm_ownE hM (fun w hM => cloneL_ok (h1.mono (le_of hM.fz)) (by simp) (by omega) hM) ?_
    rintro v w' hx ⟨A', a', rfl, hM⟩
    ((with_reducible (refine dm_new hM ?_; clear hM; intro _ _ hM)))
    refine dm_own hM (fun w hM => (cloneP_ok (h2.mono (le_of hM.fz)) hq.symm (by omega) hM).mono fun en w' ⟨v, h, _, k⟩ => ⟨v, h, k⟩) ?_
    rintro v w' ⟨B', b', rfl, hM⟩
    ((with_reducible (refine dp_c trivial ?_; refine dS_st hM ?_; clear hM; intro _ hM; refine mm_end hM ?_; clear hM; intro _ hM)))
    exact ⟨_, A', a', B', b', rfl, hM.sub⟩
  · ((with_reducible (refine dp_c trivial ?_; refine dm_ld hM ?_; refine dp_c trivial ?_; refine dm_ld hM ?_; refine dm_new hM ?_; clear hM; intro _ _ hM)))
    refine dm_ownE hM (fun w hM => cloneL_ok (h1.mono (le_of hM.fz)) (by simp) (by omega) hM) ?_
    rintro v w' hx ⟨A', a', rfl, hM⟩
    skip
    refine dm_own hM (fun w hM => (cloneP_ok (h2.mono (le_of hM.fz)) hq.symm (by omega) hM).mono fun en w' ⟨v, h, _, k⟩ => ⟨v, h, k⟩) ?_
    rintro v w' ⟨B', b', rfl, hM⟩
    ((with_reducible (refine dp_c trivial ?_; refine dS_st hM ?_; clear hM; intro _ hM; refine mm_end hM ?_; clear hM; intro _ hM)))
    exact ⟨_, A', a', B', b', rfl, hM.sub⟩
  clear hM
  rintro v u2 w2 ⟨g3, A', a', B', b', rfl, hM⟩
  ((with_reducible (refine mop_c trivial ?_; refine mm_ld hM ?_; refine mop_c trivial ?_)))
  have hM0 : Mem H w0 (fb g3 49 (tfd A' t.ls.length a' B' t.ps.length b') :: fb g2 49 (tfd none 0 0 none 0 0) :: rowR 52 97 A' t.ls.length a' (t.ls.map Lf.fds) :: rowR 104 66 B' t.ps.length b' qs :: allR [] :: L) _ := hM.all0.same
  refine ⟨fun v w' => ∃ (i : Nat) (X : List Xp), v = .int .i64 i ∧ i ≤ t.ps.length ∧ X.map (·.1) = t.ps.take i ∧ Mem H w0 (fb g3 49 (tfd A' t.ls.length a' B' t.ps.length b') :: fb g2 49 (tfd none 0 0 none 0 0) :: rowR 52 97 A' t.ls.length a' (t.ls.map Lf.fds) :: rowR 104 66 B' t.ps.length b' (X.map xrow ++ qs.drop i) :: allR X :: L) w', fun v _ => match v with | .int _ k => t.ps.length - k.toNat | _ => 0, ⟨0, [], rfl, by omega, rfl, hM0⟩, ?_⟩
  clear hM hM0
  rintro v u3 w3 ⟨i, X, rfl, hi, hX, hM⟩
  have hXl : X.length = i := by
    have := congrArg List.length hX
    simp at this
    omega
  ((with_reducible (refine mop_cS trivial ?_ ?_)))
  · intro hlt
    have hlt' : i < t.ps.length := by omega
    obtain ⟨q, hq1, C, c, rfl, hC, hcl⟩ := h3.at_ (i := i) hlt'
    obtain ⟨p, hpe⟩ : ∃ p, t.ps[i] = p := ⟨_, rfl⟩
    have hpl := hlo p (hpe ▸ List.getElem_mem _)
    rw [hpe] at hq1 hC
    have hrow : (X.map xrow ++ qs.drop i)[(i : Int).toNat]? = some (p.row C c) := by
      rw [Int.toNat_natCast, List.getElem?_append_right (by simp; omega)]
      simp [hXl, hq1]
    ((with_reducible (refine mif_true ?_; refine dp_c trivial ?_; refine dm_ld hM ?_; refine dp_c trivial ?_; refine dm_ld hM ?_; refine dp_ixr hM ?_ ?_)); (focus omega); (with_reducible (intro _ hA)); (cases hA); (with_reducible (refine dp_c trivial ?_)))
    refine dm_ldr hM hrow ?_
    refine dm_ownE hM (fun w hM => cloneI_ok (hC.mono (le_of hM.fz)) (by simp) (by omega) hM) ?_
    rintro v w' hx ⟨C', c', rfl, hM⟩
    ((with_reducible (refine dp_ixr hM ?_ ?_)); (focus omega); (with_reducible (intro _ hA)); (cases hA); (with_reducible (refine dp_c trivial ?_)))
    refine dm_stf hM hrow (fun w' hM => ?_)
    ((with_reducible (refine mm_end hM ?_; clear hM; intro _ hM; refine mop_c ?_ ?_)); (focus omega))
    rename_i g5 _ _ _ _
    have hset : (X.map xrow ++ qs.drop i).set (i : Int).toNat (p.row C' c') = (X ++ [(p, C', c')]).map xrow ++ qs.drop (i + 1) := by
      rw [Int.toNat_natCast, List.set_append_right _ _ (by simp; omega)]
      simp only [List.length_map, hXl, Nat.sub_self, List.map_append, List.append_assoc]
      rw [List.drop_eq_getElem_cons (by omega)]
      rfl
    have hM2 : Mem H w0 (rowR 104 66 (some ⟨g5, 0, none⟩) t.ps.length b' ((X ++ [(p, C', c')]).map xrow ++ qs.drop (i + 1)) :: _) _ := hset ▸ hM
    have hM : Mem H w0 (allR X :: xres (p, C', c') :: fb g3 49 (tfd A' t.ls.length a' (some ⟨g5, 0, none⟩) t.ps.length b') :: fb g2 49 (tfd none 0 0 none 0 0) :: rowR 52 97 A' t.ls.length a' (t.ls.map Lf.fds) :: rowR 104 66 (some ⟨g5, 0, none⟩) t.ps.length b' ((X ++ [(p, C', c')]).map xrow ++ qs.drop (i + 1)) :: L) _ := hM2.sub
    refine ⟨⟨i + 1, X ++ [(p, C', c')], rfl, by omega, ?_, hM.addk.same⟩, by simp only; omega⟩
    rw [List.map_append, hX, List.take_succ_eq_append_getElem hlt', hpe]
    rfl
  · intro hge
    obtain rfl : i = t.ps.length := by omega
    rw [List.take_length] at hX
    rw [List.drop_eq_nil_of_le (by omega), List.append_nil] at hM
    ((with_reducible (refine mif_false ?_; refine mm_ld hM ?_; refine mm_st hM ?_; clear hM; intro _ hM; refine rm_ld hM ?_)))
    exact ⟨_, rfl, _, _, _, _, _, rfl, hX, hM.sub⟩
theorem none_ok (p : Int) (h1 : Sl H 97 A (t.ls.map Lf.fds)) (hl : t.ls.length ≤ maxLen) (hf : Fz H w) : Calls Try.prog 82 #[tv A t.ls.length a B n b, .int .i64 p] w fun en w' => en = .returned (.bool (decide (t.nobody p))) ∧ St w [] w' := by
  have hM := Mem.start hf
  have hl' : t.ls.length ≤ 9223372036854775807 := hl
  refine C_tree_none ?_
  unfold F_tree_none
  ((with_reducible (refine mm_box hM ?_; clear hM; intro _ _ hM)))
  ((with_reducible (refine mop_cS trivial ?_ ?_)))
  · intro h
    ((with_reducible ((iterate 5 refine mguard_n1 ?_); refine mop_c trivial ?_; (iterate 7 refine mguard_n1 ?_); refine mop_c trivial ?_)))
    exact ⟨by rw [decide_eq_true (show t.nobody p from .inl (.inl h))], hM.st⟩
  · intro h
    ((with_reducible (refine mguard_yes ?_; refine mop_c trivial ?_; refine mguard_yes ?_; refine mop_c trivial ?_; refine mguard_yes ?_; refine mm_ld hM ?_; refine mguard_yes ?_; refine mop_c trivial ?_; refine mguard_yes ?_)))
    ((with_reducible (refine mop_cS trivial ?_ ?_)))
    · intro h2
      ((with_reducible (refine mop_c trivial ?_; (iterate 7 refine mguard_n1 ?_); refine mop_c trivial ?_)))
      exact ⟨by rw [decide_eq_true (show t.nobody p from .inl (.inr h2))], hM.st⟩
    · intro h2
      have h3 : p.toNat < t.ls.length := by omega
      have h4 := nameAt_at (ls := t.ls) (p := p) (by omega) h3
      ((with_reducible (refine mop_c trivial ?_; refine mguard_yes ?_; refine mop_c trivial ?_; refine mguard_yes ?_; refine mm_ld hM ?_; refine mguard_yes ?_; refine mop_c trivial ?_; refine mguard_yes ?_)); (with_reducible refine mm_ixs ‹_› ?_ ?_ ?_); (focus (simp only [List.length_map]; omega)); (focus (simp only [List.length_map]; first | done | omega)); (with_reducible (intro _ _ hA)); (cases hA); (with_reducible (refine mguard_yes ?_; refine mop_c trivial ?_; refine mguard_yes ?_)); (with_reducible refine mm_lds hM ‹_› (map_at ?_) ?_); (focus omega); (with_reducible (refine mguard_yes ?_)))
      rw [← h4]
      ((with_reducible (refine mop_cS trivial ?_ ?_)))
      · intro h5
        ((with_reducible (refine mop_c trivial ?_)))
        exact ⟨by rw [decide_eq_true (show t.nobody p from .inr h5)], hM.st⟩
      · intro h5
        ((with_reducible (refine mop_c trivial ?_)))
        exact ⟨by rw [decide_eq_false (show ¬ t.nobody p from fun k => k.elim (fun k => k.elim h h2) h5)], hM.st⟩
theorem sound_ok (h1 : Sl H 97 A (t.ls.map Lf.fds)) (h2 : Sl H 66 B qs) (h3 : All2 (PnF H) qs t.ps) (hl : t.ls.length ≤ maxLen) (hp : t.ps.length ≤ maxLen) (hf : Fz H w) :
    Calls Try.prog 87 #[tv A t.ls.length a B t.ps.length b] w fun en w' => en = .returned (if t.right = true then tv A t.ls.length a B t.ps.length b else tv none 0 0 none 0 0) ∧ St w [] w' := by
  have hM := Mem.start hf
  refine C_tree_sound ?_
  unfold F_tree_sound
  ((with_reducible (refine mm_box hM ?_; clear hM; intro _ _ hM; refine mm_new hM ?_; clear hM; intro _ _ hM; refine mm_ld hM ?_)))
  refine mm_pure hM (right_ok h1 h2 h3 hl hp hM.fz) (fun w hM => ?_)
  cases hr : t.right
  · ((with_reducible (refine mif_false ?_; refine mop_c trivial ?_; refine mm_st hM ?_; clear hM; intro _ hM; refine rm_ld hM ?_)))
    exact ⟨rfl, hM.st⟩
  · ((with_reducible (refine mif_true ?_; refine mm_ld hM ?_; refine mm_st hM ?_; clear hM; intro _ hM; refine rm_ld hM ?_)))
    exact ⟨rfl, hM.st⟩
theorem place1_ok (g : Nat) (x : Int) (y : Lf) (hM : Mem H w0 (fb g 3 [.one (.int .i64 x)] :: R) w) :
    Calls Try.prog 121 #[lv y, .pointer (some ⟨g, 0, none⟩)] w fun e w' => ∃ v, e = .returned v ∧ v = .bool (decide (y.name = x)) ∧ Mem H w0 (fb g 3 [.one (.int .i64 x)] :: R) w' := by
  refine C_tree_Place_1 ?_
  unfold F_tree_Place_1
  ((with_reducible (refine mm_box hM ?_; clear hM; intro _ _ hM; refine mop_c trivial ?_; refine mm_ld hM ?_; refine mm_ld hM ?_)))
  ((with_reducible (refine mop_cS trivial ?_ ?_)))
  all_goals
    intro hi
    skip
    exact ⟨_, rfl, by simp [hi], hM.drop⟩
theorem clo_place (g : Nat) (x : Int) : Clo Try.prog H w0 (fb g 3 [.one (.int .i64 x)]) (.func (.func 121) #[] #[.pointer (some ⟨g, 0, none⟩)]) lv (fun y : Lf => decide (y.name = x)) := fun y R w K X hM hk =>
  mop_callv (place1_ok g x y hM) (by rintro e w' ⟨v, rfl, rfl, h⟩; exact hk w' h)
theorem ixf_ok {r : Res} {cl : Value} {f : Lf → Bool} (ls : List Lf) (hl : ls.length < 1000000) (hc : Clo Try.prog H w0 r cl lv f) (hs : Sl H 97 A (ls.map Lf.fds)) (hM : Mem H w0 (r :: R) w) :
    Calls Try.prog 120 #[.slice A ls.length a, cl] w fun en w' => ∃ v, en = .returned v ∧ v = .int .i64 (fix f ls) ∧ Mem H w0 (r :: R) w' := by
  refine C_slices_IndexFunc_api_Leaf_api_Leaf ?_
  unfold F_slices_IndexFunc_api_Leaf_api_Leaf
  ((with_reducible (refine mop_c trivial ?_)))
  refine ⟨fun v w' => ∃ i : Nat, v = .int .i64 i ∧ i ≤ ls.length ∧ (∀ j (hj : j < ls.length), j < i → f ls[j] = false) ∧ Mem H w0 (r :: R) w', fun v _ => match v with | .int _ k => ls.length - k.toNat | _ => 0, ⟨0, rfl, by omega, fun j _ h => by omega, hM⟩, ?_⟩
  rintro v u w3 ⟨i, rfl, hi, hlo, hM⟩
  ((with_reducible (refine mop_cS trivial ?_ ?_)))
  · intro hlt
    have hlt' : i < ls.length := by omega
    ((with_reducible (refine mif_true ?_)); (with_reducible refine mm_ixs ‹_› ?_ ?_ ?_); (focus (simp only [List.length_map]; omega)); (focus (simp only [List.length_map]; first | done | omega)); (with_reducible (intro _ _ hA)); (cases hA); (with_reducible refine mm_lds0 hM ‹_› (map_atI ?_) ?_); (focus omega))
    refine hc _ _ _ _ _ hM (fun w hM => ?_)
    cases hfi : f ls[i]
    · ((with_reducible (refine mif_false ?_; refine mop_c ?_ ?_)); (focus omega))
      refine ⟨⟨i + 1, rfl, by omega, fun j hj hji => ?_, hM⟩, by simp only; omega⟩
      rcases Nat.lt_or_ge j i with h2 | h2
      · exact hlo j hj h2
      · obtain rfl : j = i := by omega
        exact hfi
    · ((with_reducible (refine mif_true ?_)))
      exact ⟨_, rfl, by rw [fix_at hlt' hlo hfi], hM⟩
  · intro hge
    ((with_reducible (refine mif_false ?_)))
    exact ⟨_, rfl, by rw [fix_none fun j hj => hlo j hj (by omega)], hM⟩
theorem place_ok (x : Int) (h1 : Sl H 97 A (t.ls.map Lf.fds)) (h2 : Sl H 66 B qs) (h3 : All2 (PnF H) qs t.ps) (hl : t.ls.length ≤ maxLen) (hp : t.ps.length ≤ maxLen) (hf : Fz H w) :
    Calls Try.prog 72 #[tv A t.ls.length a B t.ps.length b, .int .i64 x] w fun en w' => en = .returned (.int .i64 (t.sound.place x)) ∧ St w [] w' := by
  have hM := Mem.start hf
  refine C_tree_Place ?_
  unfold F_tree_Place
  ((with_reducible (refine mm_box hM ?_; clear hM; intro _ _ hM; refine mm_box hM ?_; clear hM; intro _ _ hM; refine mm_ld hM ?_)))
  rename_i g1 _ g2 _
  ((with_reducible (refine mop_cS trivial ?_ ?_)))
  · intro h
    ((with_reducible (refine mif_true ?_)))
    exact ⟨by rw [show t.sound.place x = -1 from if_pos h], hM.st⟩
  · intro h
    ((with_reducible (refine mif_false ?_; refine mm_ld hM ?_)))
    have hpl : t.sound.place x = fix (fun l => decide (l.name = x)) t.sound.ls := if_neg h
    rw [hpl]
    refine mm_pure hM (sound_ok h1 h2 h3 hl hp hM.fz) (fun w hM => ?_)
    have hM := hM.at_ (fb g2 3 [.one (.int .i64 x)])
    unfold Tr.sound
    cases hr : t.right
    · rw [if_neg (by simp), if_neg (by simp)]
      ((with_reducible (refine mop_c trivial ?_; refine mop_c trivial ?_)))
      refine mm_own (ixf_ok (A := none) [] (by simp) (clo_place g2 x) (Sl.nil _ _ _) hM) ?_
      rintro v w' ⟨rfl, hM⟩
      exact ⟨rfl, hM.st⟩
    · rw [if_pos rfl, if_pos rfl]
      ((with_reducible (refine mop_c trivial ?_; refine mop_c trivial ?_)))
      have := (Tr.rt.1 hr).len
      refine mm_own (ixf_ok t.ls (by omega) (clo_place g2 x) h1 hM) ?_
      rintro v w' ⟨rfl, hM⟩
      exact ⟨rfl, hM.st⟩
theorem blank_ok {X : List Xp} {ls : List Lf} {p : Int} (hp : 0 ≤ p ∧ p < ls.length ∧ ls.length ≤ 64) (hX : X.length + 1 = ls.length)
    (hM : Mem H w0 (rowR 52 97 A ls.length a (ls.map Lf.fds) :: rowR 104 66 B X.length b (X.map xrow) :: allR X :: L) w) :
    Calls Try.prog 83 #[tv A ls.length a B X.length b, .int .i64 p] w fun en w' => ∃ v, en = .returned v ∧ ∃ H' X', v = .tuple #[] ∧ X'.map (·.1) = blankP ls.length p (X.map (·.1)) ∧ X'.length = X.length ∧ Le w0 H H' ∧
      Mem H' w0 (rowR 52 97 A ls.length a (ls.map Lf.fds) :: rowR 104 66 B X.length b (X'.map xrow) :: allR X' :: L) w' := by
  refine C_tree_blank ?_
  unfold F_tree_blank
  ((with_reducible (refine mm_box hM ?_; clear hM; intro _ _ hM; refine mop_c trivial ?_; refine mm_ld hM ?_; refine mop_c trivial ?_)))
  rename_i g1 _
  refine mm_call hM (bdirect_ok ls.length p (by omega) hM.fz) ?_
  rintro H1 v w1 l1 hM ⟨D, c, rfl, hD⟩
  have hdl := dirL_len ls.length p
  have hdm := fun x hx => dir_mem (n := ls.length) (l := p) (x := x) (by omega) hx
  generalize hDL : dirL ls.length p = DL at *
  ((with_reducible (refine mop_c trivial ?_)))
  refine ⟨fun v w' => ∃ (i : Nat) (Y : List Xp), v = .int .i64 i ∧ i ≤ DL.length ∧ Y.map (·.1) = onDir (fun _ => Pn.zero) (DL.take i) (X.map (·.1)) ∧ Y.length = X.length ∧ Mem H1 w0 (fb g1 49 (tfd A ls.length a B X.length b) :: rowR 52 97 A ls.length a (ls.map Lf.fds) :: rowR 104 66 B X.length b (Y.map xrow) :: allR Y :: L) w', fun v _ => match v with | .int _ k => DL.length - k.toNat | _ => 0, ⟨0, X, rfl, by omega, rfl, rfl, hM⟩, ?_⟩
  clear hM
  rintro v u w3 ⟨i, Y, rfl, hi, hY, hYl, hM⟩
  ((with_reducible (refine mop_cS trivial ?_ ?_)))
  · intro hlt
    have hlt' : i < DL.length := by omega
    obtain ⟨x, hx⟩ : ∃ x, DL[i] = x := ⟨_, rfl⟩
    have hxm := hdm x (hx ▸ List.getElem_mem _)
    ((with_reducible (refine mif_true ?_)); (with_reducible refine mm_ixs ‹_› ?_ ?_ ?_); (focus (simp only [List.length_map]; omega)); (focus (simp only [List.length_map]; first | done | omega)); (with_reducible (intro _ _ hA)); (cases hA); (with_reducible refine mm_lds0 hM ‹_› (map_atI ?_) ?_); (focus omega); (with_reducible (refine mop_c trivial ?_; refine mm_ld hM ?_; refine mop_c ?_ ?_)); (focus omega); (with_reducible (refine mop_c trivial ?_; refine mm_ixr hM ?_ ?_)); (focus omega); (with_reducible (intro _ hA)); (cases hA); (with_reducible (refine mm_str hM ?_ ?_)); (focus omega); (with_reducible (clear hM; intro _ hM; refine mop_c ?_ ?_)); (focus omega))
    have hk : (x / 2).toNat < Y.length := by omega
    rw [← xrow0, hx, ← List.map_set] at hM
    have hM := (hM.at_ (allR Y)).blankk hk
    refine ⟨⟨i + 1, Y.set (x / 2).toNat x0, rfl, by omega, ?_, by simpa using hYl, hM.same⟩, by simp only; omega⟩
    rw [List.map_set, hY, onDir_succ hlt', hx, modify_const]
  · intro hge
    ((with_reducible (refine mif_false ?_)))
    refine ⟨_, rfl, H1, Y, rfl, ?_, hYl, l1, hM.sub⟩
    rw [hY, List.take_of_length_le (by omega)]
    unfold blankP
    rw [hDL]
end
end Go.Proofs.Ytmjpbomonhjebaa
