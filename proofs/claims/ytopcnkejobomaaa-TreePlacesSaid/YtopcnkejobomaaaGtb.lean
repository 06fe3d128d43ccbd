/- A leaf put into a tree: the program's walk. -/
import Derived.Test.YtopcnkejobomaaaGta
namespace Go.Proofs.Ytopcnkejobomaaa
open Go.RowKit Go.Lib

theorem trF_none (H : Hp) : TrF H (tv none 0 0 none 0 0) Tr.none := ⟨⟨none, 0, none, 0, [], rfl, Sl.nil _ _ _, Sl.nil _ _ _, trivial⟩, by simp [Tr.none, maxLen]⟩
def gapL (t : Tr) : List Lf := if t.gap = t.ls.length then t.ls ++ [Lf.zero] else t.ls
theorem gapL_set (t : Tr) (l : Lf) : (gapL t).set t.gap l = addL t l := by
  unfold gapL addL
  by_cases h : t.gap = t.ls.length
  · rw [if_pos h, if_pos h, h]
    simp
  · rw [if_neg h, if_neg h]
theorem gapL_len (t : Tr) (l : Lf) : (gapL t).length = (addL t l).length := by
  rw [← gapL_set t l, List.length_set]
theorem onDir_get {f : Pn → Pn} {D : List Int} {ps : List Pn} {k : Nat} (hn : D.Nodup) (hD : ∀ x ∈ D, x = 2 * (x / 2) + 1 ∧ 0 ≤ x / 2) (hk : 2 * (k : Int) + 1 ∉ D) : (onDir f D ps)[k]? = ps[k]? := by
  rw [onDir_eq hn hD, List.getElem?_mapIdx]
  simp only [if_neg hk]
  cases ps[k]? <;> rfl
theorem Tr.Rt.addPs_loose {t : Tr} (h : t.Rt) : ∀ p ∈ addPs t, p.loose.length ≤ 64 ∧ p.loose.Pairwise (· < ·) := by
  intro p hp
  unfold addPs at hp
  split at hp
  · rcases List.mem_append.1 hp with hp | hp
    · exact h.loose p hp
    · rw [List.mem_singleton.1 hp]
      exact ⟨by simp [Pn.zero], .nil⟩
  · exact h.loose p hp
theorem ins_len (l : List Int) (x : Int) : (ins l x).length = l.length + 1 := by
  have : bs' l x ≤ l.length := List.findIdx_le_length
  unfold ins
  simp
  omega
section
variable {H : Hp} {w0 w : World} {L R : List Res} {A B C : Option Addr} {a b c n : Nat} {t : Tr} {qs ps : List (List Fd)}
theorem add_q {Q : Hp → Value → Prop} (l : Lf) (hq : ∀ H' v1 r, t.addP l = r → TrF H' v1 r.1 → Q H' (.tuple #[v1, .int .i64 r.2.1, .int .i64 r.2.2])) (h1 : Sl H 97 A (t.ls.map Lf.fds)) (h2 : Sl H 66 B qs) (h3 : All2 (PnF H) qs t.ps) (hl : t.ls.length ≤ maxLen) (hp : t.ps.length ≤ maxLen) (hf : Fz H w) :
    Calls Try.prog 28 #[tv A t.ls.length a B t.ps.length b, lv l] w (Outp H w Q) := by
  obtain ⟨w1, hw1⟩ : ∃ w1, w1 = w := ⟨_, rfl⟩
  rw [← hw1]
  rw [← hw1] at hf
  have hM := Mem.start hf
  refine C_tree_Add ?_
  unfold F_tree_Add
  ((with_reducible (refine mm_box hM ?_; clear hM; intro _ _ hM; refine mm_box hM ?_; clear hM; intro _ _ hM; refine mm_new hM ?_; clear hM; intro _ _ hM)))
  rename_i g1 _ g2 _ g3 _
  refine ⟨fun v w' => v = .bool (decide (¬ t.right = true ∨ l.name < 1 ∨ 64 < l.name)) ∧ hM.now w', ?_, ?_⟩
  · ((with_reducible (refine mm_ld hM ?_)))
    refine mm_pure hM (right_ok h1 h2 h3 hl hp hM.fz) (fun w hM => ?_)
    ((with_reducible (refine mop_c trivial ?_)))
    cases hr : t.right
    · rw [Bool.not_false]
      ((with_reducible ((iterate 3 refine mguard_n1 ?_); refine mop_c trivial ?_; (iterate 3 refine mguard_n1 ?_); refine mop_c trivial ?_)))
      exact ⟨by simp, hM.sub⟩
    · rw [Bool.not_true]
      ((with_reducible (refine mguard_yes ?_; refine mop_c trivial ?_; refine mguard_yes ?_; refine mm_ld hM ?_; refine mguard_yes ?_)))
      ((with_reducible (refine mop_cS trivial ?_ ?_)))
      · intro h
        ((with_reducible (refine mop_c trivial ?_; (iterate 3 refine mguard_n1 ?_); refine mop_c trivial ?_)))
        exact ⟨by rw [decide_eq_true (.inr (.inl h))], hM.sub⟩
      · intro h
        ((with_reducible (refine mop_c trivial ?_; refine mguard_yes ?_; refine mop_c trivial ?_; refine mguard_yes ?_; refine mm_ld hM ?_; refine mguard_yes ?_)))
        ((with_reducible (refine mop_cS trivial ?_ ?_)))
        · intro h4
          ((with_reducible (refine mop_c trivial ?_)))
          exact ⟨by rw [decide_eq_true (.inr (.inr h4))], hM.sub⟩
        · intro h4
          ((with_reducible (refine mop_c trivial ?_)))
          exact ⟨by rw [decide_eq_false (fun hh => hh.elim (fun k => k rfl) (fun k => k.elim h h4))], hM.sub⟩
  rintro v u2 w2 ⟨rfl, hM⟩
  unfold Tr.addP at hq
  by_cases hc : ¬ t.right = true ∨ l.name < 1 ∨ 64 < l.name
  · rw [if_pos hc] at hq
    rw [decide_eq_true hc]
    ((with_reducible (refine mif_true ?_; refine mop_c trivial ?_; refine mm_st hM ?_; clear hM; intro _ hM; refine rm_ld hM ?_)))
    exact hM.out (Le.refl _ _) (hq _ _ _ rfl (trF_none H))
  rw [if_neg hc] at hq
  rw [decide_eq_false hc]
  have hr : t.right = true := Decidable.byContradiction fun h => hc (.inl h)
  have hR := Tr.rt.1 hr
  have hlen := hR.len
  have hs : t.sound = t := if_pos hr
  ((with_reducible (refine mif_false ?_; refine mm_ld hM ?_; refine mop_c trivial ?_; refine mm_ld hM ?_)))
  refine mm_pure hM (place_ok l.name h1 h2 h3 hl hp hM.fz) (fun w hM => ?_)
  rw [hs]
  skip
  ((with_reducible (refine mop_cS trivial ?_ ?_)))
  · intro h
    have h' : 0 ≤ t.place l.name := by omega
    rw [if_pos h'] at hq
    ((with_reducible (refine mif_true ?_; refine mop_c trivial ?_; refine mm_st hM ?_; clear hM; intro _ hM; refine rm_ld hM ?_)))
    exact hM.out (Le.refl _ _) (hq _ _ _ rfl (trF_none H))
  intro h
  rw [if_neg (show ¬ 0 ≤ t.place l.name by omega)] at hq
  ((with_reducible (refine mif_false ?_; refine mm_ld hM ?_)))
  refine mm_own (clone_ok h1 h2 h3 (by omega) (by omega) (fun p hp => by have := (hR.loose p hp).1; omega) hM) ?_
  rintro v w' ⟨A', a', B', b', X, rfl, hX, hM⟩
  have hXl : X.length = t.ps.length := by rw [← hX, List.length_map]
  ((with_reducible (refine mm_st hM ?_; clear hM; intro _ hM; refine mop_c trivial ?_; refine mm_ld hM ?_; refine mop_c trivial ?_)))
  refine mm_pure hM (index_ok (H := Hp.of _) t.ls (by omega) (hM.reads (A := A')) (Fz.of _)) (fun w hM => ?_)
  have hgl := t.gap_le
  have hfx : fix (fun l => decide (l = Lf.zero)) t.ls = if t.gap < t.ls.length then (t.gap : Int) else -1 := by
    unfold fix
    rw [hR.gap_eq]
  rw [hfx]
  have hM := hM.at_ (fb g1 27 (tfd A' t.ls.length a' B' t.ps.length b'))
  refine ⟨fun v w' => ¬ (t.gap = t.ls.length ∧ t.gap = 64) ∧ v = .int .i64 t.gap ∧ ∃ A2 a2 B2 b2 m Y, Y.map (·.1) = addPs t ∧ Y.length = m ∧ Mem H w1 [fb g1 27 (tfd A2 (gapL t).length a2 B2 m b2), fb g2 36 l.fds, fb g3 27 (tfd none 0 0 none 0 0), rowR 36 97 A2 (gapL t).length a2 ((gapL t).map Lf.fds), rowR 96 66 B2 m b2 (Y.map xrow), allR Y] w', ?_, ?_⟩
  · by_cases hgap : t.gap < t.ls.length
    · rw [if_pos hgap]
      ((with_reducible (refine mop_cF trivial ?_ ?_)); (focus (first | assumption | omega | with_reducible rfl | exact fun h => Bool.noConfusion h)); (with_reducible (refine mif_false ?_)))
      have e1 : gapL t = t.ls := if_neg (by omega)
      have e2 : addPs t = t.ps := if_neg (by omega)
      rw [e1, e2]
      exact ⟨by omega, rfl, A', a', B', b', t.ps.length, X, hX, hXl, hM.sub⟩
    · rw [if_neg hgap]
      have hge : t.gap = t.ls.length := by omega
      have e1 : gapL t = t.ls ++ [Lf.zero] := if_pos hge
      ((with_reducible (refine mop_cT trivial ?_ ?_)); (focus (first | assumption | omega | with_reducible rfl | exact fun h => Bool.noConfusion h)); (with_reducible (refine mif_true ?_; refine mop_c trivial ?_; refine mm_ld hM ?_; refine mop_c trivial ?_)))
      ((with_reducible (refine mop_cS trivial ?_ ?_)))
      · intro hf
        rw [if_pos (by omega)] at hq
        ((with_reducible (refine mif_true ?_; refine mop_c trivial ?_; refine mm_st hM ?_; clear hM; intro _ hM; refine rm_ld hM ?_)))
        exact hM.out (Le.refl _ _) (hq _ _ _ rfl (trF_none H))
      · intro hnf
        have hnf2 : ¬ (t.gap = t.ls.length ∧ t.gap = 64) := by omega
        ((with_reducible (refine mif_false ?_)))
        refine ⟨fun w' => ∃ B2 b2 m Y, Y.map (·.1) = addPs t ∧ Y.length = m ∧ Mem H w1 [fb g1 27 (tfd A' t.ls.length a' B2 m b2), fb g2 36 l.fds, fb g3 27 (tfd none 0 0 none 0 0), rowR 36 97 A' t.ls.length a' (t.ls.map Lf.fds), rowR 96 66 B2 m b2 (Y.map xrow), allR Y] w', ?_, ?_⟩
        · skip
          ((with_reducible (refine mop_cS trivial ?_ ?_)))
          · intro hpos
            ((with_reducible (refine mif_true ?_; refine mop_c trivial ?_; refine mm_ld hM ?_; refine mop_c trivial ?_; refine mm_bsl hM ?_ ?_ ?_)); (focus rfl); (focus (constructor <;> simp)); (with_reducible (clear hM; intro _ _ hM; refine mm_appo hM ?_ ?_)); (focus omega); (with_reducible (clear hM; intro _ _ _ hM; refine mop_c trivial ?_; refine mm_st hM ?_; clear hM; intro _ hM)))
            rename_i A3 c3 _ _
            have e2 : addPs t = t.ps ++ [Pn.zero] := if_pos ⟨hge, by omega⟩
            rw [← xrow0, show X.map xrow ++ [xrow x0] = (X ++ [x0]).map xrow by simp] at hM
            have h0 : Mem H w1 (xres x0 :: _) _ := hM.row0 3 1
            have hM : Mem H w1 [allR X, xres x0, rowR 96 66 A3 (t.ps.length + 1) c3 ((X ++ [x0]).map xrow), fb g1 27 (tfd A' t.ls.length a' A3 (t.ps.length + 1) c3), rowR 36 97 A' t.ls.length a' (t.ls.map Lf.fds), fb g3 27 (tfd none 0 0 none 0 0), fb g2 36 l.fds] _ := h0.same
            exact ⟨A3, c3, t.ps.length + 1, X ++ [x0], by rw [e2, List.map_append, hX]; rfl, by simp [hXl], hM.addk.same⟩
          · intro hz
            ((with_reducible (refine mif_false ?_)))
            have e2 : addPs t = t.ps := if_neg (by omega)
            rw [e2]
            exact ⟨B', b', t.ps.length, X, hX, hXl, hM.sub⟩
        · clear hM
          rintro u3 w3 ⟨B2, b2, m, Y, hY, hYl, hM⟩
          ((with_reducible (refine mop_c trivial ?_; refine mm_ld hM ?_; refine mop_c trivial ?_; refine mm_bsl hM ?_ ?_ ?_)); (focus rfl); (focus (constructor <;> simp)); (with_reducible (clear hM; intro _ _ hM; refine mm_appo hM ?_ ?_)); (focus omega); (with_reducible (clear hM; intro _ _ _ hM; refine mop_c trivial ?_; refine mm_st hM ?_; clear hM; intro _ hM)))
          rename_i A3 c3 _ _
          have e4 : t.ls.length + 1 = (gapL t).length := by rw [e1]; simp
          have e5 : t.ls.map Lf.fds ++ [[Fd.one (.int .i64 0), .arr 32 (u8s hzero.1), .arr 32 (u8s hzero.1), .arr 32 (u8s hzero.1)]] = (gapL t).map Lf.fds := by
            rw [e1, List.map_append]
            rfl
          rw [e5, e4] at hM
          exact ⟨hnf2, by rw [hge], A3, c3, B2, b2, m, Y, hY, hYl, hM.sub⟩
  clear hM
  rintro v u4 w4 ⟨hnf, rfl, A2, a2, B2, b2, m, Y, hY, hYl, hM⟩
  rw [if_neg hnf] at hq
  have hgn := gapL_len t l
  have hgs := gapL_set t l
  have hap := addPs_len hR l
  have hln : (addL t l).length ≤ 64 ∧ t.gap < (addL t l).length := by
    rw [addL_len]
    split <;> omega
  rw [← hY, List.length_map, hYl] at hap
  obtain ⟨g4, rfl⟩ := (hM.up A2).rowAt ⟨.refl _⟩ (by omega)
  ((with_reducible (refine mop_c trivial ?_; refine mm_ld hM ?_; refine mm_ld hM ?_; refine mm_ixr hM ?_ ?_)); (focus omega); (with_reducible (intro _ hA)); (cases hA); (with_reducible (refine mm_str hM ?_ ?_)); (focus omega); (with_reducible (clear hM; intro _ hM; refine mop_c trivial ?_; refine mm_ld hM ?_; refine mop_c trivial ?_)))
  rw [Int.toNat_natCast, ← List.map_set, hgs, hgn] at hM
  rw [hgn]
  refine mm_call hM (bdirect_ok (addL t l).length t.gap (by omega) hM.fz) ?_
  rintro H1 v w5 l1 hM ⟨D, c, rfl, hD⟩
  have hdl := dirL_len (addL t l).length t.gap
  have hdm := fun x hx => dir_mem (n := (addL t l).length) (l := t.gap) (x := x) (by omega) hx
  have hnd := dir_nodup (n := (addL t l).length) (l := t.gap) (by omega)
  generalize hDL : dirL (addL t l).length t.gap = DL at *
  ((with_reducible (refine mop_c trivial ?_)))
  refine ⟨fun v w' => ∃ (i : Nat) (Z : List Xp) (H2 : Hp), v = .int .i64 i ∧ i ≤ DL.length ∧ Z.map (·.1) = onDir (updA t.gap) (DL.take i) (Y.map (·.1)) ∧ Z.length = m ∧ Le w1 H1 H2 ∧ Mem H2 w1 [fb g1 27 (tfd (some ⟨g4, 0, none⟩) (addL t l).length a2 B2 m b2), fb g2 36 l.fds, fb g3 27 (tfd none 0 0 none 0 0), rowR 36 97 (some ⟨g4, 0, none⟩) (addL t l).length a2 ((addL t l).map Lf.fds), rowR 96 66 B2 m b2 (Z.map xrow), allR Z] w', fun v _ => match v with | .int _ k => DL.length - k.toNat | _ => 0, ⟨0, Y, H1, rfl, by omega, rfl, hYl, Le.refl _ _, hM.same⟩, ?_⟩
  clear hM
  rintro v u6 w6 ⟨i, Z, H2, rfl, hi, hZ, hZl, l2, hM⟩
  have hD := hD.mono l2.le
  ((with_reducible (refine mop_cS trivial ?_ ?_)))
  · intro hlt
    have hlt' : i < DL.length := by omega
    have hxm := hdm DL[i] (List.getElem_mem _)
    have hk : (DL[i] / 2).toNat < Z.length := by omega
    have hk2 : (DL[i] / 2).toNat < (addPs t).length := by rw [← hY, List.length_map]; omega
    have hZk : Z[(DL[i] / 2).toNat].1 = (addPs t)[(DL[i] / 2).toNat] := by
      have e1 : (Z.map (·.1))[(DL[i] / 2).toNat]? = (addPs t)[(DL[i] / 2).toNat]? := by
        rw [hZ, hY]
        refine onDir_get (hnd.sublist (List.take_sublist _ _)) (fun y hy => by have := hdm y (List.mem_of_mem_take hy); omega) fun hm => ?_
        rw [show 2 * (((DL[i] / 2).toNat : Nat) : Int) + 1 = DL[i] by omega] at hm
        obtain ⟨j, hj, e⟩ := List.getElem_of_mem hm
        rw [List.getElem_take] at e
        have := (List.getElem_inj hnd).1 e
        simp at hj
        omega
      rw [List.getElem?_map, List.getElem?_eq_getElem hk, List.getElem?_eq_getElem hk2] at e1
      exact Option.some.inj e1
    obtain ⟨hs1, hs2⟩ := hR.addPs_loose _ (List.getElem_mem hk2)
    rw [← hZk] at hs1 hs2
    ((with_reducible (refine mif_true ?_)))
    refine ⟨fun w' => ∃ (Z' : List Xp) (H3 : Hp), Z'.map (·.1) = onDir (updA t.gap) (DL.take (i + 1)) (Y.map (·.1)) ∧ Z'.length = m ∧ Le w1 H1 H3 ∧ Mem H3 w1 [fb g1 27 (tfd (some ⟨g4, 0, none⟩) (addL t l).length a2 B2 m b2), fb g2 36 l.fds, fb g3 27 (tfd none 0 0 none 0 0), rowR 36 97 (some ⟨g4, 0, none⟩) (addL t l).length a2 ((addL t l).map Lf.fds), rowR 96 66 B2 m b2 (Z'.map xrow), allR Z'] w', ?_, ?_⟩
    · ((with_reducible refine mm_ixs ‹_› ?_ ?_ ?_); (focus (simp only [List.length_map]; omega)); (focus (simp only [List.length_map]; first | done | omega)); (with_reducible (intro _ _ hA)); (cases hA); (with_reducible refine mm_lds0 hM ‹_› (map_atI ?_) ?_); (focus omega); (with_reducible (refine mop_c trivial ?_; refine mm_ld hM ?_; refine mop_c ?_ ?_)); (focus omega); (with_reducible (refine mm_ixr hM ?_ ?_)); (focus omega); (with_reducible (intro _ hA)); (cases hA); (with_reducible (refine mop_c trivial ?_; refine mop_c trivial ?_; refine mm_ldr hM (map_at ?_) ?_)); (focus omega))
      cases hset : Z[(DL[i] / 2).toNat].1.set
      · ((with_reducible (refine mif_false ?_)))
        refine ⟨Z, H2, ?_, hZl, l2, hM⟩
        rw [onDir_succ hlt', ← hZ]
        refine List.ext_getElem (by simp) fun j h1 h2 => ?_
        simp only [List.getElem_modify, List.getElem_map]
        split
        · rename_i e
          subst e
          unfold updA
          rw [if_neg (by rw [hset]; simp)]
        · rfl
      · have hM := (hM.at_ (allR Z)).outk hk
        ((with_reducible (refine mif_true ?_; refine mop_c trivial ?_; refine mop_c trivial ?_; refine mm_ldr hM (map_at ?_) ?_)); (focus omega))
        refine mm_own (Q := fun v w' => ∃ bb, v = .tuple #[.int .i64 (bs' Z[(DL[i] / 2).toNat].1.loose t.gap), .bool bb] ∧ hM.now w') ((bsearch_ok (H := Hp.of _) Z[(DL[i] / 2).toNat].1.loose t.gap hs2 (by omega) (hM.reads (A := Z[(DL[i] / 2).toNat].2.1)) (Fz.of _)).mono ?_) ?_
        · rintro e w' ⟨⟨bb, rfl⟩, hst⟩
          exact ⟨_, rfl, bb, rfl, hM.call0 hst⟩
        rintro v w' ⟨bb, rfl, hM⟩
        ((with_reducible ((iterate 4 refine mop_c trivial ?_); refine mm_ldr hM (map_at ?_) ?_)); (focus omega); (with_reducible (refine mm_bsl hM ?_ ?_ ?_)); (focus rfl); (focus (constructor <;> simp)); (with_reducible (clear hM; intro _ _ hM)))
        refine mm_own (insert_ok Z[(DL[i] / 2).toNat].1.loose (bs' Z[(DL[i] / 2).toNat].1.loose t.gap) t.gap List.findIdx_le_length (by omega) (hM.up Z[(DL[i] / 2).toNat].2.1)) ?_
        rintro v w' ⟨A5, c5, rfl, hM⟩
        ((with_reducible (refine mop_c trivial ?_; refine mop_c trivial ?_)))
        refine mm_stf hM (map_at hk) (fun w' hM => ?_)
        have hy : updA t.gap Z[(DL[i] / 2).toNat].1 = { Z[(DL[i] / 2).toNat].1 with loose := ins Z[(DL[i] / 2).toNat].1.loose t.gap } := if_pos hset
        have hil := ins_len Z[(DL[i] / 2).toNat].1.loose t.gap
        have hrow : xrow (updA t.gap Z[(DL[i] / 2).toNat].1, A5, c5) = [.one (.bool Z[(DL[i] / 2).toNat].1.set), .arr 32 (u8s Z[(DL[i] / 2).toNat].1.pub.1), .arr 32 (u8s Z[(DL[i] / 2).toNat].1.abv.1), .one (.slice A5 (Z[(DL[i] / 2).toNat].1.loose.length + 1) c5)] := by
          rw [hy]
          show [Fd.one (.bool Z[(DL[i] / 2).toNat].1.set), _, _, Fd.one (.slice A5 (ins Z[(DL[i] / 2).toNat].1.loose t.gap).length c5)] = _
          rw [hil]
        have hres : rowR 3 1 A5 (Z[(DL[i] / 2).toNat].1.loose.length + 1) c5 (ints8 (Z[(DL[i] / 2).toNat].1.loose.take (bs' Z[(DL[i] / 2).toNat].1.loose t.gap) ++ (t.gap : Int) :: Z[(DL[i] / 2).toNat].1.loose.drop (bs' Z[(DL[i] / 2).toNat].1.loose t.gap))) = xres (updA t.gap Z[(DL[i] / 2).toNat].1, A5, c5) := by
          rw [hy, ← hil]
          rfl
        rw [← hrow, ← List.map_set, hres] at hM
        have hM := ((hM.at_ (restR Z (DL[i] / 2).toNat)).at_ (xres (updA t.gap Z[(DL[i] / 2).toNat].1, A5, c5))).ink hk
        skip
        refine ⟨Z.set (DL[i] / 2).toNat (updA t.gap Z[(DL[i] / 2).toNat].1, A5, c5), H2, ?_, by simpa using hZl, l2, hM.same⟩
        rw [onDir_succ hlt', ← hZ]
        refine List.ext_getElem (by simp) fun j h1 h2 => ?_
        simp only [List.getElem_modify, List.getElem_map, List.getElem_set]
        split
        · rename_i e
          subst e
          rfl
        · rfl
    · clear hM
      rintro u7 w7 ⟨Z', H3, hZ', hZl', l3, hM⟩
      ((with_reducible (refine mop_c ?_ ?_)); (focus omega))
      exact ⟨⟨i + 1, Z', H3, rfl, by omega, hZ', hZl', l3, hM⟩, by simp only; omega⟩
  · intro hge
    ((with_reducible (refine mif_false ?_; refine mm_ld hM ?_; refine mm_st hM ?_; clear hM; intro _ hM; refine rm_ld hM ?_)))
    rw [List.take_of_length_le (by omega), hY] at hZ
    rw [← hZl] at hM ⊢
    have hM : Mem H2 w1 [rowR 36 97 (some ⟨g4, 0, none⟩) (addL t l).length a2 ((addL t l).map Lf.fds), rowR 96 66 B2 Z.length b2 (Z.map xrow), allR Z] _ := hM.sub
    obtain ⟨H4, l4, hM, hT⟩ := hM.frzT (fun x hx => by
      have hm : x.1 ∈ onDir (updA t.gap) DL (addPs t) := hZ ▸ List.mem_map_of_mem hx
      rw [onDir_eq hnd fun y hy => by have := hdm y hy; omega] at hm
      obtain ⟨k, hk, e⟩ := List.getElem_of_mem hm
      rw [List.getElem_mapIdx] at e
      have hk' : k < (addPs t).length := by simpa using hk
      have := (hR.addPs_loose _ (List.getElem_mem hk')).1
      have h64 : x.1.loose.length ≤ 65 := by
        rw [← e]
        split
        · unfold updA
          split
          · rw [ins_len]
            omega
          · omega
        · omega
      simp only [maxLen]
      omega)
    refine hM.out ((l1.trans l2).trans l4) (hq _ _ _ rfl ?_)
    rw [hZ] at hT
    exact hT
end
end Go.Proofs.Ytopcnkejobomaaa
/- A leaf taken out of a tree, another key: the program's walks. -/
namespace Go.Proofs.Ytopcnkejobomaaa
open Go.RowKit Go.Lib

theorem onDir_mem {f : Pn → Pn} {P : Pn → Prop} (hf : ∀ p, P p → P (f p)) : ∀ {D : List Int} {ps : List Pn}, (∀ p ∈ ps, P p) → ∀ p ∈ onDir f D ps, P p
  | [], _, h => h
  | x :: D, ps, h => by
    refine onDir_mem hf (D := D) (ps := ps.modify (x / 2).toNat f) fun p hp => ?_
    obtain ⟨i, hi, rfl⟩ := List.getElem_of_mem hp
    rw [List.getElem_modify]
    have hi' : i < ps.length := by simpa using hi
    split
    · exact hf _ (h _ (List.getElem_mem hi'))
    · exact h _ (List.getElem_mem hi')
theorem Tr.Rt.blank_loose {t : Tr} (h : t.Rt) {p : Int} : ∀ q ∈ blankP t.size p t.ps, q.loose.length ≤ 64 :=
  onDir_mem (P := fun q => q.loose.length ≤ 64) (fun _ _ => by simp [Pn.zero]) fun q hq => (h.loose q hq).1
theorem Tr.body {t : Tr} {p : Int} (h : ¬ t.nobody p) : 0 ≤ p ∧ p.toNat < t.ls.length ∧ p < t.ls.length := by
  unfold Tr.nobody Tr.size at h
  omega
section
variable {H : Hp} {w0 w : World} {L R : List Res} {A B C : Option Addr} {a b c n : Nat} {t : Tr} {qs ps : List (List Fd)}
theorem remove_q {Q : Hp → Value → Prop} (p : Int) (hq : ∀ H' v1 r, t.remP p = r → TrF H' v1 r.1 → Q H' (.tuple #[v1, .int .i64 r.2])) (h1 : Sl H 97 A (t.ls.map Lf.fds)) (h2 : Sl H 66 B qs) (h3 : All2 (PnF H) qs t.ps) (hl : t.ls.length ≤ maxLen) (hp : t.ps.length ≤ maxLen) (hf : Fz H w) :
    Calls Try.prog 30 #[tv A t.ls.length a B t.ps.length b, .int .i64 p] w (Outp H w Q) := by
  obtain ⟨w1, hw1⟩ : ∃ w1, w1 = w := ⟨_, rfl⟩
  rw [← hw1]
  rw [← hw1] at hf
  have hM := Mem.start hf
  refine C_tree_Remove ?_
  unfold F_tree_Remove
  unfold Tr.remP at hq
  ((with_reducible (refine mm_box hM ?_; clear hM; intro _ _ hM; refine mm_new hM ?_; clear hM; intro _ _ hM; refine mm_ld hM ?_)))
  rename_i g1 _ g2 _
  refine mm_pure hM (right_ok h1 h2 h3 hl hp hM.fz) (fun w hM => ?_)
  ((with_reducible (refine mop_c trivial ?_)))
  cases hr : t.right
  · rw [if_pos (by rw [hr]; simp)] at hq
    rw [Bool.not_false]
    ((with_reducible (refine mif_true ?_; refine mop_c trivial ?_; refine mm_st hM ?_; clear hM; intro _ hM; refine rm_ld hM ?_)))
    exact hM.out (Le.refl _ _) (hq _ _ _ rfl (trF_none H))
  rw [if_neg (by rw [hr]; simp)] at hq
  have hR := Tr.rt.1 hr
  have hlen := hR.len
  rw [Bool.not_true]
  ((with_reducible (refine mif_false ?_; refine mm_ld hM ?_)))
  refine mm_pure hM (none_ok p h1 hl hM.fz) (fun w hM => ?_)
  by_cases hn : t.nobody p
  · rw [if_pos hn] at hq
    rw [decide_eq_true hn]
    ((with_reducible (refine mif_true ?_; refine mop_c trivial ?_; refine mm_st hM ?_; clear hM; intro _ hM; refine rm_ld hM ?_)))
    exact hM.out (Le.refl _ _) (hq _ _ _ rfl (trF_none H))
  rw [if_neg hn] at hq
  rw [decide_eq_false hn]
  obtain ⟨hb0, hb1, hb2⟩ := Tr.body hn
  ((with_reducible (refine mif_false ?_; refine mm_ld hM ?_)))
  refine mm_own (clone_ok h1 h2 h3 (by omega) (by omega) (fun p hp => by have := (hR.loose p hp).1; omega) hM) ?_
  rintro v w' ⟨A', a', B', b', X, rfl, hX, hM⟩
  have hXl : X.length = t.ps.length := by rw [← hX, List.length_map]
  obtain ⟨g4, rfl⟩ := hM.rowAt ⟨.refl _⟩ (by omega)
  ((with_reducible (refine mm_st hM ?_; clear hM; intro _ hM; refine mop_c trivial ?_; refine mm_ld hM ?_; refine mop_c trivial ?_; refine mm_ixr hM ?_ ?_)); (focus omega); (with_reducible (intro _ hA)); (cases hA); (with_reducible (refine mm_str hM ?_ ?_)); (focus omega); (with_reducible (clear hM; intro _ hM; refine mm_ld hM ?_)))
  have hz : [Fd.one (.int .i64 0), .arr 32 (u8s hzero.1), .arr 32 (u8s hzero.1), .arr 32 (u8s hzero.1)] = Lf.zero.fds := rfl
  rw [hz, ← List.map_set] at hM
  have hsl : (t.ls.set p.toNat Lf.zero).length = t.ls.length := List.length_set
  obtain ⟨ls2, hls⟩ : ∃ ls2, t.ls.set p.toNat Lf.zero = ls2 := ⟨_, rfl⟩
  rw [hls] at hM hsl hq
  rw [← hsl, ← hXl] at hM
  have hM : Mem H w1 [rowR 36 97 (some ⟨g4, 0, none⟩) ls2.length a' (ls2.map Lf.fds), rowR 96 66 B' X.length b' (X.map xrow), allR X, fb g1 27 (tfd (some ⟨g4, 0, none⟩) ls2.length a' B' X.length b'), fb g2 27 (tfd none 0 0 none 0 0)] _ := hM.sub
  rw [← hsl, ← hXl]
  refine mm_own (blank_ok (ls := ls2) (X := X) (p := p) (by omega) (by omega) hM) ?_
  clear hM
  rintro v w5 ⟨H1, Y, rfl, hY, hYl, l1, hM⟩
  rw [hX] at hY
  ((with_reducible (refine mop_c trivial ?_; refine mm_ld hM ?_; refine mop_c trivial ?_)))
  refine ⟨fun v w' => ∃ i : Nat, v = .int .i64 i ∧ i ≤ ls2.length ∧ keepN ls2 ls2.length = keepN ls2 i ∧ hM.now w', fun v _ => match v with | .int _ k => k.toNat | _ => 0, ⟨ls2.length, rfl, by omega, rfl, hM⟩, ?_⟩
  rintro v u6 w6 ⟨i, rfl, hi, hk, hM⟩
  obtain ⟨-, ca1, -, -⟩ := (hM.up (some ⟨g4, 0, none⟩)).rowLen ⟨.refl _⟩
  obtain ⟨-, cb1, -, -⟩ := (hM.up B').rowLen ⟨.refl _⟩
  refine ⟨fun w' => 0 < i ∧ keepN ls2 i = keepN ls2 (i - 1) ∧ hM.now w', ?_, ?_⟩
  · skip
    have hfin : keepN ls2 i = i → ∀ w', Mem H1 w1 [rowR 36 97 (some ⟨g4, 0, none⟩) ls2.length a' (ls2.map Lf.fds), rowR 96 66 B' X.length b' (Y.map xrow), allR Y] w' → Outp H w1 Q (.returned (.tuple #[.agg (fl (tfd (some ⟨g4, 0, none⟩) (i : Int).toNat a' B' (if (i : Int) - 1 < 0 then 0 else (i : Int) - 1).toNat b')).toArray, .int .i64 0])) w' := fun hi2 w' hM => by
      rw [hi2] at hk
      have hM := hM.short (k := i) (by omega)
      have hM := (hM.up B').short (k := i - 1) (by omega)
      have hM := (hM.at_ (allR Y)).dropk (i - 1)
      have e1 : (ls2.take i).length = i := by rw [List.length_take]; omega
      have e2 : (Y.take (i - 1)).length = i - 1 := by rw [List.length_take]; omega
      rw [← List.map_take, ← List.map_take] at hM
      have hM : Mem H1 w1 [rowR 36 97 (some ⟨g4, 0, none⟩) i a' ((ls2.take i).map Lf.fds), rowR 96 66 B' (i - 1) b' ((Y.take (i - 1)).map xrow), allR (Y.take (i - 1))] w' := hM.same
      have hM : Mem H1 w1 [rowR 36 97 (some ⟨g4, 0, none⟩) (ls2.take i).length a' ((ls2.take i).map Lf.fds), rowR 96 66 B' (Y.take (i - 1)).length b' ((Y.take (i - 1)).map xrow), allR (Y.take (i - 1))] w' := by
        rw [e1, e2]
        exact hM
      obtain ⟨H4, l4, hM, hT⟩ := hM.frzT (fun x hx => by
        have hm : x.1 ∈ blankP t.size p t.ps := by
          have : x.1 ∈ Y.map (·.1) := List.mem_map_of_mem (List.mem_of_mem_take hx)
          rw [hY, hsl] at this
          exact this
        have := hR.blank_loose _ hm
        simp only [maxLen]
        omega)
      rw [e1, e2] at hT
      rw [Int.toNat_natCast, show (if (i : Int) - 1 < 0 then 0 else (i : Int) - 1).toNat = i - 1 by split <;> omega]
      refine hM.out (l1.trans l4) (hq _ _ _ rfl ?_)
      show TrF H4 _ (cut ls2 (blankP t.size p t.ps))
      unfold cut
      rw [hk]
      rw [List.map_take, hY, hsl] at hT
      exact hT
    ((with_reducible (refine mop_cS trivial ?_ ?_)))
    · intro hpos
      have hix : ((i : Int) - 1).toNat < ls2.length := by omega
      have hna := nameAt_at (ls := ls2) (p := (i : Int) - 1) (by omega) hix
      ((with_reducible (refine mguard_yes ?_; refine mop_c trivial ?_; refine mguard_yes ?_; refine mm_ld hM ?_; refine mguard_yes ?_; refine mop_c trivial ?_; refine mguard_yes ?_; refine mop_c ?_ ?_)); (focus omega); (with_reducible (refine mguard_yes ?_; refine mm_ixr hM ?_ ?_)); (focus omega); (with_reducible (intro _ hA)); (cases hA); (with_reducible (refine mguard_yes ?_; refine mop_c trivial ?_; refine mguard_yes ?_; refine mm_ldr hM (map_at ?_) ?_)); (focus omega); (with_reducible (refine mguard_yes ?_)))
      rw [← hna]
      have hkn : keepN ls2 i = if nameAt ls2 ((i : Int) - 1) = 0 then keepN ls2 (i - 1) else i := by
        cases i with
        | zero => omega
        | succ i =>
          rw [keepN]
          simp
      ((with_reducible (refine mop_cS trivial ?_ ?_)))
      · intro h0
        ((with_reducible (refine mop_c trivial ?_; refine mif_true ?_)))
        exact ⟨by omega, by rw [hkn, if_pos h0], hM⟩
      · intro h0
        rw [if_neg h0] at hkn
        ((with_reducible (refine mop_c trivial ?_; refine mif_false ?_; refine dp_c trivial ?_; refine dm_ld hM ?_; refine dp_c ?_ ?_)); (focus omega); (with_reducible (refine dp_c trivial ?_; refine dm_ld hM ?_; refine dp_c ?_ ?_)); (focus omega); (with_reducible (refine dp_c trivial ?_; refine dp_c ?_ ?_)); (focus omega); (with_reducible (refine dp_c trivial ?_; refine dS_st hM ?_; clear hM; intro _ hM; refine dp_c trivial ?_; refine dS_st hM ?_; clear hM; intro _ hM; refine mm_end hM ?_; clear hM; intro _ hM; refine mm_ld hM ?_; refine mm_st hM ?_; clear hM; intro _ hM; refine rm_ld hM ?_)))
        exact hfin hkn _ hM.sub
    · intro hz
      ((with_reducible ((iterate 8 refine mguard_n2 ?_); refine mop_c trivial ?_; refine mif_false ?_; refine dp_c trivial ?_; refine dm_ld hM ?_; refine dp_c ?_ ?_)); (focus omega); (with_reducible (refine dp_c trivial ?_; refine dm_ld hM ?_; refine dp_c ?_ ?_)); (focus omega); (with_reducible (refine dp_c trivial ?_; refine dp_c ?_ ?_)); (focus omega); (with_reducible (refine dp_c trivial ?_; refine dS_st hM ?_; clear hM; intro _ hM; refine dp_c trivial ?_; refine dS_st hM ?_; clear hM; intro _ hM; refine mm_end hM ?_; clear hM; intro _ hM; refine mm_ld hM ?_; refine mm_st hM ?_; clear hM; intro _ hM; refine rm_ld hM ?_)))
      obtain rfl : i = 0 := by omega
      exact hfin rfl _ hM.sub
  · rintro u7 w7 ⟨hpos, hk2, hM⟩
    ((with_reducible (refine mop_c ?_ ?_)); (focus omega))
    exact ⟨⟨i - 1, by congr 1; omega, by omega, by rw [hk, hk2], hM⟩, by simp only; omega⟩
theorem renew_q {Q : Hp → Value → Prop} (p : Int) (pub : H32) (hq : ∀ H' v1 r, t.renP p pub = r → TrF H' v1 r.1 → Q H' (.tuple #[v1, .int .i64 r.2])) (h1 : Sl H 97 A (t.ls.map Lf.fds)) (h2 : Sl H 66 B qs) (h3 : All2 (PnF H) qs t.ps) (hl : t.ls.length ≤ maxLen) (hp : t.ps.length ≤ maxLen) (hf : Fz H w) :
    Calls Try.prog 29 #[tv A t.ls.length a B t.ps.length b, .int .i64 p, ha pub] w (Outp H w Q) := by
  obtain ⟨w1, hw1⟩ : ∃ w1, w1 = w := ⟨_, rfl⟩
  rw [← hw1]
  rw [← hw1] at hf
  have hM := Mem.start hf
  refine C_tree_Renew ?_
  unfold F_tree_Renew
  unfold Tr.renP at hq
  ((with_reducible (refine mm_box hM ?_; clear hM; intro _ _ hM; refine mm_box hM ?_; clear hM; intro _ _ hM; refine mm_new hM ?_; clear hM; intro _ _ hM; refine mm_ld hM ?_)))
  rename_i g1 _ g5 _ g2 _
  refine mm_pure hM (right_ok h1 h2 h3 hl hp hM.fz) (fun w hM => ?_)
  ((with_reducible (refine mop_c trivial ?_)))
  cases hr : t.right
  · rw [if_pos (by rw [hr]; simp)] at hq
    rw [Bool.not_false]
    ((with_reducible (refine mif_true ?_; refine mop_c trivial ?_; refine mm_st hM ?_; clear hM; intro _ hM; refine rm_ld hM ?_)))
    exact hM.out (Le.refl _ _) (hq _ _ _ rfl (trF_none H))
  rw [if_neg (by rw [hr]; simp)] at hq
  have hR := Tr.rt.1 hr
  have hlen := hR.len
  rw [Bool.not_true]
  ((with_reducible (refine mif_false ?_; refine mm_ld hM ?_)))
  refine mm_pure hM (none_ok p h1 hl hM.fz) (fun w hM => ?_)
  by_cases hn : t.nobody p
  · rw [if_pos hn] at hq
    rw [decide_eq_true hn]
    ((with_reducible (refine mif_true ?_; refine mop_c trivial ?_; refine mm_st hM ?_; clear hM; intro _ hM; refine rm_ld hM ?_)))
    exact hM.out (Le.refl _ _) (hq _ _ _ rfl (trF_none H))
  rw [if_neg hn] at hq
  rw [decide_eq_false hn]
  obtain ⟨hb0, hb1, hb2⟩ := Tr.body hn
  ((with_reducible (refine mif_false ?_; refine mm_ld hM ?_)))
  refine mm_own (clone_ok h1 h2 h3 (by omega) (by omega) (fun p hp => by have := (hR.loose p hp).1; omega) hM) ?_
  rintro v w' ⟨A', a', B', b', X, rfl, hX, hM⟩
  have hXl : X.length = t.ps.length := by rw [← hX, List.length_map]
  obtain ⟨g4, rfl⟩ := hM.rowAt ⟨.refl _⟩ (by omega)
  obtain ⟨l0, hl0⟩ : ∃ l0, t.ls[p.toNat] = l0 := ⟨_, rfl⟩
  have hk0 : (t.ls.map Lf.fds)[p.toNat]? = some l0.fds := by rw [← hl0]; exact map_at hb1
  ((with_reducible (refine mm_st hM ?_; clear hM; intro _ hM; refine mop_c trivial ?_; refine mm_ld hM ?_; refine mm_ld hM ?_; refine mm_ixr hM ?_ ?_)); (focus omega); (with_reducible (intro _ hA)); (cases hA); (with_reducible (refine mop_c trivial ?_)))
  refine mm_stf hM hk0 (fun w' hM => ?_)
  have hz : [Fd.one (.int .i64 l0.name), .arr 32 (u8s pub.1), .arr 32 (u8s l0.ver.1), .arr 32 (u8s l0.abv.1)] = (l0.key pub l0.abv).fds := rfl
  rw [hz] at hM
  have hk1 : ((t.ls.map Lf.fds).set p.toNat (l0.key pub l0.abv).fds)[p.toNat]? = some (l0.key pub l0.abv).fds := by
    rw [List.getElem?_set_self (by simpa using hb1)]
  ((with_reducible (refine mop_c trivial ?_; refine mm_ld hM ?_; refine mop_c trivial ?_; refine mm_ixr hM ?_ ?_)); (focus omega); (with_reducible (intro _ hA)); (cases hA); (with_reducible (refine mop_c trivial ?_)))
  refine mm_stf hM hk1 (fun w' hM => ?_)
  have hz2 : [Fd.one (.int .i64 l0.name), .arr 32 (u8s pub.1), .arr 32 (u8s l0.ver.1), .arr 32 (u8s hzero.1)] = (l0.key pub hzero).fds := rfl
  have hz3 : [Fd.one (.int .i64 (l0.key pub l0.abv).name), .arr 32 (u8s (l0.key pub l0.abv).pub.1), .arr 32 (u8s (l0.key pub l0.abv).ver.1), .arr 32 (u8s hzero.1)] = (l0.key pub hzero).fds := rfl
  rw [hz3, List.set_set, ← List.map_set] at hM
  have hmod : t.ls.set p.toNat (l0.key pub hzero) = t.ls.modify p.toNat (·.key pub hzero) := by
    refine List.ext_getElem (by simp) fun i k1 k2 => ?_
    simp only [List.getElem_modify, List.getElem_set]
    split
    · rename_i e
      subst e
      rw [hl0]
    · rfl
  rw [hmod] at hM
  have hsl : (t.ls.modify p.toNat (·.key pub hzero)).length = t.ls.length := List.length_modify ..
  obtain ⟨ls2, hls⟩ : ∃ ls2, t.ls.modify p.toNat (·.key pub hzero) = ls2 := ⟨_, rfl⟩
  rw [hls] at hM hsl hq
  rw [← hsl, ← hXl] at hM
  ((with_reducible (refine mm_ld hM ?_)))
  have hM : Mem H w1 [rowR 36 97 (some ⟨g4, 0, none⟩) ls2.length a' (ls2.map Lf.fds), rowR 96 66 B' X.length b' (X.map xrow), allR X, fb g1 27 (tfd (some ⟨g4, 0, none⟩) ls2.length a' B' X.length b'), fb g2 27 (tfd none 0 0 none 0 0)] _ := hM.sub
  refine mm_own (blank_ok (ls := ls2) (X := X) (p := p) (by omega) (by omega) hM) ?_
  clear hM
  rintro v w5 ⟨H1, Y, rfl, hY, hYl, l1, hM⟩
  rw [hX] at hY
  ((with_reducible (refine mm_ld hM ?_; refine mm_st hM ?_; clear hM; intro _ hM; refine rm_ld hM ?_)))
  rw [← hYl] at hM
  have hM : Mem H1 w1 [rowR 36 97 (some ⟨g4, 0, none⟩) ls2.length a' (ls2.map Lf.fds), rowR 96 66 B' Y.length b' (Y.map xrow), allR Y] _ := hM.sub
  obtain ⟨H4, l4, hM, hT⟩ := hM.frzT (fun x hx => by
    have hm : x.1 ∈ blankP t.size p t.ps := by
      have : x.1 ∈ Y.map (·.1) := List.mem_map_of_mem hx
      rw [hY, hsl] at this
      exact this
    have := hR.blank_loose _ hm
    simp only [maxLen]
    omega)
  rw [hYl] at hT
  refine hM.out (l1.trans l4) (hq _ _ _ rfl ?_)
  rw [hY, hsl] at hT
  rw [hsl]
  exact hT
end
end Go.Proofs.Ytopcnkejobomaaa
/- The document's trees: what is right. -/
namespace Go.Proofs.Ytopcnkejobomaaa
open Go.RowKit Go.Lib

section
variable {H : Hp} {w0 w : World} {L R : List Res} {A B C : Option Addr} {a b c n : Nat} {t : Tr} {qs ps : List (List Fd)}
theorem tright_ok (h1 : Sl H 97 A (t.ls.map Lf.fds)) (h2 : Sl H 66 B qs) (h3 : All2 (PnF H) qs t.ps) (hl : t.ls.length ≤ maxLen) (hp : t.ps.length ≤ maxLen) (hf : Fz H w) :
    Calls Try.prog 19 #[tv A t.ls.length a B t.ps.length b] w fun en w' => en = .returned (.bool t.right) ∧ St w [] w' := by
  have hM := Mem.start hf
  refine C_bevyref08_Right ?_
  unfold F_bevyref08_Right
  have hl' : t.ls.length ≤ 9223372036854775807 := hl
  have hp' : t.ps.length ≤ 9223372036854775807 := hp
  have hq : qs.length = t.ps.length := h3.len
  have hts : t.size = t.ls.length := rfl
  ((with_reducible (refine mm_box hM ?_; clear hM; intro _ _ hM; refine mop_c trivial ?_; refine mm_ld hM ?_; refine mop_c trivial ?_)))
  rename_i g1 _
  refine ⟨fun v w' => v = .bool (!decide (t.ls.length ≤ 64 ∧ t.ps.length = t.ls.length - 1)) ∧ hM.now w', ?_, ?_⟩
  · ((with_reducible (refine mop_cS trivial ?_ ?_)))
    · intro h
      ((with_reducible ((iterate 3 refine mguard_n1 ?_); (iterate 6 refine mguard_un ?_); refine mguard_n1 ?_; refine mop_c trivial ?_; (iterate 3 refine mguard_n1 ?_); (iterate 4 refine mguard_un ?_); refine mguard_n1 ?_; refine mop_c trivial ?_)))
      exact ⟨by rw [decide_eq_false (by omega)]; rfl, hM⟩
    · intro h
      ((with_reducible (refine mguard_yes ?_; refine mop_c trivial ?_; refine mguard_yes ?_)))
      ((with_reducible (refine mop_cS trivial ?_ ?_)))
      · intro h4
        ((with_reducible (refine mguard_yes ?_; refine mop_c trivial ?_; refine mguard_yes ?_; refine mop_c trivial ?_; refine mguard_yes ?_; refine mm_ld hM ?_; refine mguard_yes ?_; refine mop_c trivial ?_; refine mguard_yes ?_; refine mop_c trivial ?_; refine mguard_yes ?_; refine mop_c ?_ ?_)); (focus omega); (with_reducible (refine mguard_yes ?_)))
        ((with_reducible (refine mop_cS trivial ?_ ?_)))
        · intro h5
          ((with_reducible (refine mguard_yes ?_; refine mop_c trivial ?_; refine mop_c trivial ?_; (iterate 3 refine mguard_n1 ?_); (iterate 4 refine mguard_un ?_); refine mguard_n1 ?_; refine mop_c trivial ?_)))
          exact ⟨by rw [decide_eq_false (by omega)]; rfl, hM⟩
        · intro h5
          ((with_reducible (refine mguard_yes ?_; refine mop_c trivial ?_; refine mop_c trivial ?_; refine mguard_yes ?_; refine mop_c trivial ?_; refine mguard_yes ?_; refine mop_cF trivial ?_ ?_)); (focus (first | assumption | omega | with_reducible rfl | exact fun h => Bool.noConfusion h)); (with_reducible (refine mguard_yes ?_; refine mop_c trivial ?_; (iterate 4 refine mguard_n2 ?_); refine mguard_yes ?_; refine mop_c trivial ?_; refine mop_c trivial ?_)))
          exact ⟨by rw [decide_eq_true (by omega)]; rfl, hM⟩
      · intro h4
        ((with_reducible (refine mguard_yes ?_; refine mop_c trivial ?_; (iterate 6 refine mguard_n2 ?_); refine mguard_yes ?_; refine mop_c trivial ?_; refine mop_c trivial ?_; refine mguard_yes ?_; refine mop_c trivial ?_; refine mguard_yes ?_; refine mop_cT trivial ?_ ?_)); (focus (first | assumption | omega | with_reducible rfl | exact fun h => Bool.noConfusion h)); (with_reducible (refine mguard_yes ?_; refine mop_c trivial ?_; refine mguard_yes ?_; refine mop_c trivial ?_; refine mguard_yes ?_; refine mm_ld hM ?_; refine mguard_yes ?_; refine mop_c trivial ?_; refine mguard_yes ?_)))
        ((with_reducible (refine mop_cS trivial ?_ ?_)))
        · intro h5
          ((with_reducible (refine mguard_yes ?_; refine mop_c trivial ?_; refine mop_c trivial ?_)))
          exact ⟨by rw [decide_eq_false (by omega)]; rfl, hM⟩
        · intro h5
          ((with_reducible (refine mguard_yes ?_; refine mop_c trivial ?_; refine mop_c trivial ?_)))
          exact ⟨by rw [decide_eq_true (by omega)]; rfl, hM⟩
  rintro v u w2 ⟨rfl, hM⟩
  by_cases hsz : t.ls.length ≤ 64 ∧ t.ps.length = t.ls.length - 1
  case neg =>
    rw [decide_eq_false hsz]
    ((with_reducible (refine mif_nf ?_)))
    refine ⟨?_, hM.st⟩
    unfold Tr.right
    rw [decide_eq_false hsz]
    rfl
  rw [decide_eq_true hsz]
  ((with_reducible (refine mif_nt ?_)))
  refine ⟨fun v w' => ∃ (i : Nat) (s : List Int), v = .int .i64 i ∧ i ≤ t.ls.length ∧ leavesB [] t.ls = leavesB s (t.ls.drop i) ∧ (∀ x, 1 ≤ x → (x ∈ s ↔ ∃ k, ∃ (hk : k < t.ls.length), k < i ∧ t.ls[k].name = x)) ∧ Mem H w [fb g1 27 (tfd A t.ls.length a B t.ps.length b)] w', fun v _ => match v with | .int _ k => t.ls.length - k.toNat | _ => 0, ⟨0, [], rfl, by omega, rfl, fun x _ => ⟨fun h => (by cases h), fun ⟨_, _, h, _⟩ => (by omega)⟩, hM⟩, ?_⟩
  clear hM
  rintro v u2 w3 ⟨i, s, rfl, hi, hb, hs, hM⟩
  ((with_reducible (refine mop_cS trivial ?_ ?_)))
  · intro hlt
    have hlt' : i < t.ls.length := by omega
    have hdr := leavesB_drop (s := s) (ls := t.ls) (i := i) hlt'
    ((with_reducible (refine mif_true ?_)))
    refine ⟨fun w' => ∃ s', leavesB [] t.ls = leavesB s' (t.ls.drop (i + 1)) ∧ (∀ x, 1 ≤ x → (x ∈ s' ↔ ∃ k, ∃ (hk : k < t.ls.length), k < i + 1 ∧ t.ls[k].name = x)) ∧ Mem H w [fb g1 27 (tfd A t.ls.length a B t.ps.length b)] w', ?_, ?_⟩
    · ((with_reducible (refine mop_c trivial ?_; refine mm_ld hM ?_)); (with_reducible refine mm_ixs ‹_› ?_ ?_ ?_); (focus (simp only [List.length_map]; omega)); (focus (simp only [List.length_map]; first | done | omega)); (with_reducible (intro _ _ hA)); (cases hA); (with_reducible refine mm_lds0 hM ‹_› (map_atI ?_) ?_); (focus omega); (with_reducible (refine mm_new hM ?_; clear hM; intro _ _ hM; refine mm_st hM ?_; clear hM; intro _ hM; refine mm_ld hM ?_; refine mop_c trivial ?_)))
      ((with_reducible (refine mop_cS trivial ?_ ?_)))
      · intro hz
        have hz' := (lf_zero _).2 hz
        ((with_reducible (refine mif_true ?_)))
        refine ⟨s, by rw [hb, hdr, if_pos hz'], fun x hx => (hs x hx).trans ⟨fun ⟨k, hk, h, e⟩ => ⟨k, hk, by omega, e⟩, fun ⟨k, hk, h, e⟩ => ?_⟩, hM.sub⟩
        rcases Nat.lt_or_ge k i with h6 | h6
        · exact ⟨k, hk, h6, e⟩
        · obtain rfl : k = i := by omega
          rw [hz'] at e
          simp only [Lf.zero] at e
          omega
      · intro hz
        rw [if_neg (fun e => hz ((lf_zero _).1 e))] at hdr
        ((with_reducible (refine mif_false ?_)))
        refine ⟨fun v w' => v = .bool (!decide (1 ≤ t.ls[i].name ∧ t.ls[i].name ≤ 64)) ∧ hM.now w', ?_, ?_⟩
        · ((with_reducible (refine mop_c trivial ?_; refine mm_ld hM ?_)))
          ((with_reducible (refine mop_cS trivial ?_ ?_)))
          · intro h
            ((with_reducible ((iterate 3 refine mguard_n1 ?_); refine mop_c trivial ?_)))
            exact ⟨by rw [decide_eq_false (by omega)]; rfl, hM⟩
          · intro h
            ((with_reducible (refine mguard_yes ?_; refine mop_c trivial ?_; refine mguard_yes ?_; refine mm_ld hM ?_; refine mguard_yes ?_)))
            ((with_reducible (refine mop_cS trivial ?_ ?_)))
            · intro h4
              ((with_reducible (refine mop_c trivial ?_)))
              exact ⟨by rw [decide_eq_false (by omega)]; rfl, hM⟩
            · intro h4
              ((with_reducible (refine mop_c trivial ?_)))
              exact ⟨by rw [decide_eq_true (by omega)]; rfl, hM⟩
        rintro v u4 w5 ⟨rfl, hM⟩
        by_cases hc : 1 ≤ t.ls[i].name ∧ t.ls[i].name ≤ 64
        · rw [decide_eq_true hc]
          ((with_reducible (refine mif_nt ?_)))
          refine ⟨fun v w' => ∃ k : Nat, v = .int .i64 k ∧ k ≤ i ∧ (∀ j (hj : j < t.ls.length), j < k → t.ls[j].name ≠ t.ls[i].name) ∧ hM.now w', fun v _ => match v with | .int _ k => i - k.toNat | _ => 0, ⟨0, rfl, by omega, fun j _ h => by omega, hM⟩, ?_⟩
          rintro v u5 w6 ⟨k, rfl, hk, hno, hM⟩
          ((with_reducible (refine mop_cS trivial ?_ ?_)))
          · intro hlt2
            have hlt3 : k < t.ls.length := by omega
            ((with_reducible (refine mif_true ?_; refine dp_c trivial ?_; refine dm_ld hM ?_)); (with_reducible refine dp_ixs ‹_› ?_ ?_ ?_); (focus (simp only [List.length_map]; omega)); (focus (simp only [List.length_map]; first | done | omega)); (with_reducible (intro _ _ hA)); (cases hA); (with_reducible (refine dp_c trivial ?_)); (with_reducible refine dm_lds hM ‹_› (map_atI ?_) ?_); (focus omega); (with_reducible (refine dp_c trivial ?_; refine dm_ld hM ?_)))
            ((with_reducible (refine dp_cS trivial ?_ ?_)))
            · intro he
              ((with_reducible (refine mm_end hM ?_; clear hM; intro _ hM; refine mif_true ?_)))
              refine ⟨?_, hM.st⟩
              unfold Tr.right
              rw [hb, hdr, decide_eq_false (show ¬ ((1 ≤ t.ls[i].name ∧ t.ls[i].name ≤ 64) ∧ t.ls[i].name ∉ s) from fun h => h.2 ((hs _ hc.1).2 ⟨k, hlt3, by omega, he⟩))]
              simp
            · intro he
              ((with_reducible (refine mm_end hM ?_; clear hM; intro _ hM; refine mif_false ?_; refine mop_c ?_ ?_)); (focus omega))
              refine ⟨⟨k + 1, rfl, by omega, fun j hj hjk => ?_, hM⟩, by simp only; omega⟩
              rcases Nat.lt_or_ge j k with h6 | h6
              · exact hno j hj h6
              · obtain rfl : j = k := by omega
                exact he
          · intro hge2
            ((with_reducible (refine mif_false ?_)))
            have hns : t.ls[i].name ∉ s := fun hm => by
              obtain ⟨j, hj, h6, e⟩ := (hs _ hc.1).1 hm
              exact hno j hj (by omega) e
            refine ⟨t.ls[i].name :: s, by rw [hb, hdr, decide_eq_true ⟨hc, hns⟩, Bool.true_and], fun x hx => ⟨fun hm => ?_, fun ⟨j, hj, h6, e⟩ => ?_⟩, hM.sub⟩
            · rcases List.mem_cons.1 hm with rfl | hm
              · exact ⟨i, hlt', by omega, rfl⟩
              · obtain ⟨j, hj, h6, e⟩ := (hs _ hx).1 hm
                exact ⟨j, hj, by omega, e⟩
            · rcases Nat.lt_or_ge j i with h7 | h7
              · exact List.mem_cons_of_mem _ ((hs _ hx).2 ⟨j, hj, h7, e⟩)
              · obtain rfl : j = i := by omega
                rw [← e]
                exact List.mem_cons_self ..
        · rw [decide_eq_false hc]
          ((with_reducible (refine mif_nf ?_)))
          refine ⟨?_, hM.st⟩
          unfold Tr.right
          rw [hb, hdr, decide_eq_false (show ¬ ((1 ≤ t.ls[i].name ∧ t.ls[i].name ≤ 64) ∧ t.ls[i].name ∉ s) from fun h => hc h.1)]
          simp
    · clear hM
      rintro u3 w4 ⟨s', hb', hs', hM⟩
      ((with_reducible (refine mop_c ?_ ?_)); (focus omega))
      exact ⟨⟨i + 1, s', rfl, by omega, hb', hs', hM⟩, by simp only; omega⟩
  · intro hge
    have hls : leavesB [] t.ls = true := by
      rw [hb, List.drop_eq_nil_of_le (by omega)]
      rfl
    ((with_reducible (refine mif_false ?_)))
    refine ⟨fun v w' => ∃ i : Nat, v = .int .i64 i ∧ i ≤ t.ps.length ∧ parB t.size t.ls 1 t.ps = parB t.size t.ls (2 * i + 1) (t.ps.drop i) ∧ Mem H w [fb g1 27 (tfd A t.ls.length a B t.ps.length b)] w', fun v _ => match v with | .int _ k => t.ps.length - k.toNat | _ => 0, ⟨0, rfl, by omega, rfl, hM⟩, ?_⟩
    clear hM hi hb hge hs
    rintro v u5 w5 ⟨i, rfl, hi, hb, hM⟩
    ((with_reducible (refine mop_c trivial ?_; refine mm_ld hM ?_; refine mop_c trivial ?_)))
    ((with_reducible (refine mop_cS trivial ?_ ?_)))
    · intro hlt
      obtain ⟨p, hpe⟩ : ∃ p, t.ps[i] = p := ⟨_, rfl⟩
      obtain ⟨q, hq1, C, c, rfl, hC, hcl⟩ := h3.at_ (i := i) (by omega)
      have hdr := parB_drop (n := t.size) (ls := t.ls) (x := 2 * i + 1) (ps := t.ps) (i := i) (by omega)
      rw [hpe] at hq1 hC hcl hdr
      have hcl' : p.loose.length ≤ 9223372036854775807 := hcl
      ((with_reducible (refine mif_true ?_; refine mop_c trivial ?_; refine mm_ld hM ?_)))
      refine mm_ixs h2 (by omega) hq.symm (fun bb oo hB => ?_)
      cases hB
      refine mm_lds0 hM h2 hq1 ?_
      ((with_reducible (refine mm_new hM ?_; clear hM; intro _ _ hM; refine mm_st hM ?_; clear hM; intro _ hM)))
      rename_i g3 _ _
      refine ⟨fun v w' => v = .bool (!(p.set || decide p.isZero)) ∧ hM.now w', ?_, ?_⟩
      · ((with_reducible (refine mop_c trivial ?_; refine mm_ld hM ?_; refine mop_c trivial ?_)))
        rcases Bool.eq_false_or_eq_true p.set with hs | hs
        rotate_left
        · have e : (!p.set) = true := by rw [hs]; rfl
          rw [e]
          ((with_reducible (refine mguard_yes ?_; refine mop_c trivial ?_; refine mguard_yes ?_; refine mm_ld hM ?_; refine mguard_yes ?_; refine mop_c trivial ?_; refine mguard_yes ?_)))
          ((with_reducible (refine mop_cS trivial ?_ ?_)))
          · intro h1
            ((with_reducible (refine mguard_yes ?_; refine mop_c trivial ?_; (iterate 4 refine mguard_n1 ?_); refine mguard_yes ?_; refine mop_c trivial ?_; refine mguard_yes ?_; refine mop_c trivial ?_; (iterate 4 refine mguard_n1 ?_); refine mguard_yes ?_; refine mop_c trivial ?_; refine mop_c trivial ?_)))
            exact ⟨by rw [hs, Bool.false_or, decide_eq_false (show ¬ p.isZero from fun h => h1 h.2.1)]; rfl, hM⟩
          · intro h1
            ((with_reducible (refine mguard_yes ?_; refine mop_c trivial ?_; refine mguard_yes ?_; refine mop_c trivial ?_; refine mguard_yes ?_; refine mm_ld hM ?_; refine mguard_yes ?_; refine mop_c trivial ?_; refine mguard_yes ?_)))
            ((with_reducible (refine mop_cS trivial ?_ ?_)))
            · intro h2
              ((with_reducible (refine mguard_yes ?_; refine mop_c trivial ?_; refine mguard_yes ?_; refine mop_c trivial ?_; (iterate 4 refine mguard_n1 ?_); refine mguard_yes ?_; refine mop_c trivial ?_; refine mop_c trivial ?_)))
              exact ⟨by rw [hs, Bool.false_or, decide_eq_false (show ¬ p.isZero from fun h => h2 h.2.2.1)]; rfl, hM⟩
            · intro h2
              ((with_reducible (refine mguard_yes ?_; refine mop_c trivial ?_; refine mguard_yes ?_; refine mop_c trivial ?_; refine mguard_yes ?_; refine mop_c trivial ?_; refine mguard_yes ?_; refine mm_ld hM ?_; refine mguard_yes ?_; refine mop_c trivial ?_; refine mguard_yes ?_)))
              ((with_reducible (refine mop_cS trivial ?_ ?_)))
              · intro h3
                ((with_reducible (refine mguard_yes ?_; refine mop_c trivial ?_; refine mop_c trivial ?_)))
                exact ⟨by rw [hs, Bool.false_or, decide_eq_false (show ¬ p.isZero from fun h => by rw [h.2.2.2] at h3; simp at h3)]; rfl, hM⟩
              · intro h3
                ((with_reducible (refine mguard_yes ?_; refine mop_c trivial ?_; refine mop_c trivial ?_)))
                exact ⟨by rw [hs, Bool.false_or, decide_eq_true (show p.isZero from ⟨hs, Decidable.not_not.1 h1, Decidable.not_not.1 h2, List.eq_nil_of_length_eq_zero (by omega)⟩)]; rfl, hM⟩
        · have e : (!p.set) = false := by rw [hs]; rfl
          rw [e]
          ((with_reducible ((iterate 5 refine mguard_n2 ?_); (iterate 4 refine mguard_un ?_); refine mguard_n2 ?_; refine mguard_n2 ?_; (iterate 4 refine mguard_un ?_); refine mguard_n2 ?_; refine mop_c trivial ?_)))
          exact ⟨by rw [hs, Bool.true_or]; rfl, hM⟩
      rintro v u6 w6 ⟨rfl, hM⟩
      cases hz : (p.set || decide p.isZero)
      · rw [Bool.not_false]
        ((with_reducible (refine mif_true ?_)))
        refine ⟨?_, hM.st⟩
        unfold Tr.right
        rw [hb, hdr, hz]
        simp
      rw [hz, Bool.true_and] at hdr
      rw [Bool.not_true]
      ((with_reducible (refine mif_false ?_)))
      refine ⟨fun v w' => ∃ k : Nat, v = .int .i64 k ∧ k ≤ p.loose.length ∧ looseB t.size t.ls (2 * i + 1) none p.loose = looseB t.size t.ls (2 * i + 1) (prv p.loose k) (p.loose.drop k) ∧ hM.now w', fun v _ => match v with | .int _ k => p.loose.length - k.toNat | _ => 0, ⟨0, rfl, by omega, rfl, hM⟩, ?_⟩
      rintro v u7 w7 ⟨k, rfl, hk, hlb, hM⟩
      ((with_reducible (refine mop_c trivial ?_; refine mm_ld hM ?_; refine mop_c trivial ?_)))
      ((with_reducible (refine mop_cS trivial ?_ ?_)))
      · intro hlt2
        obtain ⟨x, hx⟩ : ∃ x, p.loose[k] = x := ⟨_, rfl⟩
        have hdl := looseB_drop (n := t.size) (ls := t.ls) (x := 2 * i + 1) (o := prv p.loose k) (l := p.loose) (i := k) (by omega)
        rw [hx] at hdl
        ((with_reducible (refine mif_true ?_; refine mop_c trivial ?_; refine mm_ld hM ?_)); (with_reducible refine mm_ixs ‹_› ?_ ?_ ?_); (focus (simp only [List.length_map]; omega)); (focus (simp only [List.length_map]; first | done | omega)); (with_reducible (intro _ _ hA)); (cases hA); (with_reducible refine mm_lds0 hM ‹_› (map_atI ?_) ?_); (focus omega))
        rw [hx]
        refine ⟨fun v w' => v = .bool (!decide (hld t.size (2 * i + 1) x ∧ nameAt t.ls x ≠ 0 ∧ ∀ q ∈ prv p.loose k, q < x)) ∧ hM.now w', ?_, ?_⟩
        · ((with_reducible (refine mop_c ?_ ?_)); (focus omega); (with_reducible (refine mop_c ?_ ?_)); (focus omega); (with_reducible (refine mm_purC hM ?_ (fun _ hM2 => ?_))); (focus (first | exact trivial | assumption | omega)); (with_reducible (replace hM := hM2; clear hM2; refine mop_c trivial ?_)))
          by_cases hh : hld t.size (2 * i + 1) x
          · obtain ⟨r1, r2, -⟩ := hld_rng hh
            have hna := nameAt_at (ls := t.ls) (p := x) r1 (by omega)
            rw [decide_eq_true hh, Bool.not_true]
            ((with_reducible (refine mguard_yes ?_; refine mop_c trivial ?_; refine mguard_yes ?_; refine mm_ld hM ?_; refine mguard_yes ?_; refine mop_c trivial ?_; refine mguard_yes ?_)); (with_reducible refine mm_ixs ‹_› ?_ ?_ ?_); (focus (simp only [List.length_map]; omega)); (focus (simp only [List.length_map]; first | done | omega)); (with_reducible (intro _ _ hA)); (cases hA); (with_reducible (refine mguard_yes ?_; refine mop_c trivial ?_; refine mguard_yes ?_)); (with_reducible refine mm_lds hM ‹_› (map_at ?_) ?_); (focus omega); (with_reducible (refine mguard_yes ?_)))
            rw [← hna]
            ((with_reducible (refine mop_cS trivial ?_ ?_)))
            · intro h5
              ((with_reducible (refine mop_c trivial ?_; (iterate 3 refine mguard_n1 ?_); (iterate 8 refine mguard_un ?_); refine mguard_n1 ?_; refine mop_c trivial ?_)))
              exact ⟨by rw [decide_eq_false (fun h => h.2.1 h5)]; rfl, hM⟩
            · intro h5
              cases k with
              | zero =>
                ((with_reducible (refine mop_c trivial ?_; refine mguard_yes ?_; refine mop_c trivial ?_; refine mguard_yes ?_; refine mop_cF trivial ?_ ?_)); (focus (first | assumption | omega | with_reducible rfl | exact fun h => Bool.noConfusion h)); (with_reducible (refine mguard_yes ?_; refine mop_c trivial ?_; (iterate 8 refine mguard_n2 ?_); refine mguard_yes ?_; refine mop_c trivial ?_; refine mop_c trivial ?_)))
                exact ⟨by rw [decide_eq_true ⟨hh, h5, by simp [prv]⟩]; rfl, hM⟩
              | succ k =>
                have hix : (((k + 1 : Nat) : Int) - 1).toNat = k := by omega
                have hpv : prv p.loose (k + 1) = some p.loose[k] := List.getElem?_eq_getElem (by omega)
                ((with_reducible (refine mop_c trivial ?_; refine mguard_yes ?_; refine mop_c trivial ?_; refine mguard_yes ?_; refine mop_cT trivial ?_ ?_)); (focus (first | assumption | omega | with_reducible rfl | exact fun h => Bool.noConfusion h)); (with_reducible (refine mguard_yes ?_; refine mop_c trivial ?_; refine mguard_yes ?_; refine mop_c trivial ?_; refine mguard_yes ?_; refine mm_ld hM ?_; refine mguard_yes ?_; refine mop_c trivial ?_; refine mguard_yes ?_; refine mop_c ?_ ?_)); (focus omega); (with_reducible (refine mguard_yes ?_)); (with_reducible refine mm_ixs ‹_› ?_ ?_ ?_); (focus (simp only [List.length_map]; omega)); (focus (simp only [List.length_map]; first | done | omega)); (with_reducible (intro _ _ hA)); (cases hA); (with_reducible (refine mguard_yes ?_)); (with_reducible refine mm_lds0 hM ‹_› (map_at ?_) ?_); (focus omega); (with_reducible (refine mguard_yes ?_; refine mop_c trivial ?_; refine mguard_yes ?_)))
                ((with_reducible (refine mop_cS trivial ?_ ?_)))
                · intro h6
                  simp only [hix] at h6
                  ((with_reducible (refine mguard_yes ?_; refine mop_c trivial ?_; refine mop_c trivial ?_)))
                  exact ⟨by rw [decide_eq_false (fun h => by have := h.2.2 _ hpv; omega)]; rfl, hM⟩
                · intro h6
                  simp only [hix] at h6
                  ((with_reducible (refine mguard_yes ?_; refine mop_c trivial ?_; refine mop_c trivial ?_)))
                  exact ⟨by rw [decide_eq_true ⟨hh, h5, fun q hq => by rw [hpv] at hq; cases hq; omega⟩]; rfl, hM⟩
          · rw [decide_eq_false hh, Bool.not_false]
            ((with_reducible ((iterate 7 refine mguard_n1 ?_); refine mop_c trivial ?_; (iterate 3 refine mguard_n1 ?_); (iterate 8 refine mguard_un ?_); refine mguard_n1 ?_; refine mop_c trivial ?_)))
            exact ⟨by rw [decide_eq_false (fun h => hh h.1)]; rfl, hM⟩
        rintro v u8 w8 ⟨rfl, hM⟩
        by_cases hc : hld t.size (2 * i + 1) x ∧ nameAt t.ls x ≠ 0 ∧ ∀ q ∈ prv p.loose k, q < x
        · rw [decide_eq_true hc, Bool.not_true]
          rw [decide_eq_true hc, Bool.true_and] at hdl
          ((with_reducible (refine mif_false ?_; refine mop_c ?_ ?_)); (focus omega))
          refine ⟨⟨k + 1, rfl, by omega, ?_, hM⟩, by simp only; omega⟩
          rw [hlb, hdl, prv, List.getElem?_eq_getElem (by omega), hx]
        · rw [decide_eq_false hc, Bool.not_false]
          ((with_reducible (refine mif_true ?_)))
          refine ⟨?_, hM.st⟩
          unfold Tr.right
          rw [hb, hdr, hlb, hdl, decide_eq_false hc]
          simp
      · intro hge2
        have hl2 : looseB t.size t.ls (2 * i + 1) none p.loose = true := by
          rw [hlb, List.drop_eq_nil_of_le (by omega)]
          rfl
        rw [hl2, Bool.true_and] at hdr
        ((with_reducible (refine mif_false ?_; refine mop_c ?_ ?_)); (focus omega))
        refine ⟨⟨i + 1, rfl, by omega, ?_, hM.sub⟩, by simp only; omega⟩
        rw [hb, hdr]
        congr 1
    · intro hge
      have hps : parB t.size t.ls 1 t.ps = true := by
        rw [hb, List.drop_eq_nil_of_le (by omega)]
        rfl
      have hR : t.right = decide (t.ls = [] ∨ 0 < nameAt t.ls (t.size - 1)) := by
        unfold Tr.right
        rw [hls, hps, decide_eq_true hsz]
        simp
      ((with_reducible (refine mif_false ?_)))
      ((with_reducible (refine mop_cS trivial ?_ ?_)))
      · intro h0
        ((with_reducible ((iterate 8 refine mguard_n1 ?_); refine mop_c trivial ?_)))
        exact ⟨by rw [hR, decide_eq_true (.inl (List.eq_nil_of_length_eq_zero (by omega)))], hM.st⟩
      · intro h0
        ((with_reducible (refine mguard_yes ?_; refine mop_c trivial ?_; refine mguard_yes ?_; refine mm_ld hM ?_; refine mguard_yes ?_; refine mop_c trivial ?_; refine mguard_yes ?_; refine mop_c ?_ ?_)); (focus omega); (with_reducible (refine mguard_yes ?_)); (with_reducible refine mm_ixs ‹_› ?_ ?_ ?_); (focus (simp only [List.length_map]; omega)); (focus (simp only [List.length_map]; first | done | omega)); (with_reducible (intro _ _ hA)); (cases hA); (with_reducible (refine mguard_yes ?_; refine mop_c trivial ?_; refine mguard_yes ?_)); (with_reducible refine mm_lds hM ‹_› (map_at ?_) ?_); (focus omega); (with_reducible (refine mguard_yes ?_)))
        have hna := nameAt_at (ls := t.ls) (p := (t.ls.length : Int) - 1) (by omega) (by omega)
        have hnn : 0 ≤ t.ls[((t.ls.length : Int) - 1).toNat].name := by
          rcases leavesB_spec hls _ (List.getElem_mem (show ((t.ls.length : Int) - 1).toNat < t.ls.length by omega)) with h | h
          · rw [h]
            simp [Lf.zero]
          · omega
        rw [← hna] at hnn ⊢
        ((with_reducible (refine mop_cS trivial ?_ ?_)))
        · intro h9
          ((with_reducible (refine mop_c trivial ?_)))
          exact ⟨by rw [hR, decide_eq_true (.inr (by rw [hts]; omega))], hM.st⟩
        · intro h9
          ((with_reducible (refine mop_c trivial ?_)))
          exact ⟨by rw [hR, decide_eq_false (fun h => h.elim (fun h => h0 (by rw [h]; rfl)) (fun h => by rw [hts] at h; omega))], hM.st⟩
end
end Go.Proofs.Ytopcnkejobomaaa
/- The document's trees: copies, places, rows. -/
namespace Go.Proofs.Ytopcnkejobomaaa
open Go.RowKit Go.Lib

theorem Mem.join {H H' : Hp} {w0 w w' : World} {L L' : List Res} (h : Mem H w0 L w) (hc : Mem H' w L' w') (hn : ∀ b, b < w.heap.size → H b = none → H' b = none) : Mem H' w0 (L' ++ L) w' := by
  obtain ⟨B, hl, hs, hb⟩ := h.own
  obtain ⟨B1, hl1, hs1, hb1⟩ := hc.own
  refine ⟨⟨B1 ++ B, Hl.app.2 ⟨B1, B, rfl, hl1, hl⟩, ?_, fun b hm => ?_⟩, hc.fz⟩
  · exact St.call (A := []) (B' := B1) hs hs1 rfl rfl rfl (fun b hm => .inl (hb1 b hm).1) (fun b hm hn => .inr ⟨b, hm, hn, rfl⟩) (fun _ hm => by cases hm)
  · rcases List.mem_append.1 hm with hm | hm
    · exact hb1 b hm
    · exact ⟨(hb b hm).1, hn _ (hs.own b hm).lt (hb b hm).2⟩
def putD (l : List Int) (x : Int) (d : Bool) : List Int := if d = true then l else putL l x
theorem putL_nil (x : Int) : putL [] x = [x] := rfl
theorem putL_cons (y : Int) (r : List Int) (x : Int) : putL (y :: r) x = if y ≤ x then y :: putL r x else x :: y :: r := by
  unfold putL
  rw [List.takeWhile_cons, List.dropWhile_cons]
  by_cases h : y ≤ x
  · rw [decide_eq_true h, if_pos h]
    rfl
  · rw [decide_eq_false h, if_neg h]
    rfl
theorem putL_len (l : List Int) (x : Int) : (putL l x).length = l.length + 1 := by
  induction l with
  | nil => rfl
  | cons y r ih =>
    rw [putL_cons]
    split <;> simp [ih]
section
variable {H : Hp} {w0 w : World} {L R : List Res} {A B C : Option Addr} {a b c n : Nat} {t : Tr} {qs ps : List (List Fd)}
theorem rplace_ok (x : Int) (h1 : Sl H 97 A (t.ls.map Lf.fds)) (hl : t.ls.length ≤ maxLen) (hf : Fz H w) :
    Calls Try.prog 35 #[tv A t.ls.length a B n b, .int .i64 x] w fun en w' => en = .returned (.int .i64 (t.place x)) ∧ St w [] w' := by
  have hM := Mem.start hf
  have hl' : t.ls.length ≤ 9223372036854775807 := hl
  refine C_bevyref08_Place ?_
  unfold F_bevyref08_Place
  ((with_reducible (refine mm_box hM ?_; clear hM; intro _ _ hM)))
  refine ⟨fun v w' => ∃ i : Nat, v = .int .i64 i ∧ i ≤ t.ls.length ∧ (∀ j (hj : j < t.ls.length), j < i → decide (t.ls[j].name = x) = false) ∧ hM.now w', fun v _ => match v with | .int _ k => t.ls.length - k.toNat | _ => 0, ⟨0, rfl, by omega, fun j _ h => by omega, hM⟩, ?_⟩
  rintro v u w3 ⟨i, rfl, hi, hlo, hM⟩
  unfold Tr.place
  refine ⟨fun w' => i < t.ls.length ∧ 0 < x ∧ hM.now w', ?_, ?_⟩
  · ((with_reducible (refine mop_c trivial ?_; refine mm_ld hM ?_; refine mop_c trivial ?_)))
    ((with_reducible (refine mop_cS trivial ?_ ?_)))
    · intro hlt
      ((with_reducible (refine mguard_yes ?_; refine mop_c trivial ?_; refine mguard_yes ?_)))
      ((with_reducible (refine mop_cS trivial ?_ ?_)))
      · intro hx
        ((with_reducible (refine mop_c trivial ?_; refine mif_true ?_)))
        exact ⟨by omega, by omega, hM⟩
      · intro hx
        ((with_reducible (refine mop_c trivial ?_; refine mif_false ?_)))
        exact ⟨by rw [if_pos (by omega)], hM.st⟩
    · intro hge
      ((with_reducible (refine mguard_n2 ?_; refine mguard_n2 ?_; refine mop_c trivial ?_; refine mif_false ?_)))
      refine ⟨?_, hM.st⟩
      rw [fix_none fun j hj => hlo j hj (by omega)]
      split <;> rfl
  rintro u4 w4 ⟨hlt, hx, hM⟩
  ((with_reducible (refine mop_c trivial ?_; refine mm_ld hM ?_)); (with_reducible refine mm_ixs ‹_› ?_ ?_ ?_); (focus (simp only [List.length_map]; omega)); (focus (simp only [List.length_map]; first | done | omega)); (with_reducible (intro _ _ hA)); (cases hA); (with_reducible (refine mop_c trivial ?_)); (with_reducible refine mm_lds hM ‹_› (map_atI ?_) ?_); (focus omega))
  ((with_reducible (refine mop_cS trivial ?_ ?_)))
  · intro h
    ((with_reducible (refine mif_true ?_)))
    exact ⟨by rw [if_neg (by omega), fix_at hlt hlo (decide_eq_true h)], hM.st⟩
  · intro h
    ((with_reducible (refine mif_false ?_; refine mop_c ?_ ?_)); (focus omega))
    refine ⟨⟨i + 1, rfl, by omega, fun j hj hji => ?_, hM⟩, by simp only; omega⟩
    rcases Nat.lt_or_ge j i with h2 | h2
    · exact hlo j hj h2
    · obtain rfl : j = i := by omega
      exact decide_eq_false h
theorem rnone_ok (p : Int) (h1 : Sl H 97 A (t.ls.map Lf.fds)) (hl : t.ls.length ≤ maxLen) (hf : Fz H w) : Calls Try.prog 64 #[tv A t.ls.length a B n b, .int .i64 p] w fun en w' => en = .returned (.bool (decide (t.nobody p))) ∧ St w [] w' := by
  have hM := Mem.start hf
  have hl' : t.ls.length ≤ 9223372036854775807 := hl
  refine C_bevyref08_None ?_
  unfold F_bevyref08_None
  ((with_reducible (refine mm_box hM ?_; clear hM; intro _ _ hM)))
  ((with_reducible (refine mop_cS trivial ?_ ?_)))
  · intro h
    ((with_reducible ((iterate 5 refine mguard_n1 ?_); refine mop_c trivial ?_; (iterate 7 refine mguard_n1 ?_); refine mop_c trivial ?_)))
    exact ⟨by rw [decide_eq_true (show t.nobody p from .inl (.inl h))], hM.st⟩
  · intro h
    ((with_reducible (refine mguard_yes ?_; refine mop_c trivial ?_; refine mguard_yes ?_; refine mop_c trivial ?_; refine mguard_yes ?_; refine mm_ld hM ?_; refine mguard_yes ?_; refine mop_c trivial ?_; refine mguard_yes ?_)))
    ((with_reducible (refine mop_cS trivial ?_ ?_)))
    · intro h2
      ((with_reducible (refine mop_c trivial ?_; (iterate 7 refine mguard_n1 ?_); refine mop_c trivial ?_)))
      exact ⟨by rw [decide_eq_true (show t.nobody p from .inl (.inr h2))], hM.st⟩
    · intro h2
      have h3 : p.toNat < t.ls.length := by omega
      have h4 := nameAt_at (ls := t.ls) (p := p) (by omega) h3
      ((with_reducible (refine mop_c trivial ?_; refine mguard_yes ?_; refine mop_c trivial ?_; refine mguard_yes ?_; refine mm_ld hM ?_; refine mguard_yes ?_; refine mop_c trivial ?_; refine mguard_yes ?_)); (with_reducible refine mm_ixs ‹_› ?_ ?_ ?_); (focus (simp only [List.length_map]; omega)); (focus (simp only [List.length_map]; first | done | omega)); (with_reducible (intro _ _ hA)); (cases hA); (with_reducible (refine mguard_yes ?_; refine mop_c trivial ?_; refine mguard_yes ?_)); (with_reducible refine mm_lds hM ‹_› (map_at ?_) ?_); (focus omega); (with_reducible (refine mguard_yes ?_)))
      rw [← h4]
      ((with_reducible (refine mop_cS trivial ?_ ?_)))
      · intro h5
        ((with_reducible (refine mop_c trivial ?_)))
        exact ⟨by rw [decide_eq_true (show t.nobody p from .inr h5)], hM.st⟩
      · intro h5
        ((with_reducible (refine mop_c trivial ?_)))
        exact ⟨by rw [decide_eq_false (show ¬ t.nobody p from fun k => k.elim (fun k => k.elim h h2) h5)], hM.st⟩
theorem rcopy_ok (h1 : Sl H 97 A (t.ls.map Lf.fds)) (h2 : Sl H 66 B qs) (h3 : All2 (PnF H) qs t.ps) (hl : t.ls.length ≤ 1000) (hp : t.ps.length ≤ 1000) (hlo : ∀ p ∈ t.ps, p.loose.length ≤ 1000) (hM : Mem H w0 L w) :
    Calls Try.prog 65 #[tv A t.ls.length a B t.ps.length b] w fun en w' => ∃ v, en = .returned v ∧ ∃ A' a' B' b' X, v = tv A' t.ls.length a' B' t.ps.length b' ∧ X.map (·.1) = t.ps ∧
      Mem H w0 (rowR 36 97 A' t.ls.length a' (t.ls.map Lf.fds) :: rowR 96 66 B' t.ps.length b' (X.map xrow) :: allR X :: L) w' := by
  have hq : qs.length = t.ps.length := h3.len
  refine C_bevyref08_Copy ?_
  unfold F_bevyref08_Copy
  ((with_reducible (refine mm_box hM ?_; clear hM; intro _ _ hM; refine mm_new hM ?_; clear hM; intro _ _ hM; refine mop_c trivial ?_; refine mm_new hM ?_; clear hM; intro _ _ hM; refine mm_st hM ?_; clear hM; intro _ hM)))
  rename_i g1 _ g2 _ g3 _ _
  have h0 : Mem H w0 (rowR 36 97 none 0 0 ((t.ls.take 0).map Lf.fds) :: _) _ := hM.row0 36 97
  refine ⟨fun v w' => ∃ (i : Nat) (A' : Option Addr) (a' : Nat), v = .int .i64 i ∧ i ≤ t.ls.length ∧ Mem H w0 (fb g3 27 (tfd A' i a' none 0 0) :: fb g2 27 (tfd none 0 0 none 0 0) :: fb g1 27 (tfd A t.ls.length a B t.ps.length b) :: rowR 36 97 A' i a' ((t.ls.take i).map Lf.fds) :: L) w', fun v _ => match v with | .int _ k => t.ls.length - k.toNat | _ => 0, ⟨0, none, 0, rfl, by omega, h0.same⟩, ?_⟩
  clear hM h0
  rintro v u w3 ⟨i, A', a', rfl, hi, hM⟩
  ((with_reducible (refine mop_c trivial ?_; refine mm_ld hM ?_; refine mop_c trivial ?_)))
  ((with_reducible (refine mop_cS trivial ?_ ?_)))
  · intro hlt
    have hlt' : i < t.ls.length := by omega
    ((with_reducible (refine mif_true ?_; refine dp_c trivial ?_; refine dm_ld hM ?_; refine dp_c trivial ?_; refine dm_ld hM ?_)); (with_reducible refine dp_ixs ‹_› ?_ ?_ ?_); (focus (simp only [List.length_map]; omega)); (focus (simp only [List.length_map]; first | done | omega)); (with_reducible (intro _ _ hA)); (cases hA); (with_reducible refine dm_lds0 hM ‹_› (map_atI ?_) ?_); (focus omega); (with_reducible (refine dS_bsl hM ?_ ?_ ?_)); (focus rfl); (focus (constructor <;> simp)); (with_reducible (clear hM; intro _ _ hM; refine dS_appF hM ?_ ?_)); (focus omega); (with_reducible (clear hM; intro _ _ _ hM; refine dp_c trivial ?_; refine dS_st hM ?_; clear hM; intro _ hM; refine mm_end hM ?_; clear hM; intro _ hM; refine mop_c ?_ ?_)); (focus omega))
    rename_i A3 c3 _ _ _
    have e : (t.ls.take i).map Lf.fds ++ [t.ls[i].fds] = (t.ls.take (i + 1)).map Lf.fds := by
      rw [List.take_succ_eq_append_getElem hlt', List.map_append]
      rfl
    rw [e] at hM
    exact ⟨⟨i + 1, A3, c3, rfl, by omega, hM.same⟩, by simp only; omega⟩
  · intro hge
    obtain rfl : i = t.ls.length := by omega
    rw [List.take_length] at hM
    ((with_reducible (refine mif_false ?_)))
    have h0 : Mem H w0 (rowR 96 66 none 0 0 (([] : List Xp).map xrow) :: _) _ := hM.row0 96 66
    refine ⟨fun v w' => ∃ (j : Nat) (B' : Option Addr) (b' : Nat) (X : List Xp), v = .int .i64 j ∧ j ≤ t.ps.length ∧ X.map (·.1) = t.ps.take j ∧ Mem H w0 (fb g3 27 (tfd A' t.ls.length a' B' j b') :: fb g2 27 (tfd none 0 0 none 0 0) :: fb g1 27 (tfd A t.ls.length a B t.ps.length b) :: rowR 36 97 A' t.ls.length a' (t.ls.map Lf.fds) :: rowR 96 66 B' j b' (X.map xrow) :: allR X :: L) w', fun v _ => match v with | .int _ k => t.ps.length - k.toNat | _ => 0, ⟨0, none, 0, [], rfl, by omega, rfl, h0.all0.same⟩, ?_⟩
    clear hM h0
    rintro v u2 w4 ⟨j, B', b', X, rfl, hj, hX, hM⟩
    ((with_reducible (refine mop_c trivial ?_; refine mm_ld hM ?_; refine mop_c trivial ?_)))
    ((with_reducible (refine mop_cS trivial ?_ ?_)))
    · intro hlt
      have hlt' : j < t.ps.length := by omega
      obtain ⟨q, hq1, C, c, rfl, hC, hcl⟩ := h3.at_ (i := j) hlt'
      obtain ⟨p, hpe⟩ : ∃ p, t.ps[j] = p := ⟨_, rfl⟩
      have hpl := hlo p (hpe ▸ List.getElem_mem _)
      rw [hpe] at hq1 hC
      ((with_reducible (refine mif_true ?_; refine mop_c trivial ?_; refine mm_ld hM ?_)))
      refine mm_ixs h2 (by omega) hq.symm (fun bb oo hB => ?_)
      cases hB
      refine mm_lds0 hM h2 hq1 ?_
      ((with_reducible (refine mm_new hM ?_; clear hM; intro _ _ hM; refine mm_st hM ?_; clear hM; intro _ hM; refine mop_c trivial ?_; refine mm_ld hM ?_; refine mop_c trivial ?_; refine mm_st hM ?_; clear hM; intro _ hM)))
      rename_i g6 _ _ _
      have h0 : Mem H w0 (rowR 3 1 none 0 0 (ints8 (p.loose.take 0)) :: _) _ := hM.row0 3 1
      refine ⟨fun v w' => ∃ (k : Nat) (C' : Option Addr) (c' : Nat), v = .int .i64 k ∧ k ≤ p.loose.length ∧ Mem H w0 (fb g6 96 [.one (.bool p.set), .arr 32 (u8s p.pub.1), .arr 32 (u8s p.abv.1), .one (.slice C' k c')] :: rowR 3 1 C' k c' (ints8 (p.loose.take k)) :: fb g3 27 (tfd A' t.ls.length a' B' j b') :: fb g2 27 (tfd none 0 0 none 0 0) :: fb g1 27 (tfd A t.ls.length a (some ⟨bb, oo, none⟩) t.ps.length b) :: rowR 36 97 A' t.ls.length a' (t.ls.map Lf.fds) :: rowR 96 66 B' j b' (X.map xrow) :: allR X :: L) w', fun v _ => match v with | .int _ k => p.loose.length - k.toNat | _ => 0, ⟨0, none, 0, rfl, by omega, h0.same⟩, ?_⟩
      clear hM h0
      rintro v u3 w5 ⟨k, C', c', rfl, hk, hM⟩
      ((with_reducible (refine mop_c trivial ?_)))
      ((with_reducible (refine mop_cS trivial ?_ ?_)))
      · intro hlt2
        have hlt3 : k < p.loose.length := by omega
        have e1 := ints8_at (l := p.loose) (i := k) hlt3
        ((with_reducible (refine mif_true ?_; refine dp_c trivial ?_; refine dm_ld hM ?_)); (with_reducible refine dp_ixs ‹_› ?_ ?_ ?_); (focus (simp only [List.length_map]; omega)); (focus (simp only [List.length_map]; first | done | omega)); (with_reducible (intro _ _ hA)); (cases hA); (with_reducible refine dm_lds0 hM ‹_› (map_atI ?_) ?_); (focus omega); (with_reducible (refine dS_bsl hM ?_ ?_ ?_)); (focus rfl); (focus (constructor <;> simp)); (with_reducible (clear hM; intro _ _ hM; refine dS_appF hM ?_ ?_)); (focus omega); (with_reducible (clear hM; intro _ _ _ hM; refine dp_c trivial ?_; refine dS_st hM ?_; clear hM; intro _ hM; refine mm_end hM ?_; clear hM; intro _ hM; refine mop_c ?_ ?_)); (focus omega))
        rename_i A3 c3 _ _ _
        have e : ints8 (p.loose.take k) ++ [[.one (.int .i64 p.loose[k])]] = ints8 (p.loose.take (k + 1)) := by
          rw [List.take_succ_eq_append_getElem hlt3, ints8_app]
          rfl
        rw [e] at hM
        exact ⟨⟨k + 1, A3, c3, rfl, by omega, hM.same⟩, by simp only; omega⟩
      · intro hge2
        obtain rfl : k = p.loose.length := by omega
        rw [List.take_length] at hM
        ((with_reducible (refine mif_false ?_; refine mop_c trivial ?_; refine mm_ld hM ?_; refine mm_ld hM ?_; refine mm_bsl hM ?_ ?_ ?_)); (focus rfl); (focus (constructor <;> simp)); (with_reducible (clear hM; intro _ _ hM; refine mm_appo hM ?_ ?_)); (focus omega); (with_reducible (clear hM; intro _ _ _ hM; refine mop_c trivial ?_; refine mm_st hM ?_; clear hM; intro _ hM; refine mop_c ?_ ?_)); (focus omega))
        rename_i A3 c3 _ _
        have e : X.map xrow ++ [[.one (.bool p.set), .arr 32 (u8s p.pub.1), .arr 32 (u8s p.abv.1), .one (.slice C' p.loose.length c')]] = (X ++ [(p, C', c')]).map xrow := by simp
        rw [e] at hM
        have hM : Mem H w0 (allR X :: xres (p, C', c') :: fb g3 27 (tfd A' t.ls.length a' A3 (j + 1) c3) :: fb g2 27 (tfd none 0 0 none 0 0) :: fb g1 27 (tfd A t.ls.length a (some ⟨bb, oo, none⟩) t.ps.length b) :: rowR 36 97 A' t.ls.length a' (t.ls.map Lf.fds) :: rowR 96 66 A3 (j + 1) c3 ((X ++ [(p, C', c')]).map xrow) :: L) _ := hM.sub
        refine ⟨⟨j + 1, A3, c3, X ++ [(p, C', c')], rfl, by omega, ?_, hM.addk.same⟩, by simp only; omega⟩
        rw [List.map_append, hX, List.take_succ_eq_append_getElem hlt', hpe]
        rfl
    · intro hge2
      obtain rfl : j = t.ps.length := by omega
      rw [List.take_length] at hX
      ((with_reducible (refine mif_false ?_; refine mm_ld hM ?_; refine mm_st hM ?_; clear hM; intro _ hM; refine rm_ld hM ?_)))
      exact ⟨_, rfl, _, _, _, _, _, rfl, hX, hM.sub⟩
theorem rput_ok (l : List Int) (x : Int) (hl : l.length ≤ 1000) (hs : Sl H 1 A (ints8 l)) (hf : Fz H w) :
    Calls Try.prog 73 #[.slice A l.length a, .int .i64 x] w fun en w' => ∃ v, en = .returned v ∧ ∃ A' a', v = .slice A' (putL l x).length a' ∧ Mem H w [rowR 3 1 A' (putL l x).length a' (ints8 (putL l x))] w' := by
  have hM := Mem.start hf
  refine C_bevyref08_put ?_
  unfold F_bevyref08_put
  have h0 : Mem H w [rowR 3 1 none 0 0 (ints8 [])] _ := hM.row0 3 1
  refine ⟨fun v u y w' => ∃ (i : Nat) (d : Bool) (o : List Int) (C : Option Addr) (c : Nat), v = .slice C o.length c ∧ u = .bool d ∧ y = .int .i64 i ∧ i ≤ l.length ∧ o.length ≤ i + d.toNat ∧ putL l x = o ++ putD (l.drop i) x d ∧ Mem H w [rowR 3 1 C o.length c (ints8 o)] w', fun _ _ y _ => match y with | .int _ k => l.length - k.toNat | _ => 0, ⟨0, false, [], none, 0, rfl, rfl, rfl, by omega, by simp, rfl, h0⟩, ?_⟩
  clear hM h0
  rintro v u y u2 w2 ⟨i, d, o, C, c, rfl, rfl, rfl, hi, ho, he, hM⟩
  have hd1 : d.toNat ≤ 1 := Bool.toNat_le d
  ((with_reducible (refine mop_c trivial ?_)))
  ((with_reducible (refine mop_cS trivial ?_ ?_)))
  · intro hlt
    have hlt' : i < l.length := by omega
    have e1 := ints8_at (l := l) (i := i) hlt'
    have hdr : l.drop i = l[i] :: l.drop (i + 1) := List.drop_eq_getElem_cons hlt'
    ((with_reducible (refine mif_true ?_)))
    refine ⟨fun v u w' => ∃ (d' : Bool) (o' : List Int) (C' : Option Addr) (c' : Nat), v = .slice C' o'.length c' ∧ u = .bool d' ∧ o'.length ≤ i + d'.toNat ∧ putL l x = o' ++ l[i] :: putD (l.drop (i + 1)) x d' ∧ Mem H w [rowR 3 1 C' o'.length c' (ints8 o')] w', ?_, ?_⟩
    · skip
      refine ⟨fun v w' => v = .bool (!d && decide (x < l[i])) ∧ hM.now w', ?_, ?_⟩
      · ((with_reducible (refine mop_c trivial ?_)))
        cases d
        · rw [Bool.not_false]
          ((with_reducible (refine mguard_yes ?_; refine mop_c trivial ?_; refine mguard_yes ?_; refine mop_c trivial ?_; refine mguard_yes ?_)); (with_reducible refine mm_ixs ‹_› ?_ ?_ ?_); (focus (simp only [List.length_map]; omega)); (focus (simp only [List.length_map]; first | done | omega)); (with_reducible (intro _ _ hA)); (cases hA); (with_reducible (refine mguard_yes ?_)); (with_reducible refine mm_lds0 hM ‹_› (map_atI ?_) ?_); (focus omega); (with_reducible (refine mguard_yes ?_; refine mop_c trivial ?_; refine mguard_yes ?_)))
          ((with_reducible (refine mop_cS trivial ?_ ?_)))
          · intro h
            ((with_reducible (refine mop_c trivial ?_)))
            exact ⟨by rw [decide_eq_true (show x < l[i] by omega)]; rfl, hM⟩
          · intro h
            ((with_reducible (refine mop_c trivial ?_)))
            exact ⟨by rw [decide_eq_false (show ¬ x < l[i] by omega)]; rfl, hM⟩
        · rw [Bool.not_true]
          ((with_reducible ((iterate 6 refine mguard_n2 ?_); refine mop_c trivial ?_)))
          exact ⟨rfl, hM⟩
      rintro v u3 w3 ⟨rfl, hM⟩
      rw [hdr] at he
      by_cases hc : d = false ∧ x < l[i]
      · obtain ⟨rfl, hx⟩ := hc
        rw [Bool.not_false, Bool.true_and, decide_eq_true hx]
        ((with_reducible (refine mif_true ?_; refine mm_bsl hM ?_ ?_ ?_)); (focus rfl); (focus (constructor <;> simp)); (with_reducible (clear hM; intro _ _ hM; refine mm_appo hM ?_ ?_)); (focus omega); (with_reducible (clear hM; intro _ _ _ hM)))
        rename_i A3 c3 _
        have e : ints8 o ++ [[.one (.int .i64 x)]] = ints8 (o ++ [x]) := by rw [ints8_app]; rfl
        rw [e] at hM
        have hl3 : o.length + 1 = (o ++ [x]).length := by simp
        rw [hl3] at hM ⊢
        refine ⟨true, o ++ [x], A3, c3, rfl, rfl, by simp at ho ⊢; omega, ?_, hM.sub⟩
        rw [he]
        unfold putD
        rw [if_neg (by simp), putL_cons, if_neg (by omega)]
        simp
      · have hb : (!d && decide (x < l[i])) = false := by
          cases d
          · rw [Bool.not_false, Bool.true_and, decide_eq_false (fun h => hc ⟨rfl, h⟩)]
          · rfl
        rw [hb]
        ((with_reducible (refine mif_false ?_)))
        refine ⟨d, o, C, c, rfl, rfl, by omega, ?_, hM⟩
        rw [he]
        congr 1
        cases d
        · unfold putD
          rw [if_neg (by simp), if_neg (by simp), putL_cons, if_pos (by have : ¬ x < l[i] := fun h => hc ⟨rfl, h⟩; omega)]
        · rfl
    · clear hM
      rintro v u u4 w4 ⟨d', o', C', c', rfl, rfl, ho', he', hM⟩
      have hd2 : d'.toNat ≤ 1 := Bool.toNat_le d'
      ((with_reducible refine mm_ixs ‹_› ?_ ?_ ?_); (focus (simp only [List.length_map]; omega)); (focus (simp only [List.length_map]; first | done | omega)); (with_reducible (intro _ _ hA)); (cases hA); (with_reducible refine mm_lds0 hM ‹_› (map_atI ?_) ?_); (focus omega); (with_reducible (refine mm_bsl hM ?_ ?_ ?_)); (focus rfl); (focus (constructor <;> simp)); (with_reducible (clear hM; intro _ _ hM; refine mm_appo hM ?_ ?_)); (focus omega); (with_reducible (clear hM; intro _ _ _ hM; refine mop_c ?_ ?_)); (focus omega))
      rename_i A3 c3 _
      have e : ints8 o' ++ [[.one (.int .i64 l[i])]] = ints8 (o' ++ [l[i]]) := by rw [ints8_app]; rfl
      rw [e] at hM
      have hl3 : o'.length + 1 = (o' ++ [l[i]]).length := by simp
      rw [hl3] at hM ⊢
      exact ⟨⟨i + 1, d', o' ++ [l[i]], A3, c3, rfl, rfl, rfl, by omega, by simp; omega, by rw [he']; simp, hM.sub⟩, by simp only; omega⟩
  · intro hge
    obtain rfl : i = l.length := by omega
    rw [List.drop_length] at he
    ((with_reducible (refine mif_false ?_)))
    refine ⟨fun v w' => ∃ A' a', v = .slice A' (putL l x).length a' ∧ Mem H w [rowR 3 1 A' (putL l x).length a' (ints8 (putL l x))] w', ?_, ?_⟩
    · ((with_reducible (refine mop_c trivial ?_)))
      cases d
      · rw [Bool.not_false]
        ((with_reducible (refine mif_true ?_; refine mm_bsl hM ?_ ?_ ?_)); (focus rfl); (focus (constructor <;> simp)); (with_reducible (clear hM; intro _ _ hM; refine mm_appo hM ?_ ?_)); (focus omega); (with_reducible (clear hM; intro _ _ _ hM)))
        rename_i A3 c3 _
        have e : ints8 o ++ [[.one (.int .i64 x)]] = ints8 (o ++ [x]) := by rw [ints8_app]; rfl
        have e2 : putL l x = o ++ [x] := he
        rw [e] at hM
        rw [e2]
        have hl3 : o.length + 1 = (o ++ [x]).length := by simp
        rw [hl3] at hM ⊢
        exact ⟨A3, c3, rfl, hM.sub⟩
      · rw [Bool.not_true]
        ((with_reducible (refine mif_false ?_)))
        have e2 : putL l x = o := by rw [he]; simp [putD]
        rw [e2]
        exact ⟨C, c, rfl, hM⟩
    · clear hM
      rintro v u4 w4 ⟨A', a', rfl, hM⟩
      exact ⟨_, rfl, A', a', rfl, hM⟩
end
end Go.Proofs.Ytopcnkejobomaaa
/- The document's trees: a leaf put in, taken out, another key. -/
namespace Go.Proofs.Ytopcnkejobomaaa
open Go.RowKit Go.Lib

theorem Mem.weak {H H' : Hp} {w0 w : World} {L : List Res} (h : Mem H' w0 L w) (hl : H.le H') : Mem H w0 L w := by
  obtain ⟨B, h1, h2, h3⟩ := h.own
  refine ⟨⟨B, h1, h2, fun b hm => ⟨(h3 b hm).1, ?_⟩⟩, h.fz.mono hl⟩
  cases hh : H b.g with
  | none => rfl
  | some c =>
    have := hl _ _ hh
    rw [(h3 b hm).2] at this
    cases this
theorem set_take_drop {α β : Type} {f : α → β} {Z : List α} {G P : List β} {i : Nat} {y : α} (hZ : Z.map f = G.take i ++ P.drop i) (hG : G.length = P.length) (hi : i < P.length) (hy : f y = G[i]) : (Z.set i y).map f = G.take (i + 1) ++ P.drop (i + 1) := by
  rw [List.map_set, hZ, hy]
  refine List.ext_getElem (by simp; omega) fun j h1 h2 => ?_
  simp only [List.getElem_set, List.getElem_append, List.length_take, List.getElem_take, List.getElem_drop]
  by_cases e : i = j
  · subst e
    simp
    omega
  · by_cases h : j < i
    · have h3 : j < min i G.length := by omega
      have h4 : j < min (i + 1) G.length := by omega
      simp [e, h3, h4]
    · have h3 : ¬ j < min i G.length := by omega
      have h4 : ¬ j < min (i + 1) G.length := by omega
      simp only [e, if_false, h3, dif_neg, not_false_eq_true, h4]
      congr 1
      omega
theorem take_drop_get {α β : Type} {f : α → β} {Z : List α} {G P : List β} {i : Nat} (hZ : Z.map f = G.take i ++ P.drop i) (hG : G.length = P.length) (hi : i < P.length) (hz : i < Z.length) : f Z[i] = P[i] := by
  have h1 : (Z.map f)[i]? = some (f Z[i]) := by rw [List.getElem?_map, List.getElem?_eq_getElem hz]; rfl
  rw [hZ, List.getElem?_append_right (by simp; omega)] at h1
  have h2 : min i G.length = i := by omega
  rw [List.length_take, h2, Nat.sub_self, List.getElem?_drop, Nat.add_zero, List.getElem?_eq_getElem hi] at h1
  exact (Option.some.inj h1).symm
def slenW (w : World) (a : Addr) : Nat := match w.cell? a with
  | some (.slice _ n _) => n
  | _ => 0
theorem slenW_eq {w : World} {a : Addr} {A : Option Addr} {n c : Nat} (h : w.cell? a = some (.slice A n c)) : slenW w a = n := by unfold slenW; rw [h]
section
variable {H : Hp} {w0 w : World} {L R : List Res} {A B C : Option Addr} {a b c n : Nat} {t : Tr} {qs ps : List (List Fd)}
theorem rblank_ok {p : Int} (hR : t.Rt) (h1 : Sl H 97 A (t.ls.map Lf.fds)) (h2 : Sl H 66 B qs) (h3 : All2 (PnF H) qs t.ps) (hM : Mem H w0 L w) :
    Calls Try.prog 74 #[tv A t.ls.length a B t.ps.length b, .int .i64 p] w fun en w' => ∃ v, en = .returned v ∧ ∃ A' a' B' b' X, v = tv A' t.ls.length a' B' t.ps.length b' ∧ X.map (·.1) = blankR t.size p t.ps ∧
      Mem H w0 (rowR 36 97 A' t.ls.length a' (t.ls.map Lf.fds) :: rowR 96 66 B' t.ps.length b' (X.map xrow) :: allR X :: L) w' := by
  have hlen := hR.len
  refine C_bevyref08_blank ?_
  unfold F_bevyref08_blank
  ((with_reducible (refine mm_box hM ?_; clear hM; intro _ _ hM; refine mm_new hM ?_; clear hM; intro _ _ hM; refine mm_ld hM ?_)))
  rename_i g1 _ g2 _
  refine mm_own (rcopy_ok h1 h2 h3 (by omega) (by omega) (fun p hp => by have := (hR.loose p hp).1; omega) hM) ?_
  rintro v w' ⟨A', a', B', b', X, rfl, hX, hM⟩
  ((with_reducible (refine mm_st hM ?_; clear hM; intro _ hM)))
  have hbl : (blankR t.size p t.ps).length = t.ps.length := by unfold blankR; simp
  refine ⟨fun v w' => ∃ (i : Nat) (Z : List Xp), v = .int .i64 i ∧ i ≤ t.ps.length ∧ Z.length = t.ps.length ∧ Z.map (·.1) = (blankR t.size p t.ps).take i ++ t.ps.drop i ∧ Mem H w0 (fb g1 27 (tfd A' t.ls.length a' B' t.ps.length b') :: fb g2 27 (tfd none 0 0 none 0 0) :: rowR 36 97 A' t.ls.length a' (t.ls.map Lf.fds) :: rowR 96 66 B' t.ps.length b' (Z.map xrow) :: allR Z :: L) w', fun v _ => match v with | .int _ k => t.ps.length - k.toNat | _ => 0, ⟨0, X, rfl, by omega, by rw [← hX, List.length_map], by simpa using hX, hM.same⟩, ?_⟩
  clear hM
  rintro v u w3 ⟨i, Z, rfl, hi, hZl, hZ, hM⟩
  ((with_reducible (refine mop_c trivial ?_; refine mm_ld hM ?_; refine mop_c trivial ?_)))
  ((with_reducible (refine mop_cS trivial ?_ ?_)))
  · intro hlt
    have hlt' : i < t.ps.length := by omega
    have hget : (blankR t.size p t.ps)[i]'(by omega) = if hld t.size (2 * i + 1) p then Pn.zero else t.ps[i] := by
      unfold blankR
      rw [List.getElem_mapIdx]
    ((with_reducible (refine mif_true ?_)))
    refine ⟨fun w' => ∃ (Z' : List Xp), Z'.length = t.ps.length ∧ Z'.map (·.1) = (blankR t.size p t.ps).take (i + 1) ++ t.ps.drop (i + 1) ∧ Mem H w0 (fb g1 27 (tfd A' t.ls.length a' B' t.ps.length b') :: fb g2 27 (tfd none 0 0 none 0 0) :: rowR 36 97 A' t.ls.length a' (t.ls.map Lf.fds) :: rowR 96 66 B' t.ps.length b' (Z'.map xrow) :: allR Z' :: L) w', ?_, ?_⟩
    · ((with_reducible (refine mop_c trivial ?_; refine mm_ld hM ?_; refine mop_c trivial ?_; refine mop_c ?_ ?_)); (focus omega); (with_reducible (refine mop_c ?_ ?_)); (focus omega); (with_reducible (refine mm_purC hM ?_ ?_)); (focus (first | exact trivial | assumption | omega)); (with_reducible (clear hM; intro _ hM)))
      show mif (.bool (decide (hld t.size (2 * i + 1) p))) _ _
      by_cases hh : hld t.size (2 * i + 1) p
      · rw [if_pos hh] at hget
        rw [decide_eq_true hh]
        ((with_reducible (refine mif_true ?_; refine mop_c trivial ?_; refine mm_ld hM ?_; refine mop_c trivial ?_; refine mm_ixr hM ?_ ?_)); (focus omega); (with_reducible (intro _ hA)); (cases hA); (with_reducible (refine mm_str hM ?_ ?_)); (focus omega); (with_reducible (clear hM; intro _ hM)))
        rw [← xrow0, Int.toNat_natCast, ← List.map_set] at hM
        have hM := (hM.at_ (allR Z)).blankk (j := i) (by omega)
        exact ⟨Z.set i x0, by simpa using hZl, set_take_drop hZ hbl hlt' hget.symm, hM.same⟩
      · rw [if_neg hh] at hget
        rw [decide_eq_false hh]
        ((with_reducible (refine mif_false ?_)))
        refine ⟨Z, hZl, ?_, hM⟩
        rw [hZ, List.take_succ_eq_append_getElem (by omega), hget, List.append_assoc, List.drop_eq_getElem_cons hlt']
        rfl
    · clear hM
      rintro u4 w4 ⟨Z', hZl', hZ', hM⟩
      ((with_reducible (refine mop_c ?_ ?_)); (focus omega))
      exact ⟨⟨i + 1, Z', rfl, by omega, hZl', hZ', hM⟩, by simp only; omega⟩
  · intro hge
    obtain rfl : i = t.ps.length := by omega
    rw [List.drop_length, List.append_nil, List.take_of_length_le (by omega)] at hZ
    ((with_reducible (refine mif_false ?_; refine mm_ld hM ?_; refine mm_st hM ?_; clear hM; intro _ hM; refine rm_ld hM ?_)))
    exact ⟨_, rfl, _, _, _, _, _, rfl, hZ, hM.sub⟩
theorem Tr.Rt.blankR_loose {t : Tr} (h : t.Rt) {p : Int} : ∀ q ∈ blankR t.size p t.ps, q.loose.length ≤ 64 := fun q hq => by
  unfold blankR at hq
  obtain ⟨i, hi, rfl⟩ := List.getElem_of_mem hq
  rw [List.getElem_mapIdx]
  split
  · simp [Pn.zero]
  · exact (h.loose _ (List.getElem_mem _)).1
theorem rrenew_q {Q : Hp → Value → Prop} (p : Int) (pub : H32) (hq : ∀ H' v1 r, t.renR p pub = r → TrF H' v1 r.1 → Q H' (.tuple #[v1, .int .i64 r.2])) (hR : t.Rt) (h1 : Sl H 97 A (t.ls.map Lf.fds)) (h2 : Sl H 66 B qs) (h3 : All2 (PnF H) qs t.ps) (hf : Fz H w) :
    Calls Try.prog 32 #[tv A t.ls.length a B t.ps.length b, .int .i64 p, ha pub] w (Outp H w Q) := by
  obtain ⟨w1, hw1⟩ : ∃ w1, w1 = w := ⟨_, rfl⟩
  rw [← hw1]
  rw [← hw1] at hf
  have hM := Mem.start hf
  have hlen := hR.len
  refine C_bevyref08_Renew ?_
  unfold F_bevyref08_Renew
  unfold Tr.renR at hq
  ((with_reducible (refine mm_box hM ?_; clear hM; intro _ _ hM; refine mm_box hM ?_; clear hM; intro _ _ hM; refine mm_new hM ?_; clear hM; intro _ _ hM; refine mm_ld hM ?_)))
  rename_i g1 _ g5 _ g2 _
  refine mm_pure hM (rnone_ok p h1 (by simp only [maxLen]; omega) hM.fz) (fun w hM => ?_)
  by_cases hn : t.nobody p
  · rw [if_pos hn] at hq
    rw [decide_eq_true hn]
    ((with_reducible (refine mif_true ?_; refine mop_c trivial ?_; refine mm_st hM ?_; clear hM; intro _ hM; refine rm_ld hM ?_)))
    exact hM.out (Le.refl _ _) (hq _ _ _ rfl (trF_none H))
  rw [if_neg hn] at hq
  rw [decide_eq_false hn]
  obtain ⟨hb0, hb1, hb2⟩ := Tr.body hn
  ((with_reducible (refine mif_false ?_; refine mm_ld hM ?_)))
  refine mm_own (rblank_ok (p := p) hR h1 h2 h3 hM) ?_
  rintro v w' ⟨A', a', B', b', X, rfl, hX, hM⟩
  have hXl : X.length = t.ps.length := by have := congrArg List.length hX; simpa [blankR] using this
  obtain ⟨g4, rfl⟩ := hM.rowAt ⟨.refl _⟩ (by omega)
  obtain ⟨l0, hl0⟩ : ∃ l0, t.ls[p.toNat] = l0 := ⟨_, rfl⟩
  have hk0 : (t.ls.map Lf.fds)[p.toNat]? = some l0.fds := by rw [← hl0]; exact map_at hb1
  ((with_reducible (refine mm_st hM ?_; clear hM; intro _ hM; refine mop_c trivial ?_; refine mm_ld hM ?_; refine mm_ld hM ?_; refine mm_ixr hM ?_ ?_)); (focus omega); (with_reducible (intro _ hA)); (cases hA); (with_reducible (refine mop_c trivial ?_)))
  refine mm_stf hM hk0 (fun w' hM => ?_)
  have hz : [Fd.one (.int .i64 l0.name), .arr 32 (u8s pub.1), .arr 32 (u8s l0.ver.1), .arr 32 (u8s l0.abv.1)] = (l0.key pub l0.abv).fds := rfl
  rw [hz] at hM
  have hk1 : ((t.ls.map Lf.fds).set p.toNat (l0.key pub l0.abv).fds)[p.toNat]? = some (l0.key pub l0.abv).fds := by
    rw [List.getElem?_set_self (by simpa using hb1)]
  ((with_reducible (refine mop_c trivial ?_; refine mm_ld hM ?_; refine mop_c trivial ?_; refine mm_ixr hM ?_ ?_)); (focus omega); (with_reducible (intro _ hA)); (cases hA); (with_reducible (refine mop_c trivial ?_)))
  refine mm_stf hM hk1 (fun w' hM => ?_)
  have hz3 : [Fd.one (.int .i64 (l0.key pub l0.abv).name), .arr 32 (u8s (l0.key pub l0.abv).pub.1), .arr 32 (u8s (l0.key pub l0.abv).ver.1), .arr 32 (u8s hzero.1)] = (l0.key pub hzero).fds := rfl
  rw [hz3, List.set_set, ← List.map_set] at hM
  have hmod : t.ls.set p.toNat (l0.key pub hzero) = t.ls.modify p.toNat (·.key pub hzero) := by
    refine List.ext_getElem (by simp) fun i k1 k2 => ?_
    simp only [List.getElem_modify, List.getElem_set]
    split
    · rename_i e
      subst e
      rw [hl0]
    · rfl
  rw [hmod] at hM
  have hsl : (t.ls.modify p.toNat (·.key pub hzero)).length = t.ls.length := List.length_modify ..
  obtain ⟨ls2, hls⟩ : ∃ ls2, t.ls.modify p.toNat (·.key pub hzero) = ls2 := ⟨_, rfl⟩
  rw [hls] at hM hsl hq
  rw [← hsl, ← hXl] at hM
  ((with_reducible (refine mm_ld hM ?_; refine mm_st hM ?_; clear hM; intro _ hM; refine rm_ld hM ?_)))
  have hM : Mem H w1 [rowR 36 97 (some ⟨g4, 0, none⟩) ls2.length a' (ls2.map Lf.fds), rowR 96 66 B' X.length b' (X.map xrow), allR X] _ := hM.sub
  obtain ⟨H4, l4, hM, hT⟩ := hM.frzT (fun x hx => by
    have hm : x.1 ∈ blankR t.size p t.ps := hX ▸ List.mem_map_of_mem hx
    have := hR.blankR_loose _ hm
    simp only [maxLen]
    omega)
  refine hM.out l4 (hq _ _ _ rfl ?_)
  rw [hX] at hT
  exact hT
theorem rremove_q {Q : Hp → Value → Prop} (p : Int) (hq : ∀ H' v1 r, t.remR p = r → TrF H' v1 r.1 → Q H' (.tuple #[v1, .int .i64 r.2])) (hR : t.Rt) (h1 : Sl H 97 A (t.ls.map Lf.fds)) (h2 : Sl H 66 B qs) (h3 : All2 (PnF H) qs t.ps) (hf : Fz H w) :
    Calls Try.prog 33 #[tv A t.ls.length a B t.ps.length b, .int .i64 p] w (Outp H w Q) := by
  obtain ⟨w1, hw1⟩ : ∃ w1, w1 = w := ⟨_, rfl⟩
  rw [← hw1]
  rw [← hw1] at hf
  have hM := Mem.start hf
  have hlen := hR.len
  refine C_bevyref08_Remove ?_
  unfold F_bevyref08_Remove
  unfold Tr.remR at hq
  ((with_reducible (refine mm_box hM ?_; clear hM; intro _ _ hM; refine mm_new hM ?_; clear hM; intro _ _ hM; refine mm_ld hM ?_)))
  rename_i g1 _ g2 _
  refine mm_pure hM (rnone_ok p h1 (by simp only [maxLen]; omega) hM.fz) (fun w hM => ?_)
  by_cases hn : t.nobody p
  · rw [if_pos hn] at hq
    rw [decide_eq_true hn]
    ((with_reducible (refine mif_true ?_; refine mop_c trivial ?_; refine mm_st hM ?_; clear hM; intro _ hM; refine rm_ld hM ?_)))
    exact hM.out (Le.refl _ _) (hq _ _ _ rfl (trF_none H))
  rw [if_neg hn] at hq
  rw [decide_eq_false hn]
  obtain ⟨hb0, hb1, hb2⟩ := Tr.body hn
  ((with_reducible (refine mif_false ?_; refine mm_ld hM ?_)))
  refine mm_own (rblank_ok (p := p) hR h1 h2 h3 hM) ?_
  rintro v w' ⟨A', a', B', b', X, rfl, hX, hM⟩
  have hXl : X.length = t.ps.length := by have := congrArg List.length hX; simpa [blankR] using this
  obtain ⟨g4, rfl⟩ := hM.rowAt ⟨.refl _⟩ (by omega)
  ((with_reducible (refine mm_st hM ?_; clear hM; intro _ hM; refine mop_c trivial ?_; refine mm_ld hM ?_; refine mop_c trivial ?_; refine mm_ixr hM ?_ ?_)); (focus omega); (with_reducible (intro _ hA)); (cases hA); (with_reducible (refine mm_str hM ?_ ?_)); (focus omega); (with_reducible (clear hM; intro _ hM)))
  have hz : [Fd.one (.int .i64 0), .arr 32 (u8s hzero.1), .arr 32 (u8s hzero.1), .arr 32 (u8s hzero.1)] = Lf.zero.fds := rfl
  rw [hz, ← List.map_set] at hM
  have hsl : (t.ls.set p.toNat Lf.zero).length = t.ls.length := List.length_set
  obtain ⟨ls2, hls⟩ : ∃ ls2, t.ls.set p.toNat Lf.zero = ls2 := ⟨_, rfl⟩
  rw [hls] at hM hsl hq
  rw [← hsl, ← hXl] at hM
  have hM : Mem H w1 [fb g1 27 (tfd (some ⟨g4, 0, none⟩) ls2.length a' B' X.length b'), fb g2 27 (tfd none 0 0 none 0 0), rowR 36 97 (some ⟨g4, 0, none⟩) ls2.length a' (ls2.map Lf.fds), rowR 96 66 B' X.length b' (X.map xrow), allR X] _ := hM.sub
  refine ⟨fun w' => (∃ i, i ≤ ls2.length ∧ keepN ls2 ls2.length = keepN ls2 i ∧ Mem H w1 [fb g1 27 (tfd (some ⟨g4, 0, none⟩) i a' B' (i - 1) b'), fb g2 27 (tfd none 0 0 none 0 0), rowR 36 97 (some ⟨g4, 0, none⟩) i a' ((ls2.take i).map Lf.fds), rowR 96 66 B' (i - 1) b' ((X.take (i - 1)).map xrow), allR (X.take (i - 1))] w'), fun w' => slenW w' ⟨g1, 0, none⟩, ⟨ls2.length, by omega, rfl, ?_⟩, ?_⟩
  · rw [List.take_length, show ls2.length - 1 = X.length by omega, List.take_length]
    exact hM
  clear hM
  rintro u w3 ⟨i, hi, hk, hM⟩
  have hold : slenW w3 ⟨g1, 0, none⟩ = i := slenW_eq (((hM.upB g1).blf ⟨⟨_, .refl _, fun _ => .refl _⟩⟩).1.cell 0)
  obtain ⟨-, ca1, -, -⟩ := (hM.up (some ⟨g4, 0, none⟩)).rowLen ⟨.refl _⟩
  obtain ⟨-, cb1, -, -⟩ := (hM.up B').rowLen ⟨.refl _⟩
  have e1 : (ls2.take i).length = i := by rw [List.length_take]; omega
  have e2 : (X.take (i - 1)).length = i - 1 := by rw [List.length_take]; omega
  have hfin : keepN ls2 i = i → ∀ w3, Mem H w1 [rowR 36 97 (some ⟨g4, 0, none⟩) i a' ((ls2.take i).map Lf.fds), rowR 96 66 B' (i - 1) b' ((X.take (i - 1)).map xrow), allR (X.take (i - 1))] w3 → Outp H w1 Q (.returned (.tuple #[.agg (fl (tfd (some ⟨g4, 0, none⟩) i a' B' (i - 1) b')).toArray, .int .i64 0])) w3 := fun hi2 w3 hM => by
    rw [hi2] at hk
    have hM : Mem H w1 [rowR 36 97 (some ⟨g4, 0, none⟩) (ls2.take i).length a' ((ls2.take i).map Lf.fds), rowR 96 66 B' (X.take (i - 1)).length b' ((X.take (i - 1)).map xrow), allR (X.take (i - 1))] w3 := by
      rw [e1, e2]
      exact hM
    obtain ⟨H4, l4, hM, hT⟩ := hM.frzT (fun x hx => by
      have hm : x.1 ∈ blankR t.size p t.ps := hX ▸ List.mem_map_of_mem (List.mem_of_mem_take hx)
      have := hR.blankR_loose _ hm
      simp only [maxLen]
      omega)
    rw [e1, e2] at hT
    refine hM.out l4 (hq _ _ _ rfl ?_)
    show TrF H4 _ (cut ls2 (blankR t.size p t.ps))
    unfold cut
    rw [hk]
    rw [List.map_take, hX] at hT
    exact hT
  refine ⟨fun w' => (0 < i ∧ keepN ls2 i = keepN ls2 (i - 1)) ∧ w' = w3, ?_, ?_⟩
  · ((with_reducible (refine mop_c trivial ?_; refine mm_ld hM ?_; refine mop_c trivial ?_)))
    ((with_reducible (refine mop_cS trivial ?_ ?_)))
    · intro hpos
      have hix : ((i : Int) - 1).toNat < (ls2.take i).length := by omega
      have hix2 : ((i : Int) - 1).toNat < ls2.length := by omega
      have hna := nameAt_at (ls := ls2) (p := (i : Int) - 1) (by omega) hix2
      have hk0 : ((ls2.take i).map Lf.fds)[((i : Int) - 1).toNat]? = some (ls2[((i : Int) - 1).toNat]).fds := by
        rw [map_at hix, List.getElem_take]
      ((with_reducible (refine mguard_yes ?_; refine mop_c trivial ?_; refine mguard_yes ?_; refine mm_ld hM ?_; refine mguard_yes ?_; refine mop_c trivial ?_; refine mguard_yes ?_; refine mm_ld hM ?_; refine mguard_yes ?_; refine mop_c trivial ?_; refine mguard_yes ?_; refine mop_c ?_ ?_)); (focus omega); (with_reducible (refine mguard_yes ?_; refine mm_ixr hM ?_ ?_)); (focus omega); (with_reducible (intro _ hA)); (cases hA); (with_reducible (refine mguard_yes ?_; refine mop_c trivial ?_; refine mguard_yes ?_; refine mm_ldr hM (map_at ?_) ?_)); (focus omega); (with_reducible (refine mguard_yes ?_)))
      rw [List.getElem_take, ← hna]
      have hkn : keepN ls2 i = if nameAt ls2 ((i : Int) - 1) = 0 then keepN ls2 (i - 1) else i := by
        cases i with
        | zero => omega
        | succ i =>
          rw [keepN]
          simp
      ((with_reducible (refine mop_cS trivial ?_ ?_)))
      · intro h0
        ((with_reducible (refine mop_c trivial ?_; refine mif_true ?_)))
        exact ⟨⟨by omega, by rw [hkn, if_pos h0]⟩, rfl⟩
      · intro h0
        rw [if_neg h0] at hkn
        ((with_reducible (refine mop_c trivial ?_; refine mif_false ?_; refine mm_ld hM ?_; refine mm_st hM ?_; clear hM; intro _ hM; refine rm_ld hM ?_)))
        exact hfin hkn _ hM.sub
    · intro hz
      ((with_reducible ((iterate 10 refine mguard_n2 ?_); refine mop_c trivial ?_; refine mif_false ?_; refine mm_ld hM ?_; refine mm_st hM ?_; clear hM; intro _ hM; refine rm_ld hM ?_)))
      obtain rfl : i = 0 := by omega
      exact hfin rfl _ hM.sub
  · rintro u7 w7 ⟨⟨hpos, hk2⟩, rfl⟩
    ((with_reducible (refine mop_c trivial ?_; refine mm_ld hM ?_; refine mop_c trivial ?_; refine mm_ld hM ?_; refine mop_c trivial ?_; refine mop_c ?_ ?_)); (focus omega); (with_reducible (refine mop_c ?_ ?_)); (focus omega); (with_reducible (refine mop_c trivial ?_; refine mm_st hM ?_; clear hM; intro _ hM; refine mop_c trivial ?_; refine mm_ld hM ?_; refine mop_c trivial ?_)))
    ((with_reducible (refine mop_cS trivial ?_ ?_)))
    · intro hp2
      ((with_reducible (refine mif_true ?_; refine mop_c trivial ?_; refine mm_ld hM ?_; refine mop_c trivial ?_; refine mm_ld hM ?_; refine mop_c trivial ?_; refine mop_c ?_ ?_)); (focus omega); (with_reducible (refine mop_c ?_ ?_)); (focus omega); (with_reducible (refine mop_c trivial ?_; refine mm_st hM ?_; clear hM; intro _ hM)))
      rw [show ((i : Int) - 1).toNat = i - 1 by omega, show (((i - 1 : Nat) : Int) - 1).toNat = i - 1 - 1 by omega] at hM
      have hnew := slenW_eq (((hM.upB g1).blf ⟨⟨_, .refl _, fun _ => .refl _⟩⟩).1.cell 0)
      have hM := (hM.up (some ⟨g4, 0, none⟩)).short (k := i - 1) (by omega)
      have hM := (hM.up B').short (k := i - 1 - 1) (by omega)
      have hM := (hM.at_ (allR (X.take (i - 1)))).dropk (i - 1 - 1)
      rw [← List.map_take, ← List.map_take, List.take_take, List.take_take, show min (i - 1) i = i - 1 by omega, show min (i - 1 - 1) (i - 1) = i - 1 - 1 by omega] at hM
      refine ⟨⟨i - 1, by omega, by rw [hk, hk2], hM.same⟩, ?_⟩
      show slenW _ _ < slenW _ _
      rw [hnew, hold]
      omega
    · intro hp2
      ((with_reducible (refine mif_false ?_)))
      rw [show ((i : Int) - 1).toNat = i - 1 by omega] at hM
      have hnew := slenW_eq (((hM.upB g1).blf ⟨⟨_, .refl _, fun _ => .refl _⟩⟩).1.cell 0)
      have hM := (hM.up (some ⟨g4, 0, none⟩)).short (k := i - 1) (by omega)
      have hM := (hM.up B').short (k := i - 1) (by omega)
      have hM := (hM.at_ (allR (X.take (i - 1)))).dropk (i - 1 - 1)
      have e9 : i - 1 - 1 = i - 1 := by omega
      rw [← List.map_take, ← List.map_take, List.take_take, List.take_take, List.take_take, e9, Nat.min_self, show min (i - 1) i = i - 1 by omega] at hM
      refine ⟨⟨i - 1, by omega, by rw [hk, hk2], ?_⟩, ?_⟩
      · rw [e9]
        exact hM.same
      show slenW _ _ < slenW _ _
      rw [hnew, hold]
      omega
end
end Go.Proofs.Ytopcnkejobomaaa
/- The document's trees: a leaf put in; two trees alike; trees of a size. -/
namespace Go.Proofs.Ytopcnkejobomaaa
open Go.RowKit Go.Lib

theorem lf_eq (l m : Lf) : l = m ↔ (l.name = m.name ∧ l.pub = m.pub ∧ l.ver = m.ver ∧ l.abv = m.abv) := by
  cases l
  cases m
  simp
def addF (n x : Int) (i : Nat) (p : Pn) : Pn := if p.set = true ∧ hld n (2 * i + 1) x then { p with loose := putL p.loose x } else p
theorem addF_loose {n x : Int} {ps : List Pn} (h : ∀ p ∈ ps, p.loose.length ≤ 64) : ∀ p ∈ ps.mapIdx (addF n x), p.loose.length ≤ 65 := fun p hp => by
  obtain ⟨i, hi, rfl⟩ := List.getElem_of_mem hp
  rw [List.getElem_mapIdx]
  have := h _ (List.getElem_mem (by simpa using hi : i < ps.length))
  unfold addF
  split
  · rw [putL_len]
    omega
  · omega
def gapM (t : Tr) (l : Lf) : List Lf := if t.gap = t.ls.length then t.ls ++ [l] else t.ls
theorem gapM_set (t : Tr) (l : Lf) : (gapM t l).set t.gap l = addL t l := rfl
theorem gapM_len (t : Tr) (l : Lf) : (gapM t l).length = (addL t l).length := by
  rw [← gapM_set t l, List.length_set]
section
variable {H : Hp} {w0 w : World} {L R : List Res} {A B C : Option Addr} {a b c n : Nat} {t : Tr} {qs ps : List (List Fd)}
theorem dm_joined {P : Program} {f : Nat} {args : List Value} {ext : Bool} {K : Value → World → Prop} {R : Value → List Res → Prop} (h : Mem H w0 L w) [hf : FunC P f] (hc : ∀ w, Mem H w0 L w → Calls P f args.toArray w fun en w' => ∃ v L', en = .returned v ∧ R v L' ∧ Mem H w L' w') (hk : ∀ v L' w', Ext w w' → R v L' → Mem H w0 (L' ++ L) w' → K v w') : df P w (o_call (fv f) args) ext K :=
  dm_ownE (Q := fun v w' => ∃ L', R v L' ∧ Mem H w0 (L' ++ L) w') h (fun w h => (hc w h).mono fun en w' ⟨v, L', he, hr, hm⟩ => ⟨v, he, hm.ext, L', hr, h.join hm fun _ _ h => h⟩) fun v w' hx ⟨L', hr, hm⟩ => hk v L' w' hx hr hm
theorem radd_q {Q : Hp → Value → Prop} (l : Lf) (hq : ∀ H' v1 r, t.addR l = r → TrF H' v1 r.1 → Q H' (.tuple #[v1, .int .i64 r.2.1, .int .i64 r.2.2])) (hR : t.Rt) (h1 : Sl H 97 A (t.ls.map Lf.fds)) (h2 : Sl H 66 B qs) (h3 : All2 (PnF H) qs t.ps) (hf : Fz H w) :
    Calls Try.prog 31 #[tv A t.ls.length a B t.ps.length b, lv l] w (Outp H w Q) := by
  obtain ⟨w1, hw1⟩ : ∃ w1, w1 = w := ⟨_, rfl⟩
  rw [← hw1]
  rw [← hw1] at hf
  have hM := Mem.start hf
  have hlen := hR.len
  refine C_bevyref08_Add ?_
  unfold F_bevyref08_Add
  unfold Tr.addR at hq
  ((with_reducible (refine mm_box hM ?_; clear hM; intro _ _ hM; refine mm_box hM ?_; clear hM; intro _ _ hM; refine mm_new hM ?_; clear hM; intro _ _ hM)))
  rename_i g1 _ g2 _ g3 _
  refine ⟨fun v w' => v = .bool (decide (l.name < 1 ∨ 64 < l.name)) ∧ hM.now w', ?_, ?_⟩
  · ((with_reducible (refine mop_c trivial ?_; refine mm_ld hM ?_)))
    ((with_reducible (refine mop_cS trivial ?_ ?_)))
    · intro h
      ((with_reducible ((iterate 3 refine mguard_n1 ?_); refine mop_c trivial ?_)))
      exact ⟨by rw [decide_eq_true (.inl h)], hM⟩
    · intro h
      ((with_reducible (refine mguard_yes ?_; refine mop_c trivial ?_; refine mguard_yes ?_; refine mm_ld hM ?_; refine mguard_yes ?_)))
      ((with_reducible (refine mop_cS trivial ?_ ?_)))
      · intro h4
        ((with_reducible (refine mop_c trivial ?_)))
        exact ⟨by rw [decide_eq_true (.inr h4)], hM⟩
      · intro h4
        ((with_reducible (refine mop_c trivial ?_)))
        exact ⟨by rw [decide_eq_false (fun hh => hh.elim h h4)], hM⟩
  rintro v u2 w2 ⟨rfl, hM⟩
  by_cases hc : l.name < 1 ∨ 64 < l.name
  · rw [if_pos hc] at hq
    rw [decide_eq_true hc]
    ((with_reducible (refine mif_true ?_; refine mop_c trivial ?_; refine mm_st hM ?_; clear hM; intro _ hM; refine rm_ld hM ?_)))
    exact hM.out (Le.refl _ _) (hq _ _ _ rfl (trF_none H))
  rw [if_neg hc] at hq
  rw [decide_eq_false hc]
  ((with_reducible (refine mif_false ?_; refine mm_ld hM ?_; refine mop_c trivial ?_; refine mm_ld hM ?_)))
  refine mm_pure hM (rplace_ok l.name h1 (by simp only [maxLen]; omega) hM.fz) (fun w hM => ?_)
  ((with_reducible (refine mop_cS trivial ?_ ?_)))
  · intro h
    have h' : 0 ≤ t.place l.name := by omega
    rw [if_pos h'] at hq
    ((with_reducible (refine mif_true ?_; refine mop_c trivial ?_; refine mm_st hM ?_; clear hM; intro _ hM; refine rm_ld hM ?_)))
    exact hM.out (Le.refl _ _) (hq _ _ _ rfl (trF_none H))
  intro h
  rw [if_neg (show ¬ 0 ≤ t.place l.name by omega)] at hq
  ((with_reducible (refine mif_false ?_; refine mm_ld hM ?_)))
  refine mm_own (rcopy_ok h1 h2 h3 (by omega) (by omega) (fun p hp => by have := (hR.loose p hp).1; omega) hM) ?_
  rintro v w' ⟨A', a', B', b', X, rfl, hX, hM⟩
  have hXl : X.length = t.ps.length := by rw [← hX, List.length_map]
  ((with_reducible (refine mm_st hM ?_; clear hM; intro _ hM)))
  refine ⟨fun v w' => ∃ i : Nat, v = .int .i64 i ∧ i ≤ t.ls.length ∧ (∀ j (hj : j < t.ls.length), j < i → decide (t.ls[j].name = 0) = false) ∧ hM.now w', fun v _ => match v with | .int _ k => t.ls.length - k.toNat | _ => 0, ⟨0, rfl, by omega, fun j _ h => by omega, hM⟩, ?_⟩
  rintro v u w3 ⟨i, rfl, hi, hlo, hM⟩
  have hgl := t.gap_le
  refine ⟨fun w' => i < t.ls.length ∧ (∀ (h : i < t.ls.length), t.ls[i].name ≠ 0) ∧ hM.now w', ?_, ?_⟩
  · ((with_reducible (refine mop_c trivial ?_; refine mm_ld hM ?_; refine mop_c trivial ?_)))
    have hex : t.gap = i ∨ i < t.ls.length ∧ ∀ (h : i < t.ls.length), t.ls[i].name ≠ 0 := by
      by_cases h : i < t.ls.length
      · by_cases h0 : t.ls[i].name = 0
        · exact .inl (findIdx_at h hlo (decide_eq_true h0))
        · exact .inr ⟨h, fun _ => h0⟩
      · have : t.gap = t.ls.length := findIdx_none fun j hj => hlo j hj (by omega)
        exact .inl (by omega)
    have hgn : t.gap = i → ∀ (h : i < t.ls.length), t.ls[i].name = 0 := fun e h => by
      have := List.findIdx_getElem (p := fun l : Lf => decide (l.name = 0)) (xs := t.ls) (w := by show t.gap < _; omega)
      simp only [decide_eq_true_eq] at this
      rw [← this]
      congr 2
      exact e.symm
    by_cases hg : t.gap = i
    rotate_left
    · obtain ⟨hlt, hne⟩ := hex.resolve_left hg
      have hne' := hne hlt
      ((with_reducible (refine mop_cT trivial ?_ ?_)); (focus (first | assumption | omega | with_reducible rfl | exact fun h => Bool.noConfusion h)); (with_reducible (refine mguard_yes ?_; refine mop_c trivial ?_; refine mguard_yes ?_; refine mm_ld hM ?_; refine mguard_yes ?_; refine mop_c trivial ?_; refine mguard_yes ?_; refine mm_ixr hM ?_ ?_)); (focus omega); (with_reducible (intro _ hA)); (cases hA); (with_reducible (refine mguard_yes ?_; refine mop_c trivial ?_; refine mguard_yes ?_; refine mm_ldr hM (map_atI ?_) ?_)); (focus omega); (with_reducible (refine mguard_yes ?_; refine mop_cT trivial ?_ ?_)); (focus (first | assumption | omega | with_reducible rfl | exact fun h => Bool.noConfusion h)); (with_reducible (refine mop_c trivial ?_; refine mif_true ?_)))
      exact ⟨hlt, hne, hM⟩
    · have hgn := hgn hg
      clear hex
      rcases Nat.lt_or_ge i t.ls.length with hlt | hge
      · have hgn' := hgn hlt
        have e1 : gapM t l = t.ls := if_neg (by omega)
        have e2 : addPs t = t.ps := if_neg (by omega)
        rw [if_neg (by omega)] at hq
        obtain ⟨gA, rfl⟩ := (hM.up A').rowAt ⟨.refl _⟩ (by omega)
        ((with_reducible (refine mop_cT trivial ?_ ?_)); (focus (first | assumption | omega | with_reducible rfl | exact fun h => Bool.noConfusion h)); (with_reducible (refine mguard_yes ?_; refine mop_c trivial ?_; refine mguard_yes ?_; refine mm_ld hM ?_; refine mguard_yes ?_; refine mop_c trivial ?_; refine mguard_yes ?_; refine mm_ixr hM ?_ ?_)); (focus omega); (with_reducible (intro _ hA)); (cases hA); (with_reducible (refine mguard_yes ?_; refine mop_c trivial ?_; refine mguard_yes ?_; refine mm_ldr hM (map_atI ?_) ?_)); (focus omega); (with_reducible (refine mguard_yes ?_; refine mop_cF trivial ?_ ?_)); (focus (first | assumption | omega | with_reducible rfl | exact fun h => Bool.noConfusion h)); (with_reducible (refine mop_c trivial ?_; refine mif_false ?_; refine mop_cF trivial ?_ ?_)); (focus (first | assumption | omega | with_reducible rfl | exact fun h => Bool.noConfusion h)); (with_reducible (refine mif_false ?_)))
        refine ⟨fun w' => ∃ A2 a2 B2 b2 m Y, Y.map (·.1) = addPs t ∧ Y.length = m ∧ Mem H w1 [fb g1 27 (tfd A2 (gapM t l).length a2 B2 m b2), fb g2 36 l.fds, fb g3 27 (tfd none 0 0 none 0 0), rowR 36 97 A2 (gapM t l).length a2 ((gapM t l).map Lf.fds), rowR 96 66 B2 m b2 (Y.map xrow), allR Y] w', ?_, ?_⟩
        · ((with_reducible (refine mop_c trivial ?_; refine mm_ld hM ?_; refine mop_c trivial ?_; refine mop_cF trivial ?_ ?_)); (focus (first | assumption | omega | with_reducible rfl | exact fun h => Bool.noConfusion h)); (with_reducible (refine mif_false ?_)))
          rw [e1, e2]
          exact ⟨some ⟨gA, 0, none⟩, a', B', b', t.ps.length, X, hX, hXl, hM.sub⟩
        clear hM
        rintro u5 w5 ⟨A2, a2, B2, b2, m, Y, hY, hYl, hM⟩
        have hgn2 := gapM_len t l
        have hgs := gapM_set t l
        have hap := addPs_len hR l
        have hln : (addL t l).length ≤ 64 ∧ t.gap < (addL t l).length := by
          rw [addL_len]
          split <;> omega
        rw [← hY, List.length_map, hYl] at hap
        obtain ⟨g4, rfl⟩ := (hM.up A2).rowAt ⟨.refl _⟩ (by omega)
        ((with_reducible (refine mop_c trivial ?_; refine mm_ld hM ?_; refine mm_ld hM ?_; refine mm_ixr hM ?_ ?_)); (focus omega); (with_reducible (intro _ hA)); (cases hA); (with_reducible (refine mm_str hM ?_ ?_)); (focus omega); (with_reducible (clear hM; intro _ hM)))
        rw [Int.toNat_natCast, ← hg, ← List.map_set, hgs, hgn2] at hM
        rw [← hg]
        have hloose := hR.addPs_loose
        have hGl : ((addPs t).mapIdx (addF (addL t l).length t.gap)).length = (addPs t).length := by simp
        have hPl : (addPs t).length = m := by rw [← hY, List.length_map, hYl]
        refine ⟨fun v w' => ∃ (k : Nat) (Z : List Xp), v = .int .i64 k ∧ k ≤ m ∧ Z.length = m ∧ Z.map (·.1) = ((addPs t).mapIdx (addF (addL t l).length t.gap)).take k ++ (addPs t).drop k ∧ Mem H w1 [fb g1 27 (tfd (some ⟨g4, 0, none⟩) (addL t l).length a2 B2 m b2), fb g2 36 l.fds, fb g3 27 (tfd none 0 0 none 0 0), rowR 36 97 (some ⟨g4, 0, none⟩) (addL t l).length a2 ((addL t l).map Lf.fds), rowR 96 66 B2 m b2 (Z.map xrow), allR Z] w', fun v _ => match v with | .int _ k => m - k.toNat | _ => 0, ⟨0, Y, rfl, by omega, hYl, by simpa using hY, hM.same⟩, ?_⟩
        clear hM
        rintro v u6 w6 ⟨k, Z, rfl, hk, hZl, hZ, hM⟩
        ((with_reducible (refine mop_c trivial ?_; refine mm_ld hM ?_; refine mop_c trivial ?_)))
        ((with_reducible (refine mop_cS trivial ?_ ?_)))
        · intro hlt2
          have hk' : k < Z.length := by omega
          have hk2 : k < (addPs t).length := by omega
          have hZk := take_drop_get hZ hGl hk2 hk'
          have hget : ((addPs t).mapIdx (addF (addL t l).length t.gap))[k]'(by omega) = addF (addL t l).length t.gap k Z[k].1 := by rw [List.getElem_mapIdx, hZk]
          obtain ⟨hs1, -⟩ := hloose _ (List.getElem_mem hk2)
          rw [← hZk] at hs1
          ((with_reducible (refine mif_true ?_)))
          refine ⟨fun w' => ∃ (Z' : List Xp), Z'.length = m ∧ Z'.map (·.1) = ((addPs t).mapIdx (addF (addL t l).length t.gap)).take (k + 1) ++ (addPs t).drop (k + 1) ∧ Mem H w1 [fb g1 27 (tfd (some ⟨g4, 0, none⟩) (addL t l).length a2 B2 m b2), fb g2 36 l.fds, fb g3 27 (tfd none 0 0 none 0 0), rowR 36 97 (some ⟨g4, 0, none⟩) (addL t l).length a2 ((addL t l).map Lf.fds), rowR 96 66 B2 m b2 (Z'.map xrow), allR Z'] w', ?_, ?_⟩
          · skip
            refine ⟨fun v w' => v = .bool (decide (Z[k].1.set = true ∧ hld (addL t l).length (2 * k + 1) t.gap)) ∧ hM.now w', ?_, ?_⟩
            · ((with_reducible (refine mop_c trivial ?_; refine mm_ld hM ?_; refine mm_ixr hM ?_ ?_)); (focus omega); (with_reducible (intro _ hA)); (cases hA); (with_reducible (refine mop_c trivial ?_; refine mm_ldr hM (map_atI ?_) ?_)); (focus omega))
              rcases Bool.eq_false_or_eq_true Z[k].1.set with hs | hs
              · rw [hs]
                ((with_reducible (refine mguard_yes ?_; refine mop_c trivial ?_; refine mguard_yes ?_; refine mm_ld hM ?_; refine mguard_yes ?_; refine mop_c trivial ?_; refine mguard_yes ?_; refine mop_c trivial ?_; refine mguard_yes ?_; refine mop_c ?_ ?_)); (focus omega); (with_reducible (refine mguard_yes ?_; refine mop_c ?_ ?_)); (focus omega); (with_reducible (refine mguard_yes ?_; refine mop_c trivial ?_; refine mguard_yes ?_; refine mm_purC hM ?_ (fun _ hM2 => ?_))); (focus (first | exact trivial | assumption | omega)); (with_reducible (replace hM := hM2; clear hM2; refine mop_c trivial ?_)))
                refine ⟨?_, hM⟩
                congr 1
                rw [decide_eq_decide]
                exact ⟨fun h => ⟨rfl, h⟩, fun h => h.2⟩
              · rw [hs]
                ((with_reducible ((iterate 8 refine mguard_n2 ?_); refine mop_c trivial ?_)))
                exact ⟨by rw [decide_eq_false (fun h => by cases h.1)], hM⟩
            rintro v u7 w7 ⟨rfl, hM⟩
            by_cases hc2 : Z[k].1.set = true ∧ hld (addL t l).length (2 * k + 1) t.gap
            · rw [decide_eq_true hc2]
              have hM := (hM.at_ (allR Z)).outk hk'
              ((with_reducible (refine mif_true ?_; refine dp_c trivial ?_; refine dm_ld hM ?_; refine dp_c trivial ?_; refine dm_ld hM ?_; refine dp_ixr hM ?_ ?_)); (focus omega); (with_reducible (intro _ hA)); (cases hA); (with_reducible (refine dp_c trivial ?_; refine dm_ldr hM (map_atI ?_) ?_)); (focus omega))
              refine dm_joined (R := fun v L' => ∃ A5 c5, v = .slice A5 (putL Z[k].1.loose t.gap).length c5 ∧ L' = [rowR 3 1 A5 (putL Z[k].1.loose t.gap).length c5 (ints8 (putL Z[k].1.loose t.gap))]) hM (fun w hM => (rput_ok (H := Hp.of w) Z[k].1.loose t.gap (by omega) (hM.reads (A := Z[k].2.1)) (Fz.of w)).mono ?_) ?_
              · rintro e w' ⟨v, rfl, A5, c5, rfl, hP⟩
                exact ⟨_, _, rfl, ⟨A5, c5, rfl, rfl⟩, hP.weak (le_of hM.fz)⟩
              rintro v L' w' hx ⟨A5, c5, rfl, rfl⟩ hM
              rw [List.cons_append, List.nil_append] at hM
              ((with_reducible (refine dp_ixr hM ?_ ?_)); (focus omega); (with_reducible (intro _ hA)); (cases hA); (with_reducible (refine dp_c trivial ?_)))
              refine dm_stf hM (map_at hk') (fun w' hM => ?_)
              have hfy : addF (addL t l).length t.gap k Z[k].1 = { Z[k].1 with loose := putL Z[k].1.loose t.gap } := if_pos hc2
              have hrow : xrow (addF (addL t l).length t.gap k Z[k].1, A5, c5) = [.one (.bool Z[k].1.set), .arr 32 (u8s Z[k].1.pub.1), .arr 32 (u8s Z[k].1.abv.1), .one (.slice A5 (putL Z[k].1.loose t.gap).length c5)] := by
                rw [hfy]
              have hres : rowR 3 1 A5 (putL Z[k].1.loose t.gap).length c5 (ints8 (putL Z[k].1.loose t.gap)) = xres (addF (addL t l).length t.gap k Z[k].1, A5, c5) := by
                rw [hfy]
              rw [← hrow, Int.toNat_natCast, ← List.map_set, hres] at hM
              have hM := ((hM.at_ (restR Z k)).at_ (xres (addF (addL t l).length t.gap k Z[k].1, A5, c5))).ink hk'
              ((with_reducible (refine mm_end hM ?_; clear hM; intro _ hM)))
              exact ⟨Z.set k (addF (addL t l).length t.gap k Z[k].1, A5, c5), by simpa using hZl, set_take_drop hZ hGl hk2 hget.symm, hM.sub⟩
            · rw [decide_eq_false hc2]
              ((with_reducible (refine mif_false ?_)))
              refine ⟨Z, hZl, ?_, hM⟩
              have hsame : addF (addL t l).length t.gap k Z[k].1 = Z[k].1 := if_neg hc2
              rw [hsame, hZk] at hget
              rw [hZ, List.take_succ_eq_append_getElem (by omega), hget, List.append_assoc, List.drop_eq_getElem_cons hk2]
              rfl
          · clear hM
            rintro u7 w7 ⟨Z', hZl', hZ', hM⟩
            ((with_reducible (refine mop_c ?_ ?_)); (focus omega))
            exact ⟨⟨k + 1, Z', rfl, by omega, hZl', hZ', hM⟩, by simp only; omega⟩
        · intro hge2
          obtain rfl : k = m := by omega
          rw [List.drop_eq_nil_of_le (by omega), List.append_nil, List.take_of_length_le (by omega)] at hZ
          ((with_reducible (refine mif_false ?_; refine mm_ld hM ?_; refine mm_st hM ?_; clear hM; intro _ hM; refine rm_ld hM ?_)))
          rw [← hZl] at hM ⊢
          have hM : Mem H w1 [rowR 36 97 (some ⟨g4, 0, none⟩) (addL t l).length a2 ((addL t l).map Lf.fds), rowR 96 66 B2 Z.length b2 (Z.map xrow), allR Z] _ := hM.sub
          obtain ⟨H4, l4, hM, hT⟩ := hM.frzT (fun x hx => by
            have hm : x.1 ∈ (addPs t).mapIdx (addF (addL t l).length t.gap) := hZ ▸ List.mem_map_of_mem hx
            have := addF_loose (fun p hp => (hloose p hp).1) _ hm
            simp only [maxLen]
            omega)
          refine hM.out l4 (hq _ _ _ rfl ?_)
          rw [hZ] at hT
          exact hT
      · have hgm : t.gap = t.ls.length := by omega
        have e1 : gapM t l = t.ls ++ [l] := if_pos hgm
        ((with_reducible (refine mop_cF trivial ?_ ?_)); (focus (first | assumption | omega | with_reducible rfl | exact fun h => Bool.noConfusion h)); (with_reducible ((iterate 7 refine mguard_n2 ?_); refine mop_c trivial ?_; refine mif_false ?_)))
        ((with_reducible (refine mop_cS trivial ?_ ?_)))
        · intro hf
          rw [if_pos (by omega)] at hq
          ((with_reducible (refine mif_true ?_; refine mop_c trivial ?_; refine mm_st hM ?_; clear hM; intro _ hM; refine rm_ld hM ?_)))
          exact hM.out (Le.refl _ _) (hq _ _ _ rfl (trF_none H))
        intro hnf
        rw [if_neg (by omega)] at hq
        ((with_reducible (refine mif_false ?_)))
        refine ⟨fun w' => ∃ A2 a2 B2 b2 m Y, Y.map (·.1) = addPs t ∧ Y.length = m ∧ Mem H w1 [fb g1 27 (tfd A2 (gapM t l).length a2 B2 m b2), fb g2 36 l.fds, fb g3 27 (tfd none 0 0 none 0 0), rowR 36 97 A2 (gapM t l).length a2 ((gapM t l).map Lf.fds), rowR 96 66 B2 m b2 (Y.map xrow), allR Y] w', ?_, ?_⟩
        · ((with_reducible (refine mop_c trivial ?_; refine mm_ld hM ?_; refine mop_c trivial ?_; refine mop_cT trivial ?_ ?_)); (focus (first | assumption | omega | with_reducible rfl | exact fun h => Bool.noConfusion h)); (with_reducible (refine mif_true ?_)))
          refine ⟨fun w' => ∃ B2 b2 m Y, Y.map (·.1) = addPs t ∧ Y.length = m ∧ Mem H w1 [fb g1 27 (tfd A' t.ls.length a' B2 m b2), fb g2 36 l.fds, fb g3 27 (tfd none 0 0 none 0 0), rowR 36 97 A' t.ls.length a' (t.ls.map Lf.fds), rowR 96 66 B2 m b2 (Y.map xrow), allR Y] w', ?_, ?_⟩
          · skip
            ((with_reducible (refine mop_cS trivial ?_ ?_)))
            · intro hpos
              ((with_reducible (refine mif_true ?_; refine mop_c trivial ?_; refine mm_ld hM ?_; refine mop_c trivial ?_; refine mm_bsl hM ?_ ?_ ?_)); (focus rfl); (focus (constructor <;> simp)); (with_reducible (clear hM; intro _ _ hM; refine mm_appo hM ?_ ?_)); (focus omega); (with_reducible (clear hM; intro _ _ _ hM; refine mop_c trivial ?_; refine mm_st hM ?_; clear hM; intro _ hM)))
              rename_i A3 c3 _ _
              have e2 : addPs t = t.ps ++ [Pn.zero] := if_pos ⟨hgm, by omega⟩
              rw [← xrow0, show X.map xrow ++ [xrow x0] = (X ++ [x0]).map xrow by simp] at hM
              have h0 : Mem H w1 (xres x0 :: _) _ := hM.row0 3 1
              have hM : Mem H w1 [allR X, xres x0, rowR 96 66 A3 (t.ps.length + 1) c3 ((X ++ [x0]).map xrow), fb g1 27 (tfd A' t.ls.length a' A3 (t.ps.length + 1) c3), rowR 36 97 A' t.ls.length a' (t.ls.map Lf.fds), fb g3 27 (tfd none 0 0 none 0 0), fb g2 36 l.fds] _ := h0.same
              exact ⟨A3, c3, t.ps.length + 1, X ++ [x0], by rw [e2, List.map_append, hX]; rfl, by simp [hXl], hM.addk.same⟩
            · intro hz
              ((with_reducible (refine mif_false ?_)))
              have e2 : addPs t = t.ps := if_neg (by omega)
              rw [e2]
              exact ⟨B', b', t.ps.length, X, hX, hXl, hM.sub⟩
          · clear hM
            rintro u3 w3 ⟨B2, b2, m, Y, hY, hYl, hM⟩
            ((with_reducible (refine mop_c trivial ?_; refine mm_ld hM ?_; refine mm_ld hM ?_; refine mm_bsl hM ?_ ?_ ?_)); (focus rfl); (focus (constructor <;> simp)); (with_reducible (clear hM; intro _ _ hM; refine mm_appo hM ?_ ?_)); (focus omega); (with_reducible (clear hM; intro _ _ _ hM; refine mop_c trivial ?_; refine mm_st hM ?_; clear hM; intro _ hM)))
            rename_i A3 c3 _ _
            have e4 : t.ls.length + 1 = (gapM t l).length := by rw [e1]; simp
            have e5 : t.ls.map Lf.fds ++ [l.fds] = (gapM t l).map Lf.fds := by
              rw [e1, List.map_append]
              rfl
            rw [e5, e4] at hM
            exact ⟨A3, c3, B2, b2, m, Y, hY, hYl, hM.sub⟩
        clear hM
        rintro u5 w5 ⟨A2, a2, B2, b2, m, Y, hY, hYl, hM⟩
        have hgn2 := gapM_len t l
        have hgs := gapM_set t l
        have hap := addPs_len hR l
        have hln : (addL t l).length ≤ 64 ∧ t.gap < (addL t l).length := by
          rw [addL_len]
          split <;> omega
        rw [← hY, List.length_map, hYl] at hap
        obtain ⟨g4, rfl⟩ := (hM.up A2).rowAt ⟨.refl _⟩ (by omega)
        ((with_reducible (refine mop_c trivial ?_; refine mm_ld hM ?_; refine mm_ld hM ?_; refine mm_ixr hM ?_ ?_)); (focus omega); (with_reducible (intro _ hA)); (cases hA); (with_reducible (refine mm_str hM ?_ ?_)); (focus omega); (with_reducible (clear hM; intro _ hM)))
        rw [Int.toNat_natCast, ← hg, ← List.map_set, hgs, hgn2] at hM
        rw [← hg]
        have hloose := hR.addPs_loose
        have hGl : ((addPs t).mapIdx (addF (addL t l).length t.gap)).length = (addPs t).length := by simp
        have hPl : (addPs t).length = m := by rw [← hY, List.length_map, hYl]
        refine ⟨fun v w' => ∃ (k : Nat) (Z : List Xp), v = .int .i64 k ∧ k ≤ m ∧ Z.length = m ∧ Z.map (·.1) = ((addPs t).mapIdx (addF (addL t l).length t.gap)).take k ++ (addPs t).drop k ∧ Mem H w1 [fb g1 27 (tfd (some ⟨g4, 0, none⟩) (addL t l).length a2 B2 m b2), fb g2 36 l.fds, fb g3 27 (tfd none 0 0 none 0 0), rowR 36 97 (some ⟨g4, 0, none⟩) (addL t l).length a2 ((addL t l).map Lf.fds), rowR 96 66 B2 m b2 (Z.map xrow), allR Z] w', fun v _ => match v with | .int _ k => m - k.toNat | _ => 0, ⟨0, Y, rfl, by omega, hYl, by simpa using hY, hM.same⟩, ?_⟩
        clear hM
        rintro v u6 w6 ⟨k, Z, rfl, hk, hZl, hZ, hM⟩
        ((with_reducible (refine mop_c trivial ?_; refine mm_ld hM ?_; refine mop_c trivial ?_)))
        ((with_reducible (refine mop_cS trivial ?_ ?_)))
        · intro hlt2
          have hk' : k < Z.length := by omega
          have hk2 : k < (addPs t).length := by omega
          have hZk := take_drop_get hZ hGl hk2 hk'
          have hget : ((addPs t).mapIdx (addF (addL t l).length t.gap))[k]'(by omega) = addF (addL t l).length t.gap k Z[k].1 := by rw [List.getElem_mapIdx, hZk]
          obtain ⟨hs1, -⟩ := hloose _ (List.getElem_mem hk2)
          rw [← hZk] at hs1
          ((with_reducible (refine mif_true ?_)))
          refine ⟨fun w' => ∃ (Z' : List Xp), Z'.length = m ∧ Z'.map (·.1) = ((addPs t).mapIdx (addF (addL t l).length t.gap)).take (k + 1) ++ (addPs t).drop (k + 1) ∧ Mem H w1 [fb g1 27 (tfd (some ⟨g4, 0, none⟩) (addL t l).length a2 B2 m b2), fb g2 36 l.fds, fb g3 27 (tfd none 0 0 none 0 0), rowR 36 97 (some ⟨g4, 0, none⟩) (addL t l).length a2 ((addL t l).map Lf.fds), rowR 96 66 B2 m b2 (Z'.map xrow), allR Z'] w', ?_, ?_⟩
          · skip
            refine ⟨fun v w' => v = .bool (decide (Z[k].1.set = true ∧ hld (addL t l).length (2 * k + 1) t.gap)) ∧ hM.now w', ?_, ?_⟩
            · ((with_reducible (refine mop_c trivial ?_; refine mm_ld hM ?_; refine mm_ixr hM ?_ ?_)); (focus omega); (with_reducible (intro _ hA)); (cases hA); (with_reducible (refine mop_c trivial ?_; refine mm_ldr hM (map_atI ?_) ?_)); (focus omega))
              rcases Bool.eq_false_or_eq_true Z[k].1.set with hs | hs
              · rw [hs]
                ((with_reducible (refine mguard_yes ?_; refine mop_c trivial ?_; refine mguard_yes ?_; refine mm_ld hM ?_; refine mguard_yes ?_; refine mop_c trivial ?_; refine mguard_yes ?_; refine mop_c trivial ?_; refine mguard_yes ?_; refine mop_c ?_ ?_)); (focus omega); (with_reducible (refine mguard_yes ?_; refine mop_c ?_ ?_)); (focus omega); (with_reducible (refine mguard_yes ?_; refine mop_c trivial ?_; refine mguard_yes ?_; refine mm_purC hM ?_ (fun _ hM2 => ?_))); (focus (first | exact trivial | assumption | omega)); (with_reducible (replace hM := hM2; clear hM2; refine mop_c trivial ?_)))
                refine ⟨?_, hM⟩
                congr 1
                rw [decide_eq_decide]
                exact ⟨fun h => ⟨rfl, h⟩, fun h => h.2⟩
              · rw [hs]
                ((with_reducible ((iterate 8 refine mguard_n2 ?_); refine mop_c trivial ?_)))
                exact ⟨by rw [decide_eq_false (fun h => by cases h.1)], hM⟩
            rintro v u7 w7 ⟨rfl, hM⟩
            by_cases hc2 : Z[k].1.set = true ∧ hld (addL t l).length (2 * k + 1) t.gap
            · rw [decide_eq_true hc2]
              have hM := (hM.at_ (allR Z)).outk hk'
              ((with_reducible (refine mif_true ?_; refine dp_c trivial ?_; refine dm_ld hM ?_; refine dp_c trivial ?_; refine dm_ld hM ?_; refine dp_ixr hM ?_ ?_)); (focus omega); (with_reducible (intro _ hA)); (cases hA); (with_reducible (refine dp_c trivial ?_; refine dm_ldr hM (map_atI ?_) ?_)); (focus omega))
              refine dm_joined (R := fun v L' => ∃ A5 c5, v = .slice A5 (putL Z[k].1.loose t.gap).length c5 ∧ L' = [rowR 3 1 A5 (putL Z[k].1.loose t.gap).length c5 (ints8 (putL Z[k].1.loose t.gap))]) hM (fun w hM => (rput_ok (H := Hp.of w) Z[k].1.loose t.gap (by omega) (hM.reads (A := Z[k].2.1)) (Fz.of w)).mono ?_) ?_
              · rintro e w' ⟨v, rfl, A5, c5, rfl, hP⟩
                exact ⟨_, _, rfl, ⟨A5, c5, rfl, rfl⟩, hP.weak (le_of hM.fz)⟩
              rintro v L' w' hx ⟨A5, c5, rfl, rfl⟩ hM
              rw [List.cons_append, List.nil_append] at hM
              ((with_reducible (refine dp_ixr hM ?_ ?_)); (focus omega); (with_reducible (intro _ hA)); (cases hA); (with_reducible (refine dp_c trivial ?_)))
              refine dm_stf hM (map_at hk') (fun w' hM => ?_)
              have hfy : addF (addL t l).length t.gap k Z[k].1 = { Z[k].1 with loose := putL Z[k].1.loose t.gap } := if_pos hc2
              have hrow : xrow (addF (addL t l).length t.gap k Z[k].1, A5, c5) = [.one (.bool Z[k].1.set), .arr 32 (u8s Z[k].1.pub.1), .arr 32 (u8s Z[k].1.abv.1), .one (.slice A5 (putL Z[k].1.loose t.gap).length c5)] := by
                rw [hfy]
              have hres : rowR 3 1 A5 (putL Z[k].1.loose t.gap).length c5 (ints8 (putL Z[k].1.loose t.gap)) = xres (addF (addL t l).length t.gap k Z[k].1, A5, c5) := by
                rw [hfy]
              rw [← hrow, Int.toNat_natCast, ← List.map_set, hres] at hM
              have hM := ((hM.at_ (restR Z k)).at_ (xres (addF (addL t l).length t.gap k Z[k].1, A5, c5))).ink hk'
              ((with_reducible (refine mm_end hM ?_; clear hM; intro _ hM)))
              exact ⟨Z.set k (addF (addL t l).length t.gap k Z[k].1, A5, c5), by simpa using hZl, set_take_drop hZ hGl hk2 hget.symm, hM.sub⟩
            · rw [decide_eq_false hc2]
              ((with_reducible (refine mif_false ?_)))
              refine ⟨Z, hZl, ?_, hM⟩
              have hsame : addF (addL t l).length t.gap k Z[k].1 = Z[k].1 := if_neg hc2
              rw [hsame, hZk] at hget
              rw [hZ, List.take_succ_eq_append_getElem (by omega), hget, List.append_assoc, List.drop_eq_getElem_cons hk2]
              rfl
          · clear hM
            rintro u7 w7 ⟨Z', hZl', hZ', hM⟩
            ((with_reducible (refine mop_c ?_ ?_)); (focus omega))
            exact ⟨⟨k + 1, Z', rfl, by omega, hZl', hZ', hM⟩, by simp only; omega⟩
        · intro hge2
          obtain rfl : k = m := by omega
          rw [List.drop_eq_nil_of_le (by omega), List.append_nil, List.take_of_length_le (by omega)] at hZ
          ((with_reducible (refine mif_false ?_; refine mm_ld hM ?_; refine mm_st hM ?_; clear hM; intro _ hM; refine rm_ld hM ?_)))
          rw [← hZl] at hM ⊢
          have hM : Mem H w1 [rowR 36 97 (some ⟨g4, 0, none⟩) (addL t l).length a2 ((addL t l).map Lf.fds), rowR 96 66 B2 Z.length b2 (Z.map xrow), allR Z] _ := hM.sub
          obtain ⟨H4, l4, hM, hT⟩ := hM.frzT (fun x hx => by
            have hm : x.1 ∈ (addPs t).mapIdx (addF (addL t l).length t.gap) := hZ ▸ List.mem_map_of_mem hx
            have := addF_loose (fun p hp => (hloose p hp).1) _ hm
            simp only [maxLen]
            omega)
          refine hM.out l4 (hq _ _ _ rfl ?_)
          rw [hZ] at hT
          exact hT
  · rintro u4 w4 ⟨hlt, hne, hM⟩
    ((with_reducible (refine mop_c ?_ ?_)); (focus omega))
    refine ⟨⟨i + 1, rfl, by omega, fun j hj hji => ?_, hM⟩, by simp only; omega⟩
    rcases Nat.lt_or_ge j i with h2 | h2
    · exact hlo j hj h2
    · obtain rfl : j = i := by omega
      exact decide_eq_false (hne hj)
theorem tsame_ok {v1 v2 : Value} {t1 t2 : Tr} (h1 : TrF H v1 t1) (h2 : TrF H v2 t2) (hf : Fz H w) :
    Calls Try.prog 25 #[v1, v2] w fun en w' => en = .returned (.bool (decide (t1 = t2))) ∧ St w [] w' := by
  obtain ⟨A1, a1, B1, b1, q1, rfl, hA1, hB1, hP1⟩ := h1.ex
  obtain ⟨A2, a2, B2, b2, q2, rfl, hA2, hB2, hP2⟩ := h2.ex
  obtain ⟨m1, m2⟩ := h1.len
  obtain ⟨m3, m4⟩ := h2.len
  simp only [maxLen] at m1 m2 m3 m4
  have hM := Mem.start hf
  refine C_bevyref08_Same ?_
  unfold F_bevyref08_Same
  ((with_reducible (refine mm_box hM ?_; clear hM; intro _ _ hM; refine mm_box hM ?_; clear hM; intro _ _ hM)))
  rename_i g1 _ g2 _
  refine ⟨fun v w' => v = .bool (!decide (t1.ls.length = t2.ls.length ∧ t1.ps.length = t2.ps.length)) ∧ hM.now w', ?_, ?_⟩
  · ((with_reducible (refine mop_c trivial ?_; refine mm_ld hM ?_; refine mop_c trivial ?_; refine mop_c trivial ?_; refine mm_ld hM ?_; refine mop_c trivial ?_)))
    ((with_reducible (refine mop_cS trivial ?_ ?_)))
    · intro h
      ((with_reducible ((iterate 7 refine mguard_n1 ?_); refine mop_c trivial ?_)))
      exact ⟨by rw [decide_eq_false (by omega)]; rfl, hM⟩
    · intro h
      ((with_reducible (refine mguard_yes ?_; refine mop_c trivial ?_; refine mguard_yes ?_; refine mm_ld hM ?_; refine mguard_yes ?_; refine mop_c trivial ?_; refine mguard_yes ?_; refine mop_c trivial ?_; refine mguard_yes ?_; refine mm_ld hM ?_; refine mguard_yes ?_; refine mop_c trivial ?_; refine mguard_yes ?_)))
      ((with_reducible (refine mop_cS trivial ?_ ?_)))
      · intro h4
        ((with_reducible (refine mop_c trivial ?_)))
        exact ⟨by rw [decide_eq_false (by omega)]; rfl, hM⟩
      · intro h4
        ((with_reducible (refine mop_c trivial ?_)))
        exact ⟨by rw [decide_eq_true (by omega)]; rfl, hM⟩
  rintro v u w2 ⟨rfl, hM⟩
  by_cases hc : t1.ls.length = t2.ls.length ∧ t1.ps.length = t2.ps.length
  case neg =>
    rw [decide_eq_false hc]
    ((with_reducible (refine mif_nf ?_)))
    exact ⟨by rw [decide_eq_false (show ¬ t1 = t2 from fun e => hc (by rw [e]; exact ⟨rfl, rfl⟩))], hM.st⟩
  rw [decide_eq_true hc]
  obtain ⟨hc1, hc2⟩ := hc
  have hq1 := hP1.len
  have hq2 := hP2.len
  ((with_reducible (refine mif_nt ?_)))
  refine ⟨fun v w' => ∃ i : Nat, v = .int .i64 i ∧ i ≤ t1.ls.length ∧ t1.ls.take i = t2.ls.take i ∧ hM.now w', fun v _ => match v with | .int _ k => t1.ls.length - k.toNat | _ => 0, ⟨0, rfl, by omega, by simp, hM⟩, ?_⟩
  rintro v u w3 ⟨i, rfl, hi, he, hM⟩
  ((with_reducible (refine mop_c trivial ?_; refine mm_ld hM ?_; refine mop_c trivial ?_)))
  ((with_reducible (refine mop_cS trivial ?_ ?_)))
  · intro hlt
    have k1 : i < t1.ls.length := by omega
    have k2 : i < t2.ls.length := by omega
    ((with_reducible (refine mif_true ?_; refine dp_c trivial ?_; refine dm_ld hM ?_)); (with_reducible refine dp_ixs ‹_› ?_ ?_ ?_); (focus (simp only [List.length_map]; omega)); (focus (simp only [List.length_map]; first | done | omega)); (with_reducible (intro _ _ hA)); (cases hA); (with_reducible refine dm_lds0 hM ‹_› (map_atI ?_) ?_); (focus omega); (with_reducible (refine dp_c trivial ?_; refine dm_ld hM ?_)); (with_reducible refine dp_ixs ‹_› ?_ ?_ ?_); (focus (simp only [List.length_map]; omega)); (focus (simp only [List.length_map]; first | done | omega)); (with_reducible (intro _ _ hA)); (cases hA); (with_reducible refine dm_lds0 hM ‹_› (map_atI ?_) ?_); (focus omega))
    ((with_reducible (refine dp_cS trivial ?_ ?_)))
    · intro hne
      ((with_reducible (refine mm_end hM ?_; clear hM; intro _ hM; refine mif_true ?_)))
      refine ⟨?_, hM.st⟩
      rw [decide_eq_false]
      rintro rfl
      exact hne ⟨rfl, rfl, rfl, rfl⟩
    · intro heq
      ((with_reducible (refine mm_end hM ?_; clear hM; intro _ hM; refine mif_false ?_; refine mop_c ?_ ?_)); (focus omega))
      refine ⟨⟨i + 1, rfl, by omega, ?_, hM⟩, by simp only; omega⟩
      rw [List.take_succ_eq_append_getElem k1, List.take_succ_eq_append_getElem k2, he, (lf_eq t1.ls[i] t2.ls[i]).2 (Decidable.not_not.1 heq)]
  · intro hge
    obtain rfl : i = t1.ls.length := by omega
    have hls : t1.ls = t2.ls := by
      rw [List.take_length, hc1, List.take_length] at he
      exact he
    ((with_reducible (refine mif_false ?_)))
    refine ⟨fun v w' => ∃ j : Nat, v = .int .i64 j ∧ j ≤ t1.ps.length ∧ t1.ps.take j = t2.ps.take j ∧ Mem H w [fb g2 27 (tfd A2 t2.ls.length a2 B2 t2.ps.length b2), fb g1 27 (tfd A1 t1.ls.length a1 B1 t1.ps.length b1)] w', fun v _ => match v with | .int _ k => t1.ps.length - k.toNat | _ => 0, ⟨0, rfl, by omega, by simp, hM⟩, ?_⟩
    clear hM
    rintro v u w4 ⟨j, rfl, hj, hej, hM⟩
    ((with_reducible (refine mop_c trivial ?_; refine mm_ld hM ?_; refine mop_c trivial ?_)))
    ((with_reducible (refine mop_cS trivial ?_ ?_)))
    · intro hlt
      have k1 : j < t1.ps.length := by omega
      have k2 : j < t2.ps.length := by omega
      obtain ⟨x, hx1, C, c, rfl, hC, hcl⟩ := hP1.at_ (i := j) k1
      obtain ⟨y, hy1, D, d, rfl, hD, hdl⟩ := hP2.at_ (i := j) k2
      obtain ⟨p, hp⟩ : ∃ p, t1.ps[j] = p := ⟨_, rfl⟩
      obtain ⟨q, hq⟩ : ∃ q, t2.ps[j] = q := ⟨_, rfl⟩
      rw [hp] at hx1 hC hcl
      rw [hq] at hy1 hD hdl
      have hstep : p = q → t1.ps.take (j + 1) = t2.ps.take (j + 1) := fun e => by
        rw [List.take_succ_eq_append_getElem k1, List.take_succ_eq_append_getElem k2, hej, hp, hq, e]
      have hdiff : p ≠ q → ¬ t1 = t2 := fun e h => by
        subst h
        exact e (hp.symm.trans hq)
      ((with_reducible (refine mif_true ?_; refine mop_c trivial ?_; refine mm_ld hM ?_)))
      refine mm_ixs hB1 (by omega) hq1.symm (fun bb oo hB => ?_)
      cases hB
      refine mm_lds0 hM hB1 hx1 ?_
      ((with_reducible (refine mm_new hM ?_; clear hM; intro _ _ hM; refine mm_st hM ?_; clear hM; intro _ hM; refine mop_c trivial ?_; refine mm_ld hM ?_)))
      refine mm_ixs hB2 (by omega) hq2.symm (fun bb2 oo2 hB => ?_)
      cases hB
      refine mm_lds0 hM hB2 hy1 ?_
      ((with_reducible (refine mm_new hM ?_; clear hM; intro _ _ hM; refine mm_st hM ?_; clear hM; intro _ hM)))
      refine ⟨fun v w' => v = .bool (!decide (p = q)) ∧ hM.now w', ?_, ?_⟩
      · ((with_reducible (refine mop_c trivial ?_; refine mm_ld hM ?_; refine mop_c trivial ?_; refine mm_ld hM ?_)))
        ((with_reducible (refine mop_cS trivial ?_ ?_)))
        · intro h
          ((with_reducible ((iterate 5 refine mguard_n1 ?_); refine mop_c trivial ?_; (iterate 5 refine mguard_n1 ?_); refine mop_c trivial ?_; (iterate 6 refine mguard_n1 ?_); refine mop_c trivial ?_)))
          exact ⟨by rw [decide_eq_false (fun e => h (by rw [e]))]; rfl, hM⟩
        · intro h
          ((with_reducible (refine mguard_yes ?_; refine mop_c trivial ?_; refine mguard_yes ?_; refine mm_ld hM ?_; refine mguard_yes ?_; refine mop_c trivial ?_; refine mguard_yes ?_; refine mm_ld hM ?_; refine mguard_yes ?_)))
          ((with_reducible (refine mop_cS trivial ?_ ?_)))
          · intro h2
            ((with_reducible (refine mop_c trivial ?_; (iterate 5 refine mguard_n1 ?_); refine mop_c trivial ?_; (iterate 6 refine mguard_n1 ?_); refine mop_c trivial ?_)))
            exact ⟨by rw [decide_eq_false (fun e => h2 (by rw [e]))]; rfl, hM⟩
          · intro h2
            ((with_reducible (refine mop_c trivial ?_; refine mguard_yes ?_; refine mop_c trivial ?_; refine mguard_yes ?_; refine mm_ld hM ?_; refine mguard_yes ?_; refine mop_c trivial ?_; refine mguard_yes ?_; refine mm_ld hM ?_; refine mguard_yes ?_)))
            ((with_reducible (refine mop_cS trivial ?_ ?_)))
            · intro h3
              ((with_reducible (refine mop_c trivial ?_; (iterate 6 refine mguard_n1 ?_); refine mop_c trivial ?_)))
              exact ⟨by rw [decide_eq_false (fun e => h3 (by rw [e]))]; rfl, hM⟩
            · intro h3
              ((with_reducible (refine mop_c trivial ?_; refine mguard_yes ?_; refine mop_c trivial ?_; refine mguard_yes ?_; refine mm_ld hM ?_; refine mguard_yes ?_; refine mop_c trivial ?_; refine mguard_yes ?_; refine mm_ld hM ?_; refine mguard_yes ?_)))
              refine mm_own (Q := fun v w' => v = .bool (decide (p.loose = q.loose)) ∧ hM.now w') ((rsame_ok p.loose q.loose hcl hC hD hM).mono fun e w' ⟨h1, h2⟩ => ⟨_, h1, rfl, h2⟩) ?_
              rintro v w' ⟨rfl, hM⟩
              by_cases h4 : p.loose = q.loose
              · rw [decide_eq_true h4]
                ((with_reducible (refine mguard_yes ?_; refine mop_c trivial ?_; refine mop_c trivial ?_)))
                refine ⟨?_, hM⟩
                rw [decide_eq_true]
                · rfl
                · have e1 := Decidable.not_not.1 h
                  have e2 := Decidable.not_not.1 h2
                  have e3 := Decidable.not_not.1 h3
                  cases p
                  cases q
                  simp only at e1 e2 e3 h4
                  rw [e1, e2, e3, h4]
              · rw [decide_eq_false h4]
                ((with_reducible (refine mguard_yes ?_; refine mop_c trivial ?_; refine mop_c trivial ?_)))
                exact ⟨by rw [decide_eq_false (fun e => h4 (by rw [e]))]; rfl, hM⟩
      rintro v u5 w5 ⟨rfl, hM⟩
      by_cases hpq : p = q
      · rw [decide_eq_true hpq]
        ((with_reducible (refine mif_nt ?_; refine mop_c ?_ ?_)); (focus omega))
        exact ⟨⟨j + 1, rfl, by omega, hstep hpq, hM.sub⟩, by simp only; omega⟩
      · rw [decide_eq_false hpq]
        ((with_reducible (refine mif_nf ?_)))
        exact ⟨by rw [decide_eq_false (hdiff hpq)], hM.st⟩
    · intro hge
      obtain rfl : j = t1.ps.length := by omega
      ((with_reducible (refine mif_false ?_)))
      refine ⟨?_, hM.st⟩
      rw [List.take_length, hc2, List.take_length] at hej
      rw [decide_eq_true]
      cases t1
      cases t2
      simp only at hls hej
      rw [hls, hej]
theorem few_ok (h1 : Sl H 97 A (t.ls.map Lf.fds)) (h2 : Sl H 66 B qs) (h3 : All2 (PnF H) qs t.ps) (hl : t.ls.length ≤ maxLen) (hp : t.ps.length ≤ maxLen) (hf : Fz H w) :
    Calls Try.prog 18 #[tv A t.ls.length a B t.ps.length b] w fun en w' => en = .returned (.bool (decide t.few)) ∧ St w [] w' := by
  have hl' : t.ls.length ≤ 9223372036854775807 := hl
  have hp' : t.ps.length ≤ 9223372036854775807 := hp
  have hq : qs.length = t.ps.length := h3.len
  have hM := Mem.start hf
  refine C_bevylaw08_few ?_
  unfold F_bevylaw08_few
  ((with_reducible (refine mm_box hM ?_; clear hM; intro _ _ hM)))
  refine ⟨fun v w' => v = .bool (!decide (t.ls.length ≤ 100 ∧ t.ps.length ≤ 100)) ∧ hM.now w', ?_, ?_⟩
  · ((with_reducible (refine mop_c trivial ?_; refine mm_ld hM ?_; refine mop_c trivial ?_)))
    ((with_reducible (refine mop_cS trivial ?_ ?_)))
    · intro h
      ((with_reducible ((iterate 4 refine mguard_n1 ?_); refine mop_c trivial ?_)))
      exact ⟨by rw [decide_eq_false (by omega)]; rfl, hM⟩
    · intro h
      ((with_reducible (refine mguard_yes ?_; refine mop_c trivial ?_; refine mguard_yes ?_; refine mm_ld hM ?_; refine mguard_yes ?_; refine mop_c trivial ?_; refine mguard_yes ?_)))
      ((with_reducible (refine mop_cS trivial ?_ ?_)))
      · intro h4
        ((with_reducible (refine mop_c trivial ?_)))
        exact ⟨by rw [decide_eq_false (by omega)]; rfl, hM⟩
      · intro h4
        ((with_reducible (refine mop_c trivial ?_)))
        exact ⟨by rw [decide_eq_true (by omega)]; rfl, hM⟩
  rintro v u w2 ⟨rfl, hM⟩
  by_cases hc : t.ls.length ≤ 100 ∧ t.ps.length ≤ 100
  case neg =>
    rw [decide_eq_false hc]
    ((with_reducible (refine mif_nf ?_)))
    exact ⟨by rw [decide_eq_false (show ¬ t.few from fun h => hc ⟨h.1, h.2.1⟩)], hM.st⟩
  rw [decide_eq_true hc]
  ((with_reducible (refine mif_nt ?_)))
  refine ⟨fun v w' => ∃ i : Nat, v = .int .i64 i ∧ i ≤ t.ps.length ∧ (∀ j (hj : j < t.ps.length), j < i → t.ps[j].loose.length ≤ 100) ∧ hM.now w', fun v _ => match v with | .int _ k => t.ps.length - k.toNat | _ => 0, ⟨0, rfl, by omega, fun j _ h => by omega, hM⟩, ?_⟩
  rintro v u w3 ⟨i, rfl, hi, hlo, hM⟩
  ((with_reducible (refine mop_c trivial ?_; refine mm_ld hM ?_; refine mop_c trivial ?_)))
  ((with_reducible (refine mop_cS trivial ?_ ?_)))
  · intro hlt
    have hlt' : i < t.ps.length := by omega
    obtain ⟨q, hq1, C, c, rfl, hC, hcl⟩ := h3.at_ (i := i) hlt'
    simp only [maxLen] at hcl
    ((with_reducible (refine mif_true ?_; refine mop_c trivial ?_; refine mm_ld hM ?_)))
    refine mm_ixs h2 (by omega) hq.symm (fun bb oo hB => ?_)
    cases hB
    ((with_reducible (refine mop_c trivial ?_)))
    refine mm_lds hM h2 hq1 ?_
    ((with_reducible (refine mop_c trivial ?_)))
    ((with_reducible (refine mop_cS trivial ?_ ?_)))
    · intro h
      ((with_reducible (refine mif_true ?_)))
      exact ⟨by rw [decide_eq_false (show ¬ t.few from fun hh => by have := hh.2.2 _ (List.getElem_mem hlt'); omega)], hM.st⟩
    · intro h
      ((with_reducible (refine mif_false ?_; refine mop_c ?_ ?_)); (focus omega))
      refine ⟨⟨i + 1, rfl, by omega, fun j hj hji => ?_, hM⟩, by simp only; omega⟩
      rcases Nat.lt_or_ge j i with h2 | h2
      · exact hlo j hj h2
      · obtain rfl : j = i := by omega
        omega
  · intro hge
    ((with_reducible (refine mif_false ?_)))
    refine ⟨?_, hM.st⟩
    rw [decide_eq_true (show t.few from ⟨hc.1, hc.2, fun p hp => ?_⟩)]
    obtain ⟨j, hj, rfl⟩ := List.getElem_of_mem hp
    exact hlo j hj (by omega)
end
end Go.Proofs.Ytopcnkejobomaaa
/- The functions on trees as contracts; the document's example. -/
namespace Go.Proofs.Ytopcnkejobomaaa
open Go.RowKit Go.Lib

abbrev leafN (x : Int) : Lf := ⟨x, hzero, hzero, hzero⟩
def aw1 : Tr := ((Tr.none).addP (leafN 5)).1
def aw2 : Tr := (aw1.addP (leafN 2)).1
def aw3 : Tr := (aw2.addP (leafN 9)).1
def aw4 : Tr := (aw3.remP 1).1
def aw5 : Tr := (aw4.addP (leafN 7)).1
def aw6 : Tr := (aw5.remP 2).1
def aw : Nat → Tr
  | 0 => Tr.none
  | 1 => aw1
  | 2 => aw2
  | 3 => aw3
  | 4 => aw4
  | 5 => aw5
  | _ => aw6
def awN : Nat → Int
  | 0 => 5
  | 1 => 2
  | _ => 9
theorem aw_facts : (((aw 0).addP (leafN 5)).2 = (0, 0) ∧ ((aw 1).addP (leafN 2)).2 = (1, 0) ∧ ((aw 2).addP (leafN 9)).2 = (2, 0)) ∧ ((aw 3).remP 1).2 = 0 ∧ (((aw 4).addP (leafN 7)).2.1 = 1 ∧ ((aw 4).addP (leafN 7)).2.2 = 0) ∧ ((aw 5).remP 2).2 = 0 ∧ (aw 6).ls.length = 2 ∧ (aw 6).right = true := by decide +kernel
theorem aw_step {i : Nat} (h : i < 3) : (aw i).addP (leafN (awN i)) = (aw (i + 1), (i : Int), 0) := by
  obtain ⟨⟨h0, h1, h2⟩, -⟩ := aw_facts
  have hcase : i = 0 ∨ i = 1 ∨ i = 2 := by omega
  rcases hcase with rfl | rfl | rfl
  · exact Prod.ext rfl h0
  · exact Prod.ext rfl h1
  · exact Prod.ext rfl h2
section
variable {H : Hp} {w0 w : World} {L R : List Res} {v : Value} {t : Tr}
theorem few_c (h : TrF H v t) (hf : Fz H w) : Calls Try.prog 18 #[v] w fun en w' => en = .returned (.bool (decide t.few)) ∧ St w [] w' := by
  obtain ⟨A, a, B, b, q, rfl, h1, h2, h3⟩ := h.ex
  exact few_ok h1 h2 h3 h.len.1 h.len.2 hf
theorem right_c (h : TrF H v t) (hf : Fz H w) : Calls Try.prog 27 #[v] w fun en w' => en = .returned (.bool t.right) ∧ St w [] w' := by
  obtain ⟨A, a, B, b, q, rfl, h1, h2, h3⟩ := h.ex
  exact right_ok h1 h2 h3 h.len.1 h.len.2 hf
theorem tright_c (h : TrF H v t) (hf : Fz H w) : Calls Try.prog 19 #[v] w fun en w' => en = .returned (.bool t.right) ∧ St w [] w' := by
  obtain ⟨A, a, B, b, q, rfl, h1, h2, h3⟩ := h.ex
  exact tright_ok h1 h2 h3 h.len.1 h.len.2 hf
theorem add_c (l : Lf) (h : TrF H v t) (hf : Fz H w) : Calls Try.prog 28 #[v, lv l] w (Outp H w fun H' r => ∃ v1, r = .tuple #[v1, .int .i64 (t.addP l).2.1, .int .i64 (t.addP l).2.2] ∧ TrF H' v1 (t.addP l).1) := by
  obtain ⟨A, a, B, b, q, rfl, h1, h2, h3⟩ := h.ex
  exact add_q l (fun H' v1 r e k => by rw [e]; exact ⟨v1, rfl, k⟩) h1 h2 h3 h.len.1 h.len.2 hf
theorem remove_c (p : Int) (h : TrF H v t) (hf : Fz H w) : Calls Try.prog 30 #[v, .int .i64 p] w (Outp H w fun H' r => ∃ v1, r = .tuple #[v1, .int .i64 (t.remP p).2] ∧ TrF H' v1 (t.remP p).1) := by
  obtain ⟨A, a, B, b, q, rfl, h1, h2, h3⟩ := h.ex
  exact remove_q p (fun H' v1 r e k => by rw [e]; exact ⟨v1, rfl, k⟩) h1 h2 h3 h.len.1 h.len.2 hf
theorem renew_c (p : Int) (pub : H32) (h : TrF H v t) (hf : Fz H w) : Calls Try.prog 29 #[v, .int .i64 p, ha pub] w (Outp H w fun H' r => ∃ v1, r = .tuple #[v1, .int .i64 (t.renP p pub).2] ∧ TrF H' v1 (t.renP p pub).1) := by
  obtain ⟨A, a, B, b, q, rfl, h1, h2, h3⟩ := h.ex
  exact renew_q p pub (fun H' v1 r e k => by rw [e]; exact ⟨v1, rfl, k⟩) h1 h2 h3 h.len.1 h.len.2 hf
theorem radd_c (l : Lf) (hR : t.Rt) (h : TrF H v t) (hf : Fz H w) : Calls Try.prog 31 #[v, lv l] w (Outp H w fun H' r => ∃ v1, r = .tuple #[v1, .int .i64 (t.addR l).2.1, .int .i64 (t.addR l).2.2] ∧ TrF H' v1 (t.addR l).1) := by
  obtain ⟨A, a, B, b, q, rfl, h1, h2, h3⟩ := h.ex
  exact radd_q l (fun H' v1 r e k => by rw [e]; exact ⟨v1, rfl, k⟩) hR h1 h2 h3 hf
theorem rremove_c (p : Int) (hR : t.Rt) (h : TrF H v t) (hf : Fz H w) : Calls Try.prog 33 #[v, .int .i64 p] w (Outp H w fun H' r => ∃ v1, r = .tuple #[v1, .int .i64 (t.remR p).2] ∧ TrF H' v1 (t.remR p).1) := by
  obtain ⟨A, a, B, b, q, rfl, h1, h2, h3⟩ := h.ex
  exact rremove_q p (fun H' v1 r e k => by rw [e]; exact ⟨v1, rfl, k⟩) hR h1 h2 h3 hf
theorem rrenew_c (p : Int) (pub : H32) (hR : t.Rt) (h : TrF H v t) (hf : Fz H w) : Calls Try.prog 32 #[v, .int .i64 p, ha pub] w (Outp H w fun H' r => ∃ v1, r = .tuple #[v1, .int .i64 (t.renR p pub).2] ∧ TrF H' v1 (t.renR p pub).1) := by
  obtain ⟨A, a, B, b, q, rfl, h1, h2, h3⟩ := h.ex
  exact rrenew_q p pub (fun H' v1 r e k => by rw [e]; exact ⟨v1, rfl, k⟩) hR h1 h2 h3 hf
theorem tawake_ok (w : World) : Calls Try.prog 13 #[] w fun en w' => en = .returned (.bool true) ∧ St w [] w' := by
  have hM := Mem.start (Fz.of w)
  obtain ⟨H, hH⟩ : ∃ H, H = Hp.of w := ⟨_, rfl⟩
  rw [← hH] at hM
  refine C_bevylaw08_awake ?_
  unfold F_bevylaw08_awake
  ((with_reducible (refine mm_new hM ?_; clear hM; intro _ _ hM; refine mop_c trivial ?_)))
  rename_i g1 _
  refine ⟨fun v w' => ∃ (i : Nat) (H1 : Hp) (A : Option Addr) (a : Nat) (B : Option Addr) (b : Nat), v = .int .i64 i ∧ i ≤ 3 ∧ TrF H1 (tv A (aw i).ls.length a B (aw i).ps.length b) (aw i) ∧ Mem H1 w [fb g1 27 (tfd A (aw i).ls.length a B (aw i).ps.length b)] w', fun v _ => match v with | .int _ k => 3 - k.toNat | _ => 0, ⟨0, H, none, 0, none, 0, rfl, by omega, trF_none _, hM⟩, ?_⟩
  clear hM
  rintro v u w3 ⟨i, H1, A, a, B, b, rfl, hi, hT, hM⟩
  ((with_reducible (refine mop_cS trivial ?_ ?_)))
  · intro hlt
    have hlt' : i < 3 := by omega
    ((with_reducible (refine mif_true ?_)))
    have hix : Pur Try.prog (o_index 92 (.agg (fl [Fd.one (.int .i64 5), .one (.int .i64 2), .one (.int .i64 9)]).toArray) (.int .i64 i)) (.int .i64 (awN i)) := by
      have hcase : i = 0 ∨ i = 1 ∨ i = 2 := by omega
      rcases hcase with rfl | rfl | rfl <;> exact p_index_array _ 3 3 _ _ _ _ Try.underlying92 (by kernel_rfl) (by omega) (by omega) rfl
    refine mop_pur hix ?_
    ((with_reducible (refine mm_ld hM ?_; refine mop_c trivial ?_)))
    refine mm_call hM (add_c (leafN (awN i)) hT hM.fz) ?_
    rintro H2 v w4 l2 hM ⟨v1, rfl, hT2⟩
    obtain ⟨e1, e2, e3⟩ : ((aw i).addP (leafN (awN i))).1 = aw (i + 1) ∧ ((aw i).addP (leafN (awN i))).2.1 = i ∧ ((aw i).addP (leafN (awN i))).2.2 = 0 := by
      rw [aw_step hlt']
      exact ⟨rfl, rfl, rfl⟩
    rw [e1] at hT2
    rw [e2, e3]
    obtain ⟨A2, a2, B2, b2, q2, rfl, -⟩ := hT2.ex
    ((with_reducible ((iterate 3 refine mop_c trivial ?_); refine mm_st hM ?_; clear hM; intro _ hM)))
    refine ⟨fun v w' => v = .bool false ∧ hM.now w', ?_, ?_⟩
    · ((with_reducible (refine mop_cF trivial ?_ ?_)); (focus (first | assumption | omega | with_reducible rfl | exact fun h => Bool.noConfusion h)); (with_reducible (refine mguard_yes ?_; refine mop_c trivial ?_; refine mguard_yes ?_; refine mop_c trivial ?_; refine mguard_yes ?_; refine mop_cF trivial ?_ ?_)); (focus (first | assumption | omega | with_reducible rfl | exact fun h => Bool.noConfusion h)); (with_reducible (refine mop_c trivial ?_)))
      exact ⟨rfl, hM⟩
    rintro v u5 w5 ⟨rfl, hM⟩
    ((with_reducible (refine mif_false ?_; refine mop_c ?_ ?_)); (focus omega))
    exact ⟨⟨i + 1, H2, A2, a2, B2, b2, rfl, by omega, hT2, hM⟩, by simp only; omega⟩
  · intro hge
    obtain rfl : i = 3 := by omega
    obtain ⟨-, f4, ⟨f5, f5b⟩, f6, f7, f8⟩ := aw_facts
    ((with_reducible (refine mif_false ?_; refine mm_ld hM ?_)))
    refine mm_call hM (remove_c 1 hT hM.fz) ?_
    rintro H2 v w4 l2 hM ⟨v1, rfl, hT2⟩
    rw [f4]
    rw [show ((aw 3).remP 1).1 = aw 4 from rfl] at hT2
    obtain ⟨A2, a2, B2, b2, q2, rfl, -⟩ := hT2.ex
    ((with_reducible (refine mop_c trivial ?_; refine mop_c trivial ?_; refine mm_st hM ?_; clear hM; intro _ hM; refine mm_ld hM ?_; refine mop_c trivial ?_)))
    refine mm_call hM (add_c (leafN 7) hT2 hM.fz) ?_
    rintro H3 v w5 l3 hM ⟨v1, rfl, hT3⟩
    rw [f5, f5b]
    rw [show ((aw 4).addP (leafN 7)).1 = aw 5 from rfl] at hT3
    obtain ⟨A3, a3, B3, b3, q3, rfl, -⟩ := hT3.ex
    ((with_reducible ((iterate 3 refine mop_c trivial ?_); refine mm_new hM ?_; clear hM; intro _ _ hM; refine mm_st hM ?_; clear hM; intro _ hM; refine mm_ld hM ?_)))
    refine mm_call hM (remove_c 2 hT3 hM.fz) ?_
    rintro H4 v w6 l4 hM ⟨v1, rfl, hT4⟩
    rw [f6]
    rw [show ((aw 5).remP 2).1 = aw 6 from rfl] at hT4
    obtain ⟨A4, a4, B4, b4, q4, rfl, -⟩ := hT4.ex
    ((with_reducible (refine mop_c trivial ?_; refine mop_c trivial ?_; refine mm_new hM ?_; clear hM; intro _ _ hM; refine mm_st hM ?_; clear hM; intro _ hM; refine mop_cT trivial ?_ ?_)); (focus (first | assumption | omega | with_reducible rfl | exact fun h => Bool.noConfusion h)); (with_reducible (refine mguard_yes ?_; refine mop_c trivial ?_; refine mguard_yes ?_; refine mop_cT trivial ?_ ?_)); (focus (first | assumption | omega | with_reducible rfl | exact fun h => Bool.noConfusion h)); (with_reducible (refine mop_c trivial ?_; refine mguard_yes ?_; refine mop_c trivial ?_; refine mguard_yes ?_; refine mop_cT trivial ?_ ?_)); (focus (first | assumption | omega | with_reducible rfl | exact fun h => Bool.noConfusion h)); (with_reducible (refine mop_c trivial ?_; refine mguard_yes ?_; refine mop_c trivial ?_; refine mguard_yes ?_; refine mop_cT trivial ?_ ?_)); (focus (first | assumption | omega | with_reducible rfl | exact fun h => Bool.noConfusion h)); (with_reducible (refine mop_c trivial ?_; refine mguard_yes ?_; refine mop_c trivial ?_; refine mguard_yes ?_; refine mm_ld hM ?_; refine mguard_yes ?_; refine mop_c trivial ?_; refine mguard_yes ?_; refine mop_cT trivial ?_ ?_)); (focus (first | assumption | omega | with_reducible rfl | exact fun h => Bool.noConfusion h)); (with_reducible (refine mop_c trivial ?_; refine mguard_yes ?_; refine mm_ld hM ?_; refine mguard_yes ?_)))
    refine mm_pure hM (right_c hT4 hM.fz) (fun w hM => ?_)
    rw [f8]
    ((with_reducible (refine mop_c trivial ?_)))
    exact ⟨rfl, hM.st⟩
instance : PurC Try.prog 13 [] True (.bool true) := ⟨fun _ w => tawake_ok w⟩
end
end Go.Proofs.Ytopcnkejobomaaa
