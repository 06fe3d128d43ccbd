/- A leaf put into a tree: the program's walk. -/
import Derived.Test.YtmjpbomonhjebaaTr5
namespace Go.Proofs.Ytmjpbomonhjebaa
open Go.RowKit Go.Lib

theorem trF_none (H : Hp) : TrF H (tv none 0 0 none 0 0) Tr.none := ⟨⟨none, 0, none, 0, [], rfl, Sl.nil _ _ _, Sl.nil _ _ _, trivial⟩, by simp [Tr.none, maxLen]⟩
def gapL (t : Tr) : List Lf := if t.gap = t.ls.length then t.ls ++ [Lf.zero] else t.ls
theorem gapL_set (t : Tr) (l : Lf) : (gapL t).set t.gap l = addL t l := by
  unfold gapL addL
  by_cases h : t.gap = t.ls.length
  · rw [if_pos h, if_pos h, h]
    simp
  · rw [if_neg h, if_neg h]
theorem gapL_len (t : Tr) (l : Lf) : (gapL t).length = (addL t l).length := by
  rw [← gapL_set t l, List.length_set]
theorem onDir_get {f : Pn → Pn} {D : List Int} {ps : List Pn} {k : Nat} (hn : D.Nodup) (hD : ∀ x ∈ D, x = 2 * (x / 2) + 1 ∧ 0 ≤ x / 2) (hk : 2 * (k : Int) + 1 ∉ D) : (onDir f D ps)[k]? = ps[k]? := by
  rw [onDir_eq hn hD, List.getElem?_mapIdx]
  simp only [if_neg hk]
  cases ps[k]? <;> rfl
theorem Tr.Rt.addPs_loose {t : Tr} (h : t.Rt) : ∀ p ∈ addPs t, p.loose.length ≤ 64 ∧ p.loose.Pairwise (· < ·) := by
  intro p hp
  unfold addPs at hp
  split at hp
  · rcases List.mem_append.1 hp with hp | hp
    · exact h.loose p hp
    · rw [List.mem_singleton.1 hp]
      exact ⟨by simp [Pn.zero], .nil⟩
  · exact h.loose p hp
theorem ins_len (l : List Int) (x : Int) : (ins l x).length = l.length + 1 := by
  have : bs' l x ≤ l.length := List.findIdx_le_length
  unfold ins
  simp
  omega
section
variable {H : Hp} {w0 w : World} {L R : List Res} {A B C : Option Addr} {a b c n : Nat} {t : Tr} {qs ps : List (List Fd)}
theorem add_q {Q : Hp → Value → Prop} (l : Lf) (hq : ∀ H' v1 r, t.addP l = r → TrF H' v1 r.1 → Q H' (.tuple #[v1, .int .i64 r.2.1, .int .i64 r.2.2])) (h1 : Sl H 97 A (t.ls.map Lf.fds)) (h2 : Sl H 66 B qs) (h3 : All2 (PnF H) qs t.ps) (hl : t.ls.length ≤ maxLen) (hp : t.ps.length ≤ maxLen) (hf : Fz H w) :
    Calls Try.prog 35 #[tv A t.ls.length a B t.ps.length b, lv l] w (Outp H w Q) := by
  obtain ⟨w1, hw1⟩ : ∃ w1, w1 = w := ⟨_, rfl⟩
  rw [← hw1]
  rw [← hw1] at hf
  have hM := Mem.start hf
  refine C_tree_Add ?_
  unfold F_tree_Add
  ((with_reducible (refine mm_box hM ?_; clear hM; intro _ _ hM; refine mm_box hM ?_; clear hM; intro _ _ hM; refine mm_new hM ?_; clear hM; intro _ _ hM)))
  rename_i g1 _ g2 _ g3 _
  refine ⟨fun v w' => v = .bool (decide (¬ t.right = true ∨ l.name < 1 ∨ 64 < l.name)) ∧ hM.now w', ?_, ?_⟩
  · ((with_reducible (refine mm_ld hM ?_)))
    refine mm_pure hM (right_ok h1 h2 h3 hl hp hM.fz) (fun w hM => ?_)
    ((with_reducible (refine mop_c trivial ?_)))
    cases hr : t.right
    · rw [Bool.not_false]
      ((with_reducible ((iterate 3 refine mguard_n1 ?_); refine mop_c trivial ?_; (iterate 3 refine mguard_n1 ?_); refine mop_c trivial ?_)))
      exact ⟨by simp, hM.sub⟩
    · rw [Bool.not_true]
      ((with_reducible (refine mguard_yes ?_; refine mop_c trivial ?_; refine mguard_yes ?_; refine mm_ld hM ?_; refine mguard_yes ?_)))
      ((with_reducible (refine mop_cS trivial ?_ ?_)))
      · intro h
        ((with_reducible (refine mop_c trivial ?_; (iterate 3 refine mguard_n1 ?_); refine mop_c trivial ?_)))
        exact ⟨by rw [decide_eq_true (.inr (.inl h))], hM.sub⟩
      · intro h
        ((with_reducible (refine mop_c trivial ?_; refine mguard_yes ?_; refine mop_c trivial ?_; refine mguard_yes ?_; refine mm_ld hM ?_; refine mguard_yes ?_)))
        ((with_reducible (refine mop_cS trivial ?_ ?_)))
        · intro h4
          ((with_reducible (refine mop_c trivial ?_)))
          exact ⟨by rw [decide_eq_true (.inr (.inr h4))], hM.sub⟩
        · intro h4
          ((with_reducible (refine mop_c trivial ?_)))
          exact ⟨by rw [decide_eq_false (fun hh => hh.elim (fun k => k rfl) (fun k => k.elim h h4))], hM.sub⟩
  rintro v u2 w2 ⟨rfl, hM⟩
  unfold Tr.addP at hq
  by_cases hc : ¬ t.right = true ∨ l.name < 1 ∨ 64 < l.name
  · rw [if_pos hc] at hq
    rw [decide_eq_true hc]
    ((with_reducible (refine mif_true ?_; refine mop_c trivial ?_; refine mm_st hM ?_; clear hM; intro _ hM; refine rm_ld hM ?_)))
    exact hM.out (Le.refl _ _) (hq _ _ _ rfl (trF_none H))
  rw [if_neg hc] at hq
  rw [decide_eq_false hc]
  have hr : t.right = true := Decidable.byContradiction fun h => hc (.inl h)
  have hR := Tr.rt.1 hr
  have hlen := hR.len
  have hs : t.sound = t := if_pos hr
  ((with_reducible (refine mif_false ?_; refine mm_ld hM ?_; refine mop_c trivial ?_; refine mm_ld hM ?_)))
  refine mm_pure hM (place_ok l.name h1 h2 h3 hl hp hM.fz) (fun w hM => ?_)
  rw [hs]
  skip
  ((with_reducible (refine mop_cS trivial ?_ ?_)))
  · intro h
    have h' : 0 ≤ t.place l.name := by omega
    rw [if_pos h'] at hq
    ((with_reducible (refine mif_true ?_; refine mop_c trivial ?_; refine mm_st hM ?_; clear hM; intro _ hM; refine rm_ld hM ?_)))
    exact hM.out (Le.refl _ _) (hq _ _ _ rfl (trF_none H))
  intro h
  rw [if_neg (show ¬ 0 ≤ t.place l.name by omega)] at hq
  ((with_reducible (refine mif_false ?_; refine mm_ld hM ?_)))
  refine mm_own (clone_ok h1 h2 h3 (by omega) (by omega) (fun p hp => by have := (hR.loose p hp).1; omega) hM) ?_
  rintro v w' ⟨A', a', B', b', X, rfl, hX, hM⟩
  have hXl : X.length = t.ps.length := by rw [← hX, List.length_map]
  ((with_reducible (refine mm_st hM ?_; clear hM; intro _ hM; refine mop_c trivial ?_; refine mm_ld hM ?_; refine mop_c trivial ?_)))
  refine mm_pure hM (index_ok (H := Hp.of _) t.ls (by omega) (hM.reads (A := A')) (Fz.of _)) (fun w hM => ?_)
  have hgl := t.gap_le
  have hfx : fix (fun l => decide (l = Lf.zero)) t.ls = if t.gap < t.ls.length then (t.gap : Int) else -1 := by
    unfold fix
    rw [hR.gap_eq]
  rw [hfx]
  have hM := hM.at_ (fb g1 49 (tfd A' t.ls.length a' B' t.ps.length b'))
  refine ⟨fun v w' => ¬ (t.gap = t.ls.length ∧ t.gap = 64) ∧ v = .int .i64 t.gap ∧ ∃ A2 a2 B2 b2 m Y, Y.map (·.1) = addPs t ∧ Y.length = m ∧ Mem H w1 [fb g1 49 (tfd A2 (gapL t).length a2 B2 m b2), fb g2 52 l.fds, fb g3 49 (tfd none 0 0 none 0 0), rowR 52 97 A2 (gapL t).length a2 ((gapL t).map Lf.fds), rowR 104 66 B2 m b2 (Y.map xrow), allR Y] w', ?_, ?_⟩
  · by_cases hgap : t.gap < t.ls.length
    · rw [if_pos hgap]
      ((with_reducible (refine mop_cF trivial ?_ ?_)); (focus (first | assumption | omega | with_reducible rfl | exact fun h => Bool.noConfusion h)); (with_reducible (refine mif_false ?_)))
      have e1 : gapL t = t.ls := if_neg (by omega)
      have e2 : addPs t = t.ps := if_neg (by omega)
      rw [e1, e2]
      exact ⟨by omega, rfl, A', a', B', b', t.ps.length, X, hX, hXl, hM.sub⟩
    · rw [if_neg hgap]
      have hge : t.gap = t.ls.length := by omega
      have e1 : gapL t = t.ls ++ [Lf.zero] := if_pos hge
      ((with_reducible (refine mop_cT trivial ?_ ?_)); (focus (first | assumption | omega | with_reducible rfl | exact fun h => Bool.noConfusion h)); (with_reducible (refine mif_true ?_; refine mop_c trivial ?_; refine mm_ld hM ?_; refine mop_c trivial ?_)))
      ((with_reducible (refine mop_cS trivial ?_ ?_)))
      · intro hf
        rw [if_pos (by omega)] at hq
        ((with_reducible (refine mif_true ?_; refine mop_c trivial ?_; refine mm_st hM ?_; clear hM; intro _ hM; refine rm_ld hM ?_)))
        exact hM.out (Le.refl _ _) (hq _ _ _ rfl (trF_none H))
      · intro hnf
        have hnf2 : ¬ (t.gap = t.ls.length ∧ t.gap = 64) := by omega
        ((with_reducible (refine mif_false ?_)))
        refine ⟨fun w' => ∃ B2 b2 m Y, Y.map (·.1) = addPs t ∧ Y.length = m ∧ Mem H w1 [fb g1 49 (tfd A' t.ls.length a' B2 m b2), fb g2 52 l.fds, fb g3 49 (tfd none 0 0 none 0 0), rowR 52 97 A' t.ls.length a' (t.ls.map Lf.fds), rowR 104 66 B2 m b2 (Y.map xrow), allR Y] w', ?_, ?_⟩
        · skip
          ((with_reducible (refine mop_cS trivial ?_ ?_)))
          · intro hpos
            ((with_reducible (refine mif_true ?_; refine mop_c trivial ?_; refine mm_ld hM ?_; refine mop_c trivial ?_; refine mm_bsl hM ?_ ?_ ?_)); (focus rfl); (focus (constructor <;> simp)); (with_reducible (clear hM; intro _ _ hM; refine mm_appo hM ?_ ?_)); (focus omega); (with_reducible (clear hM; intro _ _ _ hM; refine mop_c trivial ?_; refine mm_st hM ?_; clear hM; intro _ hM)))
            rename_i A3 c3 _ _
            have e2 : addPs t = t.ps ++ [Pn.zero] := if_pos ⟨hge, by omega⟩
            rw [← xrow0, show X.map xrow ++ [xrow x0] = (X ++ [x0]).map xrow by simp] at hM
            have h0 : Mem H w1 (xres x0 :: _) _ := hM.row0 3 1
            have hM : Mem H w1 [allR X, xres x0, rowR 104 66 A3 (t.ps.length + 1) c3 ((X ++ [x0]).map xrow), fb g1 49 (tfd A' t.ls.length a' A3 (t.ps.length + 1) c3), rowR 52 97 A' t.ls.length a' (t.ls.map Lf.fds), fb g3 49 (tfd none 0 0 none 0 0), fb g2 52 l.fds] _ := h0.same
            exact ⟨A3, c3, t.ps.length + 1, X ++ [x0], by rw [e2, List.map_append, hX]; rfl, by simp [hXl], hM.addk.same⟩
          · intro hz
            ((with_reducible (refine mif_false ?_)))
            have e2 : addPs t = t.ps := if_neg (by omega)
            rw [e2]
            exact ⟨B', b', t.ps.length, X, hX, hXl, hM.sub⟩
        · clear hM
          rintro u3 w3 ⟨B2, b2, m, Y, hY, hYl, hM⟩
          ((with_reducible (refine mop_c trivial ?_; refine mm_ld hM ?_; refine mop_c trivial ?_; refine mm_bsl hM ?_ ?_ ?_)); (focus rfl); (focus (constructor <;> simp)); (with_reducible (clear hM; intro _ _ hM; refine mm_appo hM ?_ ?_)); (focus omega); (with_reducible (clear hM; intro _ _ _ hM; refine mop_c trivial ?_; refine mm_st hM ?_; clear hM; intro _ hM)))
          rename_i A3 c3 _ _
          have e4 : t.ls.length + 1 = (gapL t).length := by rw [e1]; simp
          have e5 : t.ls.map Lf.fds ++ [[Fd.one (.int .i64 0), .arr 32 (u8s hzero.1), .arr 32 (u8s hzero.1), .arr 32 (u8s hzero.1)]] = (gapL t).map Lf.fds := by
            rw [e1, List.map_append]
            rfl
          rw [e5, e4] at hM
          exact ⟨hnf2, by rw [hge], A3, c3, B2, b2, m, Y, hY, hYl, hM.sub⟩
  clear hM
  rintro v u4 w4 ⟨hnf, rfl, A2, a2, B2, b2, m, Y, hY, hYl, hM⟩
  rw [if_neg hnf] at hq
  have hgn := gapL_len t l
  have hgs := gapL_set t l
  have hap := addPs_len hR l
  have hln : (addL t l).length ≤ 64 ∧ t.gap < (addL t l).length := by
    rw [addL_len]
    split <;> omega
  rw [← hY, List.length_map, hYl] at hap
  obtain ⟨g4, rfl⟩ := (hM.up A2).rowAt ⟨.refl _⟩ (by omega)
  ((with_reducible (refine mop_c trivial ?_; refine mm_ld hM ?_; refine mm_ld hM ?_; refine mm_ixr hM ?_ ?_)); (focus omega); (with_reducible (intro _ hA)); (cases hA); (with_reducible (refine mm_str hM ?_ ?_)); (focus omega); (with_reducible (clear hM; intro _ hM; refine mop_c trivial ?_; refine mm_ld hM ?_; refine mop_c trivial ?_)))
  rw [Int.toNat_natCast, ← List.map_set, hgs, hgn] at hM
  rw [hgn]
  refine mm_call hM (bdirect_ok (addL t l).length t.gap (by omega) hM.fz) ?_
  rintro H1 v w5 l1 hM ⟨D, c, rfl, hD⟩
  have hdl := dirL_len (addL t l).length t.gap
  have hdm := fun x hx => dir_mem (n := (addL t l).length) (l := t.gap) (x := x) (by omega) hx
  have hnd := dir_nodup (n := (addL t l).length) (l := t.gap) (by omega)
  generalize hDL : dirL (addL t l).length t.gap = DL at *
  ((with_reducible (refine mop_c trivial ?_)))
  refine ⟨fun v w' => ∃ (i : Nat) (Z : List Xp) (H2 : Hp), v = .int .i64 i ∧ i ≤ DL.length ∧ Z.map (·.1) = onDir (updA t.gap) (DL.take i) (Y.map (·.1)) ∧ Z.length = m ∧ Le w1 H1 H2 ∧ Mem H2 w1 [fb g1 49 (tfd (some ⟨g4, 0, none⟩) (addL t l).length a2 B2 m b2), fb g2 52 l.fds, fb g3 49 (tfd none 0 0 none 0 0), rowR 52 97 (some ⟨g4, 0, none⟩) (addL t l).length a2 ((addL t l).map Lf.fds), rowR 104 66 B2 m b2 (Z.map xrow), allR Z] w', fun v _ => match v with | .int _ k => DL.length - k.toNat | _ => 0, ⟨0, Y, H1, rfl, by omega, rfl, hYl, Le.refl _ _, hM.same⟩, ?_⟩
  clear hM
  rintro v u6 w6 ⟨i, Z, H2, rfl, hi, hZ, hZl, l2, hM⟩
  have hD := hD.mono l2.le
  ((with_reducible (refine mop_cS trivial ?_ ?_)))
  · intro hlt
    have hlt' : i < DL.length := by omega
    have hxm := hdm DL[i] (List.getElem_mem _)
    have hk : (DL[i] / 2).toNat < Z.length := by omega
    have hk2 : (DL[i] / 2).toNat < (addPs t).length := by rw [← hY, List.length_map]; omega
    have hZk : Z[(DL[i] / 2).toNat].1 = (addPs t)[(DL[i] / 2).toNat] := by
      have e1 : (Z.map (·.1))[(DL[i] / 2).toNat]? = (addPs t)[(DL[i] / 2).toNat]? := by
        rw [hZ, hY]
        refine onDir_get (hnd.sublist (List.take_sublist _ _)) (fun y hy => by have := hdm y (List.mem_of_mem_take hy); omega) fun hm => ?_
        rw [show 2 * (((DL[i] / 2).toNat : Nat) : Int) + 1 = DL[i] by omega] at hm
        obtain ⟨j, hj, e⟩ := List.getElem_of_mem hm
        rw [List.getElem_take] at e
        have := (List.getElem_inj hnd).1 e
        simp at hj
        omega
      rw [List.getElem?_map, List.getElem?_eq_getElem hk, List.getElem?_eq_getElem hk2] at e1
      exact Option.some.inj e1
    obtain ⟨hs1, hs2⟩ := hR.addPs_loose _ (List.getElem_mem hk2)
    rw [← hZk] at hs1 hs2
    ((with_reducible (refine mif_true ?_)))
    refine ⟨fun w' => ∃ (Z' : List Xp) (H3 : Hp), Z'.map (·.1) = onDir (updA t.gap) (DL.take (i + 1)) (Y.map (·.1)) ∧ Z'.length = m ∧ Le w1 H1 H3 ∧ Mem H3 w1 [fb g1 49 (tfd (some ⟨g4, 0, none⟩) (addL t l).length a2 B2 m b2), fb g2 52 l.fds, fb g3 49 (tfd none 0 0 none 0 0), rowR 52 97 (some ⟨g4, 0, none⟩) (addL t l).length a2 ((addL t l).map Lf.fds), rowR 104 66 B2 m b2 (Z'.map xrow), allR Z'] w', ?_, ?_⟩
    · ((with_reducible refine mm_ixs ‹_› ?_ ?_ ?_); (focus (simp only [List.length_map]; omega)); (focus (simp only [List.length_map]; first | done | omega)); (with_reducible (intro _ _ hA)); (cases hA); (with_reducible refine mm_lds0 hM ‹_› (map_atI ?_) ?_); (focus omega); (with_reducible (refine mop_c trivial ?_; refine mm_ld hM ?_; refine mop_c ?_ ?_)); (focus omega); (with_reducible (refine mm_ixr hM ?_ ?_)); (focus omega); (with_reducible (intro _ hA)); (cases hA); (with_reducible (refine mop_c trivial ?_; refine mop_c trivial ?_; refine mm_ldr hM (map_at ?_) ?_)); (focus omega))
      cases hset : Z[(DL[i] / 2).toNat].1.set
      · ((with_reducible (refine mif_false ?_)))
        refine ⟨Z, H2, ?_, hZl, l2, hM⟩
        rw [onDir_succ hlt', ← hZ]
        refine List.ext_getElem (by simp) fun j h1 h2 => ?_
        simp only [List.getElem_modify, List.getElem_map]
        split
        · rename_i e
          subst e
          unfold updA
          rw [if_neg (by rw [hset]; simp)]
        · rfl
      · have hM := (hM.at_ (allR Z)).outk hk
        ((with_reducible (refine mif_true ?_; refine mop_c trivial ?_; refine mop_c trivial ?_; refine mm_ldr hM (map_at ?_) ?_)); (focus omega))
        refine mm_own (Q := fun v w' => ∃ bb, v = .tuple #[.int .i64 (bs' Z[(DL[i] / 2).toNat].1.loose t.gap), .bool bb] ∧ hM.now w') ((bsearch_ok (H := Hp.of _) Z[(DL[i] / 2).toNat].1.loose t.gap hs2 (by omega) (hM.reads (A := Z[(DL[i] / 2).toNat].2.1)) (Fz.of _)).mono ?_) ?_
        · rintro e w' ⟨⟨bb, rfl⟩, hst⟩
          exact ⟨_, rfl, bb, rfl, hM.call0 hst⟩
        rintro v w' ⟨bb, rfl, hM⟩
        ((with_reducible ((iterate 4 refine mop_c trivial ?_); refine mm_ldr hM (map_at ?_) ?_)); (focus omega); (with_reducible (refine mm_bsl hM ?_ ?_ ?_)); (focus rfl); (focus (constructor <;> simp)); (with_reducible (clear hM; intro _ _ hM)))
        refine mm_own (insert_ok Z[(DL[i] / 2).toNat].1.loose (bs' Z[(DL[i] / 2).toNat].1.loose t.gap) t.gap List.findIdx_le_length (by omega) (hM.up Z[(DL[i] / 2).toNat].2.1)) ?_
        rintro v w' ⟨A5, c5, rfl, hM⟩
        ((with_reducible (refine mop_c trivial ?_; refine mop_c trivial ?_)))
        refine mm_stf hM (map_at hk) (fun w' hM => ?_)
        have hy : updA t.gap Z[(DL[i] / 2).toNat].1 = { Z[(DL[i] / 2).toNat].1 with loose := ins Z[(DL[i] / 2).toNat].1.loose t.gap } := if_pos hset
        have hil := ins_len Z[(DL[i] / 2).toNat].1.loose t.gap
        have hrow : xrow (updA t.gap Z[(DL[i] / 2).toNat].1, A5, c5) = [.one (.bool Z[(DL[i] / 2).toNat].1.set), .arr 32 (u8s Z[(DL[i] / 2).toNat].1.pub.1), .arr 32 (u8s Z[(DL[i] / 2).toNat].1.abv.1), .one (.slice A5 (Z[(DL[i] / 2).toNat].1.loose.length + 1) c5)] := by
          rw [hy]
          show [Fd.one (.bool Z[(DL[i] / 2).toNat].1.set), _, _, Fd.one (.slice A5 (ins Z[(DL[i] / 2).toNat].1.loose t.gap).length c5)] = _
          rw [hil]
        have hres : rowR 3 1 A5 (Z[(DL[i] / 2).toNat].1.loose.length + 1) c5 (ints8 (Z[(DL[i] / 2).toNat].1.loose.take (bs' Z[(DL[i] / 2).toNat].1.loose t.gap) ++ (t.gap : Int) :: Z[(DL[i] / 2).toNat].1.loose.drop (bs' Z[(DL[i] / 2).toNat].1.loose t.gap))) = xres (updA t.gap Z[(DL[i] / 2).toNat].1, A5, c5) := by
          rw [hy, ← hil]
          rfl
        rw [← hrow, ← List.map_set, hres] at hM
        have hM := ((hM.at_ (restR Z (DL[i] / 2).toNat)).at_ (xres (updA t.gap Z[(DL[i] / 2).toNat].1, A5, c5))).ink hk
        skip
        refine ⟨Z.set (DL[i] / 2).toNat (updA t.gap Z[(DL[i] / 2).toNat].1, A5, c5), H2, ?_, by simpa using hZl, l2, hM.same⟩
        rw [onDir_succ hlt', ← hZ]
        refine List.ext_getElem (by simp) fun j h1 h2 => ?_
        simp only [List.getElem_modify, List.getElem_map, List.getElem_set]
        split
        · rename_i e
          subst e
          rfl
        · rfl
    · clear hM
      rintro u7 w7 ⟨Z', H3, hZ', hZl', l3, hM⟩
      ((with_reducible (refine mop_c ?_ ?_)); (focus omega))
      exact ⟨⟨i + 1, Z', H3, rfl, by omega, hZ', hZl', l3, hM⟩, by simp only; omega⟩
  · intro hge
    ((with_reducible (refine mif_false ?_; refine mm_ld hM ?_; refine mm_st hM ?_; clear hM; intro _ hM; refine rm_ld hM ?_)))
    rw [List.take_of_length_le (by omega), hY] at hZ
    rw [← hZl] at hM ⊢
    have hM : Mem H2 w1 [rowR 52 97 (some ⟨g4, 0, none⟩) (addL t l).length a2 ((addL t l).map Lf.fds), rowR 104 66 B2 Z.length b2 (Z.map xrow), allR Z] _ := hM.sub
    obtain ⟨H4, l4, hM, hT⟩ := hM.frzT (fun x hx => by
      have hm : x.1 ∈ onDir (updA t.gap) DL (addPs t) := hZ ▸ List.mem_map_of_mem hx
      rw [onDir_eq hnd fun y hy => by have := hdm y hy; omega] at hm
      obtain ⟨k, hk, e⟩ := List.getElem_of_mem hm
      rw [List.getElem_mapIdx] at e
      have hk' : k < (addPs t).length := by simpa using hk
      have := (hR.addPs_loose _ (List.getElem_mem hk')).1
      have h64 : x.1.loose.length ≤ 65 := by
        rw [← e]
        split
        · unfold updA
          split
          · rw [ins_len]
            omega
          · omega
        · omega
      simp only [maxLen]
      omega)
    refine hM.out ((l1.trans l2).trans l4) (hq _ _ _ rfl ?_)
    rw [hZ] at hT
    exact hT
end
end Go.Proofs.Ytmjpbomonhjebaa
