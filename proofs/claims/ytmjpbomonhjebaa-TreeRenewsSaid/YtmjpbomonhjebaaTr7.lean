/- A leaf taken out of a tree, another key: the program's walks. -/
import Derived.Test.YtmjpbomonhjebaaTr6
namespace Go.Proofs.Ytmjpbomonhjebaa
open Go.RowKit Go.Lib

theorem onDir_mem {f : Pn → Pn} {P : Pn → Prop} (hf : ∀ p, P p → P (f p)) : ∀ {D : List Int} {ps : List Pn}, (∀ p ∈ ps, P p) → ∀ p ∈ onDir f D ps, P p
  | [], _, h => h
  | x :: D, ps, h => by
    refine onDir_mem hf (D := D) (ps := ps.modify (x / 2).toNat f) fun p hp => ?_
    obtain ⟨i, hi, rfl⟩ := List.getElem_of_mem hp
    rw [List.getElem_modify]
    have hi' : i < ps.length := by simpa using hi
    split
    · exact hf _ (h _ (List.getElem_mem hi'))
    · exact h _ (List.getElem_mem hi')
theorem Tr.Rt.blank_loose {t : Tr} (h : t.Rt) {p : Int} : ∀ q ∈ blankP t.size p t.ps, q.loose.length ≤ 64 :=
  onDir_mem (P := fun q => q.loose.length ≤ 64) (fun _ _ => by simp [Pn.zero]) fun q hq => (h.loose q hq).1
theorem Tr.body {t : Tr} {p : Int} (h : ¬ t.nobody p) : 0 ≤ p ∧ p.toNat < t.ls.length ∧ p < t.ls.length := by
  unfold Tr.nobody Tr.size at h
  omega
section
variable {H : Hp} {w0 w : World} {L R : List Res} {A B C : Option Addr} {a b c n : Nat} {t : Tr} {qs ps : List (List Fd)}
theorem remove_q {Q : Hp → Value → Prop} (p : Int) (hq : ∀ H' v1 r, t.remP p = r → TrF H' v1 r.1 → Q H' (.tuple #[v1, .int .i64 r.2])) (h1 : Sl H 97 A (t.ls.map Lf.fds)) (h2 : Sl H 66 B qs) (h3 : All2 (PnF H) qs t.ps) (hl : t.ls.length ≤ maxLen) (hp : t.ps.length ≤ maxLen) (hf : Fz H w) :
    Calls Try.prog 38 #[tv A t.ls.length a B t.ps.length b, .int .i64 p] w (Outp H w Q) := by
  obtain ⟨w1, hw1⟩ : ∃ w1, w1 = w := ⟨_, rfl⟩
  rw [← hw1]
  rw [← hw1] at hf
  have hM := Mem.start hf
  refine C_tree_Remove ?_
  unfold F_tree_Remove
  unfold Tr.remP at hq
  ((with_reducible (refine mm_box hM ?_; clear hM; intro _ _ hM; refine mm_new hM ?_; clear hM; intro _ _ hM; refine mm_ld hM ?_)))
  rename_i g1 _ g2 _
  refine mm_pure hM (right_ok h1 h2 h3 hl hp hM.fz) (fun w hM => ?_)
  ((with_reducible (refine mop_c trivial ?_)))
  cases hr : t.right
  · rw [if_pos (by rw [hr]; simp)] at hq
    rw [Bool.not_false]
    ((with_reducible (refine mif_true ?_; refine mop_c trivial ?_; refine mm_st hM ?_; clear hM; intro _ hM; refine rm_ld hM ?_)))
    exact hM.out (Le.refl _ _) (hq _ _ _ rfl (trF_none H))
  rw [if_neg (by rw [hr]; simp)] at hq
  have hR := Tr.rt.1 hr
  have hlen := hR.len
  rw [Bool.not_true]
  ((with_reducible (refine mif_false ?_; refine mm_ld hM ?_)))
  refine mm_pure hM (none_ok p h1 hl hM.fz) (fun w hM => ?_)
  by_cases hn : t.nobody p
  · rw [if_pos hn] at hq
    rw [decide_eq_true hn]
    ((with_reducible (refine mif_true ?_; refine mop_c trivial ?_; refine mm_st hM ?_; clear hM; intro _ hM; refine rm_ld hM ?_)))
    exact hM.out (Le.refl _ _) (hq _ _ _ rfl (trF_none H))
  rw [if_neg hn] at hq
  rw [decide_eq_false hn]
  obtain ⟨hb0, hb1, hb2⟩ := Tr.body hn
  ((with_reducible (refine mif_false ?_; refine mm_ld hM ?_)))
  refine mm_own (clone_ok h1 h2 h3 (by omega) (by omega) (fun p hp => by have := (hR.loose p hp).1; omega) hM) ?_
  rintro v w' ⟨A', a', B', b', X, rfl, hX, hM⟩
  have hXl : X.length = t.ps.length := by rw [← hX, List.length_map]
  obtain ⟨g4, rfl⟩ := hM.rowAt ⟨.refl _⟩ (by omega)
  ((with_reducible (refine mm_st hM ?_; clear hM; intro _ hM; refine mop_c trivial ?_; refine mm_ld hM ?_; refine mop_c trivial ?_; refine mm_ixr hM ?_ ?_)); (focus omega); (with_reducible (intro _ hA)); (cases hA); (with_reducible (refine mm_str hM ?_ ?_)); (focus omega); (with_reducible (clear hM; intro _ hM; refine mm_ld hM ?_)))
  have hz : [Fd.one (.int .i64 0), .arr 32 (u8s hzero.1), .arr 32 (u8s hzero.1), .arr 32 (u8s hzero.1)] = Lf.zero.fds := rfl
  rw [hz, ← List.map_set] at hM
  have hsl : (t.ls.set p.toNat Lf.zero).length = t.ls.length := List.length_set
  obtain ⟨ls2, hls⟩ : ∃ ls2, t.ls.set p.toNat Lf.zero = ls2 := ⟨_, rfl⟩
  rw [hls] at hM hsl hq
  rw [← hsl, ← hXl] at hM
  have hM : Mem H w1 [rowR 52 97 (some ⟨g4, 0, none⟩) ls2.length a' (ls2.map Lf.fds), rowR 104 66 B' X.length b' (X.map xrow), allR X, fb g1 49 (tfd (some ⟨g4, 0, none⟩) ls2.length a' B' X.length b'), fb g2 49 (tfd none 0 0 none 0 0)] _ := hM.sub
  rw [← hsl, ← hXl]
  refine mm_own (blank_ok (ls := ls2) (X := X) (p := p) (by omega) (by omega) hM) ?_
  clear hM
  rintro v w5 ⟨H1, Y, rfl, hY, hYl, l1, hM⟩
  rw [hX] at hY
  ((with_reducible (refine mop_c trivial ?_; refine mm_ld hM ?_; refine mop_c trivial ?_)))
  refine ⟨fun v w' => ∃ i : Nat, v = .int .i64 i ∧ i ≤ ls2.length ∧ keepN ls2 ls2.length = keepN ls2 i ∧ hM.now w', fun v _ => match v with | .int _ k => k.toNat | _ => 0, ⟨ls2.length, rfl, by omega, rfl, hM⟩, ?_⟩
  rintro v u6 w6 ⟨i, rfl, hi, hk, hM⟩
  obtain ⟨-, ca1, -, -⟩ := (hM.up (some ⟨g4, 0, none⟩)).rowLen ⟨.refl _⟩
  obtain ⟨-, cb1, -, -⟩ := (hM.up B').rowLen ⟨.refl _⟩
  refine ⟨fun w' => 0 < i ∧ keepN ls2 i = keepN ls2 (i - 1) ∧ hM.now w', ?_, ?_⟩
  · skip
    have hfin : keepN ls2 i = i → ∀ w', Mem H1 w1 [rowR 52 97 (some ⟨g4, 0, none⟩) ls2.length a' (ls2.map Lf.fds), rowR 104 66 B' X.length b' (Y.map xrow), allR Y] w' → Outp H w1 Q (.returned (.tuple #[.agg (fl (tfd (some ⟨g4, 0, none⟩) (i : Int).toNat a' B' (if (i : Int) - 1 < 0 then 0 else (i : Int) - 1).toNat b')).toArray, .int .i64 0])) w' := fun hi2 w' hM => by
      rw [hi2] at hk
      have hM := hM.short (k := i) (by omega)
      have hM := (hM.up B').short (k := i - 1) (by omega)
      have hM := (hM.at_ (allR Y)).dropk (i - 1)
      have e1 : (ls2.take i).length = i := by rw [List.length_take]; omega
      have e2 : (Y.take (i - 1)).length = i - 1 := by rw [List.length_take]; omega
      rw [← List.map_take, ← List.map_take] at hM
      have hM : Mem H1 w1 [rowR 52 97 (some ⟨g4, 0, none⟩) i a' ((ls2.take i).map Lf.fds), rowR 104 66 B' (i - 1) b' ((Y.take (i - 1)).map xrow), allR (Y.take (i - 1))] w' := hM.same
      have hM : Mem H1 w1 [rowR 52 97 (some ⟨g4, 0, none⟩) (ls2.take i).length a' ((ls2.take i).map Lf.fds), rowR 104 66 B' (Y.take (i - 1)).length b' ((Y.take (i - 1)).map xrow), allR (Y.take (i - 1))] w' := by
        rw [e1, e2]
        exact hM
      obtain ⟨H4, l4, hM, hT⟩ := hM.frzT (fun x hx => by
        have hm : x.1 ∈ blankP t.size p t.ps := by
          have : x.1 ∈ Y.map (·.1) := List.mem_map_of_mem (List.mem_of_mem_take hx)
          rw [hY, hsl] at this
          exact this
        have := hR.blank_loose _ hm
        simp only [maxLen]
        omega)
      rw [e1, e2] at hT
      rw [Int.toNat_natCast, show (if (i : Int) - 1 < 0 then 0 else (i : Int) - 1).toNat = i - 1 by split <;> omega]
      refine hM.out (l1.trans l4) (hq _ _ _ rfl ?_)
      show TrF H4 _ (cut ls2 (blankP t.size p t.ps))
      unfold cut
      rw [hk]
      rw [List.map_take, hY, hsl] at hT
      exact hT
    ((with_reducible (refine mop_cS trivial ?_ ?_)))
    · intro hpos
      have hix : ((i : Int) - 1).toNat < ls2.length := by omega
      have hna := nameAt_at (ls := ls2) (p := (i : Int) - 1) (by omega) hix
      ((with_reducible (refine mguard_yes ?_; refine mop_c trivial ?_; refine mguard_yes ?_; refine mm_ld hM ?_; refine mguard_yes ?_; refine mop_c trivial ?_; refine mguard_yes ?_; refine mop_c ?_ ?_)); (focus omega); (with_reducible (refine mguard_yes ?_; refine mm_ixr hM ?_ ?_)); (focus omega); (with_reducible (intro _ hA)); (cases hA); (with_reducible (refine mguard_yes ?_; refine mop_c trivial ?_; refine mguard_yes ?_; refine mm_ldr hM (map_at ?_) ?_)); (focus omega); (with_reducible (refine mguard_yes ?_)))
      rw [← hna]
      have hkn : keepN ls2 i = if nameAt ls2 ((i : Int) - 1) = 0 then keepN ls2 (i - 1) else i := by
        cases i with
        | zero => omega
        | succ i =>
          rw [keepN]
          simp
      ((with_reducible (refine mop_cS trivial ?_ ?_)))
      · intro h0
        ((with_reducible (refine mop_c trivial ?_; refine mif_true ?_)))
        exact ⟨by omega, by rw [hkn, if_pos h0], hM⟩
      · intro h0
        rw [if_neg h0] at hkn
        ((with_reducible (refine mop_c trivial ?_; refine mif_false ?_; refine dp_c trivial ?_; refine dm_ld hM ?_; refine dp_c ?_ ?_)); (focus omega); (with_reducible (refine dp_c trivial ?_; refine dm_ld hM ?_; refine dp_c ?_ ?_)); (focus omega); (with_reducible (refine dp_c trivial ?_; refine dp_c ?_ ?_)); (focus omega); (with_reducible (refine dp_c trivial ?_; refine dS_st hM ?_; clear hM; intro _ hM; refine dp_c trivial ?_; refine dS_st hM ?_; clear hM; intro _ hM; refine mm_end hM ?_; clear hM; intro _ hM; refine mm_ld hM ?_; refine mm_st hM ?_; clear hM; intro _ hM; refine rm_ld hM ?_)))
        exact hfin hkn _ hM.sub
    · intro hz
      ((with_reducible ((iterate 8 refine mguard_n2 ?_); refine mop_c trivial ?_; refine mif_false ?_; refine dp_c trivial ?_; refine dm_ld hM ?_; refine dp_c ?_ ?_)); (focus omega); (with_reducible (refine dp_c trivial ?_; refine dm_ld hM ?_; refine dp_c ?_ ?_)); (focus omega); (with_reducible (refine dp_c trivial ?_; refine dp_c ?_ ?_)); (focus omega); (with_reducible (refine dp_c trivial ?_; refine dS_st hM ?_; clear hM; intro _ hM; refine dp_c trivial ?_; refine dS_st hM ?_; clear hM; intro _ hM; refine mm_end hM ?_; clear hM; intro _ hM; refine mm_ld hM ?_; refine mm_st hM ?_; clear hM; intro _ hM; refine rm_ld hM ?_)))
      obtain rfl : i = 0 := by omega
      exact hfin rfl _ hM.sub
  · rintro u7 w7 ⟨hpos, hk2, hM⟩
    ((with_reducible (refine mop_c ?_ ?_)); (focus omega))
    exact ⟨⟨i - 1, by congr 1; omega, by omega, by rw [hk, hk2], hM⟩, by simp only; omega⟩
theorem renew_q {Q : Hp → Value → Prop} (p : Int) (pub : H32) (hq : ∀ H' v1 r, t.renP p pub = r → TrF H' v1 r.1 → Q H' (.tuple #[v1, .int .i64 r.2])) (h1 : Sl H 97 A (t.ls.map Lf.fds)) (h2 : Sl H 66 B qs) (h3 : All2 (PnF H) qs t.ps) (hl : t.ls.length ≤ maxLen) (hp : t.ps.length ≤ maxLen) (hf : Fz H w) :
    Calls Try.prog 40 #[tv A t.ls.length a B t.ps.length b, .int .i64 p, ha pub] w (Outp H w Q) := by
  obtain ⟨w1, hw1⟩ : ∃ w1, w1 = w := ⟨_, rfl⟩
  rw [← hw1]
  rw [← hw1] at hf
  have hM := Mem.start hf
  refine C_tree_Renew ?_
  unfold F_tree_Renew
  unfold Tr.renP at hq
  ((with_reducible (refine mm_box hM ?_; clear hM; intro _ _ hM; refine mm_box hM ?_; clear hM; intro _ _ hM; refine mm_new hM ?_; clear hM; intro _ _ hM; refine mm_ld hM ?_)))
  rename_i g1 _ g5 _ g2 _
  refine mm_pure hM (right_ok h1 h2 h3 hl hp hM.fz) (fun w hM => ?_)
  ((with_reducible (refine mop_c trivial ?_)))
  cases hr : t.right
  · rw [if_pos (by rw [hr]; simp)] at hq
    rw [Bool.not_false]
    ((with_reducible (refine mif_true ?_; refine mop_c trivial ?_; refine mm_st hM ?_; clear hM; intro _ hM; refine rm_ld hM ?_)))
    exact hM.out (Le.refl _ _) (hq _ _ _ rfl (trF_none H))
  rw [if_neg (by rw [hr]; simp)] at hq
  have hR := Tr.rt.1 hr
  have hlen := hR.len
  rw [Bool.not_true]
  ((with_reducible (refine mif_false ?_; refine mm_ld hM ?_)))
  refine mm_pure hM (none_ok p h1 hl hM.fz) (fun w hM => ?_)
  by_cases hn : t.nobody p
  · rw [if_pos hn] at hq
    rw [decide_eq_true hn]
    ((with_reducible (refine mif_true ?_; refine mop_c trivial ?_; refine mm_st hM ?_; clear hM; intro _ hM; refine rm_ld hM ?_)))
    exact hM.out (Le.refl _ _) (hq _ _ _ rfl (trF_none H))
  rw [if_neg hn] at hq
  rw [decide_eq_false hn]
  obtain ⟨hb0, hb1, hb2⟩ := Tr.body hn
  ((with_reducible (refine mif_false ?_; refine mm_ld hM ?_)))
  refine mm_own (clone_ok h1 h2 h3 (by omega) (by omega) (fun p hp => by have := (hR.loose p hp).1; omega) hM) ?_
  rintro v w' ⟨A', a', B', b', X, rfl, hX, hM⟩
  have hXl : X.length = t.ps.length := by rw [← hX, List.length_map]
  obtain ⟨g4, rfl⟩ := hM.rowAt ⟨.refl _⟩ (by omega)
  obtain ⟨l0, hl0⟩ : ∃ l0, t.ls[p.toNat] = l0 := ⟨_, rfl⟩
  have hk0 : (t.ls.map Lf.fds)[p.toNat]? = some l0.fds := by rw [← hl0]; exact map_at hb1
  ((with_reducible (refine mm_st hM ?_; clear hM; intro _ hM; refine mop_c trivial ?_; refine mm_ld hM ?_; refine mm_ld hM ?_; refine mm_ixr hM ?_ ?_)); (focus omega); (with_reducible (intro _ hA)); (cases hA); (with_reducible (refine mop_c trivial ?_)))
  refine mm_stf hM hk0 (fun w' hM => ?_)
  have hz : [Fd.one (.int .i64 l0.name), .arr 32 (u8s pub.1), .arr 32 (u8s l0.ver.1), .arr 32 (u8s l0.abv.1)] = (l0.key pub l0.abv).fds := rfl
  rw [hz] at hM
  have hk1 : ((t.ls.map Lf.fds).set p.toNat (l0.key pub l0.abv).fds)[p.toNat]? = some (l0.key pub l0.abv).fds := by
    rw [List.getElem?_set_self (by simpa using hb1)]
  ((with_reducible (refine mop_c trivial ?_; refine mm_ld hM ?_; refine mop_c trivial ?_; refine mm_ixr hM ?_ ?_)); (focus omega); (with_reducible (intro _ hA)); (cases hA); (with_reducible (refine mop_c trivial ?_)))
  refine mm_stf hM hk1 (fun w' hM => ?_)
  have hz2 : [Fd.one (.int .i64 l0.name), .arr 32 (u8s pub.1), .arr 32 (u8s l0.ver.1), .arr 32 (u8s hzero.1)] = (l0.key pub hzero).fds := rfl
  have hz3 : [Fd.one (.int .i64 (l0.key pub l0.abv).name), .arr 32 (u8s (l0.key pub l0.abv).pub.1), .arr 32 (u8s (l0.key pub l0.abv).ver.1), .arr 32 (u8s hzero.1)] = (l0.key pub hzero).fds := rfl
  rw [hz3, List.set_set, ← List.map_set] at hM
  have hmod : t.ls.set p.toNat (l0.key pub hzero) = t.ls.modify p.toNat (·.key pub hzero) := by
    refine List.ext_getElem (by simp) fun i k1 k2 => ?_
    simp only [List.getElem_modify, List.getElem_set]
    split
    · rename_i e
      subst e
      rw [hl0]
    · rfl
  rw [hmod] at hM
  have hsl : (t.ls.modify p.toNat (·.key pub hzero)).length = t.ls.length := List.length_modify ..
  obtain ⟨ls2, hls⟩ : ∃ ls2, t.ls.modify p.toNat (·.key pub hzero) = ls2 := ⟨_, rfl⟩
  rw [hls] at hM hsl hq
  rw [← hsl, ← hXl] at hM
  ((with_reducible (refine mm_ld hM ?_)))
  have hM : Mem H w1 [rowR 52 97 (some ⟨g4, 0, none⟩) ls2.length a' (ls2.map Lf.fds), rowR 104 66 B' X.length b' (X.map xrow), allR X, fb g1 49 (tfd (some ⟨g4, 0, none⟩) ls2.length a' B' X.length b'), fb g2 49 (tfd none 0 0 none 0 0)] _ := hM.sub
  refine mm_own (blank_ok (ls := ls2) (X := X) (p := p) (by omega) (by omega) hM) ?_
  clear hM
  rintro v w5 ⟨H1, Y, rfl, hY, hYl, l1, hM⟩
  rw [hX] at hY
  ((with_reducible (refine mm_ld hM ?_; refine mm_st hM ?_; clear hM; intro _ hM; refine rm_ld hM ?_)))
  rw [← hYl] at hM
  have hM : Mem H1 w1 [rowR 52 97 (some ⟨g4, 0, none⟩) ls2.length a' (ls2.map Lf.fds), rowR 104 66 B' Y.length b' (Y.map xrow), allR Y] _ := hM.sub
  obtain ⟨H4, l4, hM, hT⟩ := hM.frzT (fun x hx => by
    have hm : x.1 ∈ blankP t.size p t.ps := by
      have : x.1 ∈ Y.map (·.1) := List.mem_map_of_mem hx
      rw [hY, hsl] at this
      exact this
    have := hR.blank_loose _ hm
    simp only [maxLen]
    omega)
  rw [hYl] at hT
  refine hM.out (l1.trans l4) (hq _ _ _ rfl ?_)
  rw [hY, hsl] at hT
  rw [hsl]
  exact hT
end
end Go.Proofs.Ytmjpbomonhjebaa
