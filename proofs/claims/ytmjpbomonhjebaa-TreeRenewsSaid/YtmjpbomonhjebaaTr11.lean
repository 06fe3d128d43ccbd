/- The document's trees: a leaf put in; two trees alike; trees of a size. -/
import Derived.Test.YtmjpbomonhjebaaTr10
namespace Go.Proofs.Ytmjpbomonhjebaa
open Go.RowKit Go.Lib

theorem lf_eq (l m : Lf) : l = m ↔ (l.name = m.name ∧ l.pub = m.pub ∧ l.ver = m.ver ∧ l.abv = m.abv) := by
  cases l
  cases m
  simp
def addF (n x : Int) (i : Nat) (p : Pn) : Pn := if p.set = true ∧ hld n (2 * i + 1) x then { p with loose := putL p.loose x } else p
theorem addF_loose {n x : Int} {ps : List Pn} (h : ∀ p ∈ ps, p.loose.length ≤ 64) : ∀ p ∈ ps.mapIdx (addF n x), p.loose.length ≤ 65 := fun p hp => by
  obtain ⟨i, hi, rfl⟩ := List.getElem_of_mem hp
  rw [List.getElem_mapIdx]
  have := h _ (List.getElem_mem (by simpa using hi : i < ps.length))
  unfold addF
  split
  · rw [putL_len]
    omega
  · omega
def gapM (t : Tr) (l : Lf) : List Lf := if t.gap = t.ls.length then t.ls ++ [l] else t.ls
theorem gapM_set (t : Tr) (l : Lf) : (gapM t l).set t.gap l = addL t l := rfl
theorem gapM_len (t : Tr) (l : Lf) : (gapM t l).length = (addL t l).length := by
  rw [← gapM_set t l, List.length_set]
section
variable {H : Hp} {w0 w : World} {L R : List Res} {A B C : Option Addr} {a b c n : Nat} {t : Tr} {qs ps : List (List Fd)}
theorem dm_joined {P : Program} {f : Nat} {args : List Value} {ext : Bool} {K : Value → World → Prop} {R : Value → List Res → Prop} (h : Mem H w0 L w) [hf : FunC P f] (hc : ∀ w, Mem H w0 L w → Calls P f args.toArray w fun en w' => ∃ v L', en = .returned v ∧ R v L' ∧ Mem H w L' w') (hk : ∀ v L' w', Ext w w' → R v L' → Mem H w0 (L' ++ L) w' → K v w') : df P w (o_call (fv f) args) ext K :=
  dm_ownE (Q := fun v w' => ∃ L', R v L' ∧ Mem H w0 (L' ++ L) w') h (fun w h => (hc w h).mono fun en w' ⟨v, L', he, hr, hm⟩ => ⟨v, he, hm.ext, L', hr, h.join hm fun _ _ h => h⟩) fun v w' hx ⟨L', hr, hm⟩ => hk v L' w' hx hr hm
theorem radd_q {Q : Hp → Value → Prop} (l : Lf) (hq : ∀ H' v1 r, t.addR l = r → TrF H' v1 r.1 → Q H' (.tuple #[v1, .int .i64 r.2.1, .int .i64 r.2.2])) (hR : t.Rt) (h1 : Sl H 97 A (t.ls.map Lf.fds)) (h2 : Sl H 66 B qs) (h3 : All2 (PnF H) qs t.ps) (hf : Fz H w) :
    Calls Try.prog 36 #[tv A t.ls.length a B t.ps.length b, lv l] w (Outp H w Q) := by
  obtain ⟨w1, hw1⟩ : ∃ w1, w1 = w := ⟨_, rfl⟩
  rw [← hw1]
  rw [← hw1] at hf
  have hM := Mem.start hf
  have hlen := hR.len
  refine C_bevyref08_Add ?_
  unfold F_bevyref08_Add
  unfold Tr.addR at hq
  ((with_reducible (refine mm_box hM ?_; clear hM; intro _ _ hM; refine mm_box hM ?_; clear hM; intro _ _ hM; refine mm_new hM ?_; clear hM; intro _ _ hM)))
  rename_i g1 _ g2 _ g3 _
  refine ⟨fun v w' => v = .bool (decide (l.name < 1 ∨ 64 < l.name)) ∧ hM.now w', ?_, ?_⟩
  · ((with_reducible (refine mop_c trivial ?_; refine mm_ld hM ?_)))
    ((with_reducible (refine mop_cS trivial ?_ ?_)))
    · intro h
      ((with_reducible ((iterate 3 refine mguard_n1 ?_); refine mop_c trivial ?_)))
      exact ⟨by rw [decide_eq_true (.inl h)], hM⟩
    · intro h
      ((with_reducible (refine mguard_yes ?_; refine mop_c trivial ?_; refine mguard_yes ?_; refine mm_ld hM ?_; refine mguard_yes ?_)))
      ((with_reducible (refine mop_cS trivial ?_ ?_)))
      · intro h4
        ((with_reducible (refine mop_c trivial ?_)))
        exact ⟨by rw [decide_eq_true (.inr h4)], hM⟩
      · intro h4
        ((with_reducible (refine mop_c trivial ?_)))
        exact ⟨by rw [decide_eq_false (fun hh => hh.elim h h4)], hM⟩
  rintro v u2 w2 ⟨rfl, hM⟩
  by_cases hc : l.name < 1 ∨ 64 < l.name
  · rw [if_pos hc] at hq
    rw [decide_eq_true hc]
    ((with_reducible (refine mif_true ?_; refine mop_c trivial ?_; refine mm_st hM ?_; clear hM; intro _ hM; refine rm_ld hM ?_)))
    exact hM.out (Le.refl _ _) (hq _ _ _ rfl (trF_none H))
  rw [if_neg hc] at hq
  rw [decide_eq_false hc]
  ((with_reducible (refine mif_false ?_; refine mm_ld hM ?_; refine mop_c trivial ?_; refine mm_ld hM ?_)))
  refine mm_pure hM (rplace_ok l.name h1 (by simp only [maxLen]; omega) hM.fz) (fun w hM => ?_)
  ((with_reducible (refine mop_cS trivial ?_ ?_)))
  · intro h
    have h' : 0 ≤ t.place l.name := by omega
    rw [if_pos h'] at hq
    ((with_reducible (refine mif_true ?_; refine mop_c trivial ?_; refine mm_st hM ?_; clear hM; intro _ hM; refine rm_ld hM ?_)))
    exact hM.out (Le.refl _ _) (hq _ _ _ rfl (trF_none H))
  intro h
  rw [if_neg (show ¬ 0 ≤ t.place l.name by omega)] at hq
  ((with_reducible (refine mif_false ?_; refine mm_ld hM ?_)))
  refine mm_own (rcopy_ok h1 h2 h3 (by omega) (by omega) (fun p hp => by have := (hR.loose p hp).1; omega) hM) ?_
  rintro v w' ⟨A', a', B', b', X, rfl, hX, hM⟩
  have hXl : X.length = t.ps.length := by rw [← hX, List.length_map]
  ((with_reducible (refine mm_st hM ?_; clear hM; intro _ hM)))
  refine ⟨fun v w' => ∃ i : Nat, v = .int .i64 i ∧ i ≤ t.ls.length ∧ (∀ j (hj : j < t.ls.length), j < i → decide (t.ls[j].name = 0) = false) ∧ hM.now w', fun v _ => match v with | .int _ k => t.ls.length - k.toNat | _ => 0, ⟨0, rfl, by omega, fun j _ h => by omega, hM⟩, ?_⟩
  rintro v u w3 ⟨i, rfl, hi, hlo, hM⟩
  have hgl := t.gap_le
  refine ⟨fun w' => i < t.ls.length ∧ (∀ (h : i < t.ls.length), t.ls[i].name ≠ 0) ∧ hM.now w', ?_, ?_⟩
  · ((with_reducible (refine mop_c trivial ?_; refine mm_ld hM ?_; refine mop_c trivial ?_)))
    have hex : t.gap = i ∨ i < t.ls.length ∧ ∀ (h : i < t.ls.length), t.ls[i].name ≠ 0 := by
      by_cases h : i < t.ls.length
      · by_cases h0 : t.ls[i].name = 0
        · exact .inl (findIdx_at h hlo (decide_eq_true h0))
        · exact .inr ⟨h, fun _ => h0⟩
      · have : t.gap = t.ls.length := findIdx_none fun j hj => hlo j hj (by omega)
        exact .inl (by omega)
    have hgn : t.gap = i → ∀ (h : i < t.ls.length), t.ls[i].name = 0 := fun e h => by
      have := List.findIdx_getElem (p := fun l : Lf => decide (l.name = 0)) (xs := t.ls) (w := by show t.gap < _; omega)
      simp only [decide_eq_true_eq] at this
      rw [← this]
      congr 2
      exact e.symm
    by_cases hg : t.gap = i
    rotate_left
    · obtain ⟨hlt, hne⟩ := hex.resolve_left hg
      have hne' := hne hlt
      ((with_reducible (refine mop_cT trivial ?_ ?_)); (focus (first | assumption | omega | with_reducible rfl | exact fun h => Bool.noConfusion h)); (with_reducible (refine mguard_yes ?_; refine mop_c trivial ?_; refine mguard_yes ?_; refine mm_ld hM ?_; refine mguard_yes ?_; refine mop_c trivial ?_; refine mguard_yes ?_; refine mm_ixr hM ?_ ?_)); (focus omega); (with_reducible (intro _ hA)); (cases hA); (with_reducible (refine mguard_yes ?_; refine mop_c trivial ?_; refine mguard_yes ?_; refine mm_ldr hM (map_atI ?_) ?_)); (focus omega); (with_reducible (refine mguard_yes ?_; refine mop_cT trivial ?_ ?_)); (focus (first | assumption | omega | with_reducible rfl | exact fun h => Bool.noConfusion h)); (with_reducible (refine mop_c trivial ?_; refine mif_true ?_)))
      exact ⟨hlt, hne, hM⟩
    · have hgn := hgn hg
      clear hex
      rcases Nat.lt_or_ge i t.ls.length with hlt | hge
      · have hgn' := hgn hlt
        have e1 : gapM t l = t.ls := if_neg (by omega)
        have e2 : addPs t = t.ps := if_neg (by omega)
        rw [if_neg (by omega)] at hq
        obtain ⟨gA, rfl⟩ := (hM.up A').rowAt ⟨.refl _⟩ (by omega)
        ((with_reducible (refine mop_cT trivial ?_ ?_)); (focus (first | assumption | omega | with_reducible rfl | exact fun h => Bool.noConfusion h)); (with_reducible (refine mguard_yes ?_; refine mop_c trivial ?_; refine mguard_yes ?_; refine mm_ld hM ?_; refine mguard_yes ?_; refine mop_c trivial ?_; refine mguard_yes ?_; refine mm_ixr hM ?_ ?_)); (focus omega); (with_reducible (intro _ hA)); (cases hA); (with_reducible (refine mguard_yes ?_; refine mop_c trivial ?_; refine mguard_yes ?_; refine mm_ldr hM (map_atI ?_) ?_)); (focus omega); (with_reducible (refine mguard_yes ?_; refine mop_cF trivial ?_ ?_)); (focus (first | assumption | omega | with_reducible rfl | exact fun h => Bool.noConfusion h)); (with_reducible (refine mop_c trivial ?_; refine mif_false ?_; refine mop_cF trivial ?_ ?_)); (focus (first | assumption | omega | with_reducible rfl | exact fun h => Bool.noConfusion h)); (with_reducible (refine mif_false ?_)))
        refine ⟨fun w' => ∃ A2 a2 B2 b2 m Y, Y.map (·.1) = addPs t ∧ Y.length = m ∧ Mem H w1 [fb g1 49 (tfd A2 (gapM t l).length a2 B2 m b2), fb g2 52 l.fds, fb g3 49 (tfd none 0 0 none 0 0), rowR 52 97 A2 (gapM t l).length a2 ((gapM t l).map Lf.fds), rowR 104 66 B2 m b2 (Y.map xrow), allR Y] w', ?_, ?_⟩
        · ((with_reducible (refine mop_c trivial ?_; refine mm_ld hM ?_; refine mop_c trivial ?_; refine mop_cF trivial ?_ ?_)); (focus (first | assumption | omega | with_reducible rfl | exact fun h => Bool.noConfusion h)); (with_reducible (refine mif_false ?_)))
          rw [e1, e2]
          exact ⟨some ⟨gA, 0, none⟩, a', B', b', t.ps.length, X, hX, hXl, hM.sub⟩
        clear hM
        rintro u5 w5 ⟨A2, a2, B2, b2, m, Y, hY, hYl, hM⟩
        have hgn2 := gapM_len t l
        have hgs := gapM_set t l
        have hap := addPs_len hR l
        have hln : (addL t l).length ≤ 64 ∧ t.gap < (addL t l).length := by
          rw [addL_len]
          split <;> omega
        rw [← hY, List.length_map, hYl] at hap
        obtain ⟨g4, rfl⟩ := (hM.up A2).rowAt ⟨.refl _⟩ (by omega)
        ((with_reducible (refine mop_c trivial ?_; refine mm_ld hM ?_; refine mm_ld hM ?_; refine mm_ixr hM ?_ ?_)); (focus omega); (with_reducible (intro _ hA)); (cases hA); (with_reducible (refine mm_str hM ?_ ?_)); (focus omega); (with_reducible (clear hM; intro _ hM)))
        rw [Int.toNat_natCast, ← hg, ← List.map_set, hgs, hgn2] at hM
        rw [← hg]
        have hloose := hR.addPs_loose
        have hGl : ((addPs t).mapIdx (addF (addL t l).length t.gap)).length = (addPs t).length := by simp
        have hPl : (addPs t).length = m := by rw [← hY, List.length_map, hYl]
        refine ⟨fun v w' => ∃ (k : Nat) (Z : List Xp), v = .int .i64 k ∧ k ≤ m ∧ Z.length = m ∧ Z.map (·.1) = ((addPs t).mapIdx (addF (addL t l).length t.gap)).take k ++ (addPs t).drop k ∧ Mem H w1 [fb g1 49 (tfd (some ⟨g4, 0, none⟩) (addL t l).length a2 B2 m b2), fb g2 52 l.fds, fb g3 49 (tfd none 0 0 none 0 0), rowR 52 97 (some ⟨g4, 0, none⟩) (addL t l).length a2 ((addL t l).map Lf.fds), rowR 104 66 B2 m b2 (Z.map xrow), allR Z] w', fun v _ => match v with | .int _ k => m - k.toNat | _ => 0, ⟨0, Y, rfl, by omega, hYl, by simpa using hY, hM.same⟩, ?_⟩
        clear hM
        rintro v u6 w6 ⟨k, Z, rfl, hk, hZl, hZ, hM⟩
        ((with_reducible (refine mop_c trivial ?_; refine mm_ld hM ?_; refine mop_c trivial ?_)))
        ((with_reducible (refine mop_cS trivial ?_ ?_)))
        · intro hlt2
          have hk' : k < Z.length := by omega
          have hk2 : k < (addPs t).length := by omega
          have hZk := take_drop_get hZ hGl hk2 hk'
          have hget : ((addPs t).mapIdx (addF (addL t l).length t.gap))[k]'(by omega) = addF (addL t l).length t.gap k Z[k].1 := by rw [List.getElem_mapIdx, hZk]
          obtain ⟨hs1, -⟩ := hloose _ (List.getElem_mem hk2)
          rw [← hZk] at hs1
          ((with_reducible (refine mif_true ?_)))
          refine ⟨fun w' => ∃ (Z' : List Xp), Z'.length = m ∧ Z'.map (·.1) = ((addPs t).mapIdx (addF (addL t l).length t.gap)).take (k + 1) ++ (addPs t).drop (k + 1) ∧ Mem H w1 [fb g1 49 (tfd (some ⟨g4, 0, none⟩) (addL t l).length a2 B2 m b2), fb g2 52 l.fds, fb g3 49 (tfd none 0 0 none 0 0), rowR 52 97 (some ⟨g4, 0, none⟩) (addL t l).length a2 ((addL t l).map Lf.fds), rowR 104 66 B2 m b2 (Z'.map xrow), allR Z'] w', ?_, ?_⟩
          · skip
            refine ⟨fun v w' => v = .bool (decide (Z[k].1.set = true ∧ hld (addL t l).length (2 * k + 1) t.gap)) ∧ hM.now w', ?_, ?_⟩
            · ((with_reducible (refine mop_c trivial ?_; refine mm_ld hM ?_; refine mm_ixr hM ?_ ?_)); (focus omega); (with_reducible (intro _ hA)); (cases hA); (with_reducible (refine mop_c trivial ?_; refine mm_ldr hM (map_atI ?_) ?_)); (focus omega))
              rcases Bool.eq_false_or_eq_true Z[k].1.set with hs | hs
              · rw [hs]
                ((with_reducible (refine mguard_yes ?_; refine mop_c trivial ?_; refine mguard_yes ?_; refine mm_ld hM ?_; refine mguard_yes ?_; refine mop_c trivial ?_; refine mguard_yes ?_; refine mop_c trivial ?_; refine mguard_yes ?_; refine mop_c ?_ ?_)); (focus omega); (with_reducible (refine mguard_yes ?_; refine mop_c ?_ ?_)); (focus omega); (with_reducible (refine mguard_yes ?_; refine mop_c trivial ?_; refine mguard_yes ?_; refine mm_purC hM ?_ (fun _ hM2 => ?_))); (focus (first | exact trivial | assumption | omega)); (with_reducible (replace hM := hM2; clear hM2; refine mop_c trivial ?_)))
                refine ⟨?_, hM⟩
                congr 1
                rw [decide_eq_decide]
                exact ⟨fun h => ⟨rfl, h⟩, fun h => h.2⟩
              · rw [hs]
                ((with_reducible ((iterate 8 refine mguard_n2 ?_); refine mop_c trivial ?_)))
                exact ⟨by rw [decide_eq_false (fun h => by cases h.1)], hM⟩
            rintro v u7 w7 ⟨rfl, hM⟩
            by_cases hc2 : Z[k].1.set = true ∧ hld (addL t l).length (2 * k + 1) t.gap
            · rw [decide_eq_true hc2]
              have hM := (hM.at_ (allR Z)).outk hk'
              ((with_reducible (refine mif_true ?_; refine dp_c trivial ?_; refine dm_ld hM ?_; refine dp_c trivial ?_; refine dm_ld hM ?_; refine dp_ixr hM ?_ ?_)); (focus omega); (with_reducible (intro _ hA)); (cases hA); (with_reducible (refine dp_c trivial ?_; refine dm_ldr hM (map_atI ?_) ?_)); (focus omega))
              refine dm_joined (R := fun v L' => ∃ A5 c5, v = .slice A5 (putL Z[k].1.loose t.gap).length c5 ∧ L' = [rowR 3 1 A5 (putL Z[k].1.loose t.gap).length c5 (ints8 (putL Z[k].1.loose t.gap))]) hM (fun w hM => (rput_ok (H := Hp.of w) Z[k].1.loose t.gap (by omega) (hM.reads (A := Z[k].2.1)) (Fz.of w)).mono ?_) ?_
              · rintro e w' ⟨v, rfl, A5, c5, rfl, hP⟩
                exact ⟨_, _, rfl, ⟨A5, c5, rfl, rfl⟩, hP.weak (le_of hM.fz)⟩
              rintro v L' w' hx ⟨A5, c5, rfl, rfl⟩ hM
              rw [List.cons_append, List.nil_append] at hM
              ((with_reducible (refine dp_ixr hM ?_ ?_)); (focus omega); (with_reducible (intro _ hA)); (cases hA); (with_reducible (refine dp_c trivial ?_)))
              refine dm_stf hM (map_at hk') (fun w' hM => ?_)
              have hfy : addF (addL t l).length t.gap k Z[k].1 = { Z[k].1 with loose := putL Z[k].1.loose t.gap } := if_pos hc2
              have hrow : xrow (addF (addL t l).length t.gap k Z[k].1, A5, c5) = [.one (.bool Z[k].1.set), .arr 32 (u8s Z[k].1.pub.1), .arr 32 (u8s Z[k].1.abv.1), .one (.slice A5 (putL Z[k].1.loose t.gap).length c5)] := by
                rw [hfy]
              have hres : rowR 3 1 A5 (putL Z[k].1.loose t.gap).length c5 (ints8 (putL Z[k].1.loose t.gap)) = xres (addF (addL t l).length t.gap k Z[k].1, A5, c5) := by
                rw [hfy]
              rw [← hrow, Int.toNat_natCast, ← List.map_set, hres] at hM
              have hM := ((hM.at_ (restR Z k)).at_ (xres (addF (addL t l).length t.gap k Z[k].1, A5, c5))).ink hk'
              ((with_reducible (refine mm_end hM ?_; clear hM; intro _ hM)))
              exact ⟨Z.set k (addF (addL t l).length t.gap k Z[k].1, A5, c5), by simpa using hZl, set_take_drop hZ hGl hk2 hget.symm, hM.sub⟩
            · rw [decide_eq_false hc2]
              ((with_reducible (refine mif_false ?_)))
              refine ⟨Z, hZl, ?_, hM⟩
              have hsame : addF (addL t l).length t.gap k Z[k].1 = Z[k].1 := if_neg hc2
              rw [hsame, hZk] at hget
              rw [hZ, List.take_succ_eq_append_getElem (by omega), hget, List.append_assoc, List.drop_eq_getElem_cons hk2]
              rfl
          · clear hM
            rintro u7 w7 ⟨Z', hZl', hZ', hM⟩
            ((with_reducible (refine mop_c ?_ ?_)); (focus omega))
            exact ⟨⟨k + 1, Z', rfl, by omega, hZl', hZ', hM⟩, by simp only; omega⟩
        · intro hge2
          obtain rfl : k = m := by omega
          rw [List.drop_eq_nil_of_le (by omega), List.append_nil, List.take_of_length_le (by omega)] at hZ
          ((with_reducible (refine mif_false ?_; refine mm_ld hM ?_; refine mm_st hM ?_; clear hM; intro _ hM; refine rm_ld hM ?_)))
          rw [← hZl] at hM ⊢
          have hM : Mem H w1 [rowR 52 97 (some ⟨g4, 0, none⟩) (addL t l).length a2 ((addL t l).map Lf.fds), rowR 104 66 B2 Z.length b2 (Z.map xrow), allR Z] _ := hM.sub
          obtain ⟨H4, l4, hM, hT⟩ := hM.frzT (fun x hx => by
            have hm : x.1 ∈ (addPs t).mapIdx (addF (addL t l).length t.gap) := hZ ▸ List.mem_map_of_mem hx
            have := addF_loose (fun p hp => (hloose p hp).1) _ hm
            simp only [maxLen]
            omega)
          refine hM.out l4 (hq _ _ _ rfl ?_)
          rw [hZ] at hT
          exact hT
      · have hgm : t.gap = t.ls.length := by omega
        have e1 : gapM t l = t.ls ++ [l] := if_pos hgm
        ((with_reducible (refine mop_cF trivial ?_ ?_)); (focus (first | assumption | omega | with_reducible rfl | exact fun h => Bool.noConfusion h)); (with_reducible ((iterate 7 refine mguard_n2 ?_); refine mop_c trivial ?_; refine mif_false ?_)))
        ((with_reducible (refine mop_cS trivial ?_ ?_)))
        · intro hf
          rw [if_pos (by omega)] at hq
          ((with_reducible (refine mif_true ?_; refine mop_c trivial ?_; refine mm_st hM ?_; clear hM; intro _ hM; refine rm_ld hM ?_)))
          exact hM.out (Le.refl _ _) (hq _ _ _ rfl (trF_none H))
        intro hnf
        rw [if_neg (by omega)] at hq
        ((with_reducible (refine mif_false ?_)))
        refine ⟨fun w' => ∃ A2 a2 B2 b2 m Y, Y.map (·.1) = addPs t ∧ Y.length = m ∧ Mem H w1 [fb g1 49 (tfd A2 (gapM t l).length a2 B2 m b2), fb g2 52 l.fds, fb g3 49 (tfd none 0 0 none 0 0), rowR 52 97 A2 (gapM t l).length a2 ((gapM t l).map Lf.fds), rowR 104 66 B2 m b2 (Y.map xrow), allR Y] w', ?_, ?_⟩
        · ((with_reducible (refine mop_c trivial ?_; refine mm_ld hM ?_; refine mop_c trivial ?_; refine mop_cT trivial ?_ ?_)); (focus (first | assumption | omega | with_reducible rfl | exact fun h => Bool.noConfusion h)); (with_reducible (refine mif_true ?_)))
          refine ⟨fun w' => ∃ B2 b2 m Y, Y.map (·.1) = addPs t ∧ Y.length = m ∧ Mem H w1 [fb g1 49 (tfd A' t.ls.length a' B2 m b2), fb g2 52 l.fds, fb g3 49 (tfd none 0 0 none 0 0), rowR 52 97 A' t.ls.length a' (t.ls.map Lf.fds), rowR 104 66 B2 m b2 (Y.map xrow), allR Y] w', ?_, ?_⟩
          · skip
            ((with_reducible (refine mop_cS trivial ?_ ?_)))
            · intro hpos
              ((with_reducible (refine mif_true ?_; refine mop_c trivial ?_; refine mm_ld hM ?_; refine mop_c trivial ?_; refine mm_bsl hM ?_ ?_ ?_)); (focus rfl); (focus (constructor <;> simp)); (with_reducible (clear hM; intro _ _ hM; refine mm_appo hM ?_ ?_)); (focus omega); (with_reducible (clear hM; intro _ _ _ hM; refine mop_c trivial ?_; refine mm_st hM ?_; clear hM; intro _ hM)))
              rename_i A3 c3 _ _
              have e2 : addPs t = t.ps ++ [Pn.zero] := if_pos ⟨hgm, by omega⟩
              rw [← xrow0, show X.map xrow ++ [xrow x0] = (X ++ [x0]).map xrow by simp] at hM
              have h0 : Mem H w1 (xres x0 :: _) _ := hM.row0 3 1
              have hM : Mem H w1 [allR X, xres x0, rowR 104 66 A3 (t.ps.length + 1) c3 ((X ++ [x0]).map xrow), fb g1 49 (tfd A' t.ls.length a' A3 (t.ps.length + 1) c3), rowR 52 97 A' t.ls.length a' (t.ls.map Lf.fds), fb g3 49 (tfd none 0 0 none 0 0), fb g2 52 l.fds] _ := h0.same
              exact ⟨A3, c3, t.ps.length + 1, X ++ [x0], by rw [e2, List.map_append, hX]; rfl, by simp [hXl], hM.addk.same⟩
            · intro hz
              ((with_reducible (refine mif_false ?_)))
              have e2 : addPs t = t.ps := if_neg (by omega)
              rw [e2]
              exact ⟨B', b', t.ps.length, X, hX, hXl, hM.sub⟩
          · clear hM
            rintro u3 w3 ⟨B2, b2, m, Y, hY, hYl, hM⟩
            ((with_reducible (refine mop_c trivial ?_; refine mm_ld hM ?_; refine mm_ld hM ?_; refine mm_bsl hM ?_ ?_ ?_)); (focus rfl); (focus (constructor <;> simp)); (with_reducible (clear hM; intro _ _ hM; refine mm_appo hM ?_ ?_)); (focus omega); (with_reducible (clear hM; intro _ _ _ hM; refine mop_c trivial ?_; refine mm_st hM ?_; clear hM; intro _ hM)))
            rename_i A3 c3 _ _
            have e4 : t.ls.length + 1 = (gapM t l).length := by rw [e1]; simp
            have e5 : t.ls.map Lf.fds ++ [l.fds] = (gapM t l).map Lf.fds := by
              rw [e1, List.map_append]
              rfl
            rw [e5, e4] at hM
            exact ⟨A3, c3, B2, b2, m, Y, hY, hYl, hM.sub⟩
        clear hM
        rintro u5 w5 ⟨A2, a2, B2, b2, m, Y, hY, hYl, hM⟩
        have hgn2 := gapM_len t l
        have hgs := gapM_set t l
        have hap := addPs_len hR l
        have hln : (addL t l).length ≤ 64 ∧ t.gap < (addL t l).length := by
          rw [addL_len]
          split <;> omega
        rw [← hY, List.length_map, hYl] at hap
        obtain ⟨g4, rfl⟩ := (hM.up A2).rowAt ⟨.refl _⟩ (by omega)
        ((with_reducible (refine mop_c trivial ?_; refine mm_ld hM ?_; refine mm_ld hM ?_; refine mm_ixr hM ?_ ?_)); (focus omega); (with_reducible (intro _ hA)); (cases hA); (with_reducible (refine mm_str hM ?_ ?_)); (focus omega); (with_reducible (clear hM; intro _ hM)))
        rw [Int.toNat_natCast, ← hg, ← List.map_set, hgs, hgn2] at hM
        rw [← hg]
        have hloose := hR.addPs_loose
        have hGl : ((addPs t).mapIdx (addF (addL t l).length t.gap)).length = (addPs t).length := by simp
        have hPl : (addPs t).length = m := by rw [← hY, List.length_map, hYl]
        refine ⟨fun v w' => ∃ (k : Nat) (Z : List Xp), v = .int .i64 k ∧ k ≤ m ∧ Z.length = m ∧ Z.map (·.1) = ((addPs t).mapIdx (addF (addL t l).length t.gap)).take k ++ (addPs t).drop k ∧ Mem H w1 [fb g1 49 (tfd (some ⟨g4, 0, none⟩) (addL t l).length a2 B2 m b2), fb g2 52 l.fds, fb g3 49 (tfd none 0 0 none 0 0), rowR 52 97 (some ⟨g4, 0, none⟩) (addL t l).length a2 ((addL t l).map Lf.fds), rowR 104 66 B2 m b2 (Z.map xrow), allR Z] w', fun v _ => match v with | .int _ k => m - k.toNat | _ => 0, ⟨0, Y, rfl, by omega, hYl, by simpa using hY, hM.same⟩, ?_⟩
        clear hM
        rintro v u6 w6 ⟨k, Z, rfl, hk, hZl, hZ, hM⟩
        ((with_reducible (refine mop_c trivial ?_; refine mm_ld hM ?_; refine mop_c trivial ?_)))
        ((with_reducible (refine mop_cS trivial ?_ ?_)))
        · intro hlt2
          have hk' : k < Z.length := by omega
          have hk2 : k < (addPs t).length := by omega
          have hZk := take_drop_get hZ hGl hk2 hk'
          have hget : ((addPs t).mapIdx (addF (addL t l).length t.gap))[k]'(by omega) = addF (addL t l).length t.gap k Z[k].1 := by rw [List.getElem_mapIdx, hZk]
          obtain ⟨hs1, -⟩ := hloose _ (List.getElem_mem hk2)
          rw [← hZk] at hs1
          ((with_reducible (refine mif_true ?_)))
          refine ⟨fun w' => ∃ (Z' : List Xp), Z'.length = m ∧ Z'.map (·.1) = ((addPs t).mapIdx (addF (addL t l).length t.gap)).take (k + 1) ++ (addPs t).drop (k + 1) ∧ Mem H w1 [fb g1 49 (tfd (some ⟨g4, 0, none⟩) (addL t l).length a2 B2 m b2), fb g2 52 l.fds, fb g3 49 (tfd none 0 0 none 0 0), rowR 52 97 (some ⟨g4, 0, none⟩) (addL t l).length a2 ((addL t l).map Lf.fds), rowR 104 66 B2 m b2 (Z'.map xrow), allR Z'] w', ?_, ?_⟩
          · skip
            refine ⟨fun v w' => v = .bool (decide (Z[k].1.set = true ∧ hld (addL t l).length (2 * k + 1) t.gap)) ∧ hM.now w', ?_, ?_⟩
            · ((with_reducible (refine mop_c trivial ?_; refine mm_ld hM ?_; refine mm_ixr hM ?_ ?_)); (focus omega); (with_reducible (intro _ hA)); (cases hA); (with_reducible (refine mop_c trivial ?_; refine mm_ldr hM (map_atI ?_) ?_)); (focus omega))
              rcases Bool.eq_false_or_eq_true Z[k].1.set with hs | hs
              · rw [hs]
                ((with_reducible (refine mguard_yes ?_; refine mop_c trivial ?_; refine mguard_yes ?_; refine mm_ld hM ?_; refine mguard_yes ?_; refine mop_c trivial ?_; refine mguard_yes ?_; refine mop_c trivial ?_; refine mguard_yes ?_; refine mop_c ?_ ?_)); (focus omega); (with_reducible (refine mguard_yes ?_; refine mop_c ?_ ?_)); (focus omega); (with_reducible (refine mguard_yes ?_; refine mop_c trivial ?_; refine mguard_yes ?_; refine mm_purC hM ?_ (fun _ hM2 => ?_))); (focus (first | exact trivial | assumption | omega)); (with_reducible (replace hM := hM2; clear hM2; refine mop_c trivial ?_)))
                refine ⟨?_, hM⟩
                congr 1
                rw [decide_eq_decide]
                exact ⟨fun h => ⟨rfl, h⟩, fun h => h.2⟩
              · rw [hs]
                ((with_reducible ((iterate 8 refine mguard_n2 ?_); refine mop_c trivial ?_)))
                exact ⟨by rw [decide_eq_false (fun h => by cases h.1)], hM⟩
            rintro v u7 w7 ⟨rfl, hM⟩
            by_cases hc2 : Z[k].1.set = true ∧ hld (addL t l).length (2 * k + 1) t.gap
            · rw [decide_eq_true hc2]
              have hM := (hM.at_ (allR Z)).outk hk'
              ((with_reducible (refine mif_true ?_; refine dp_c trivial ?_; refine dm_ld hM ?_; refine dp_c trivial ?_; refine dm_ld hM ?_; refine dp_ixr hM ?_ ?_)); (focus omega); (with_reducible (intro _ hA)); (cases hA); (with_reducible (refine dp_c trivial ?_; refine dm_ldr hM (map_atI ?_) ?_)); (focus omega))
              refine dm_joined (R := fun v L' => ∃ A5 c5, v = .slice A5 (putL Z[k].1.loose t.gap).length c5 ∧ L' = [rowR 3 1 A5 (putL Z[k].1.loose t.gap).length c5 (ints8 (putL Z[k].1.loose t.gap))]) hM (fun w hM => (rput_ok (H := Hp.of w) Z[k].1.loose t.gap (by omega) (hM.reads (A := Z[k].2.1)) (Fz.of w)).mono ?_) ?_
              · rintro e w' ⟨v, rfl, A5, c5, rfl, hP⟩
                exact ⟨_, _, rfl, ⟨A5, c5, rfl, rfl⟩, hP.weak (le_of hM.fz)⟩
              rintro v L' w' hx ⟨A5, c5, rfl, rfl⟩ hM
              rw [List.cons_append, List.nil_append] at hM
              ((with_reducible (refine dp_ixr hM ?_ ?_)); (focus omega); (with_reducible (intro _ hA)); (cases hA); (with_reducible (refine dp_c trivial ?_)))
              refine dm_stf hM (map_at hk') (fun w' hM => ?_)
              have hfy : addF (addL t l).length t.gap k Z[k].1 = { Z[k].1 with loose := putL Z[k].1.loose t.gap } := if_pos hc2
              have hrow : xrow (addF (addL t l).length t.gap k Z[k].1, A5, c5) = [.one (.bool Z[k].1.set), .arr 32 (u8s Z[k].1.pub.1), .arr 32 (u8s Z[k].1.abv.1), .one (.slice A5 (putL Z[k].1.loose t.gap).length c5)] := by
                rw [hfy]
              have hres : rowR 3 1 A5 (putL Z[k].1.loose t.gap).length c5 (ints8 (putL Z[k].1.loose t.gap)) = xres (addF (addL t l).length t.gap k Z[k].1, A5, c5) := by
                rw [hfy]
              rw [← hrow, Int.toNat_natCast, ← List.map_set, hres] at hM
              have hM := ((hM.at_ (restR Z k)).at_ (xres (addF (addL t l).length t.gap k Z[k].1, A5, c5))).ink hk'
              ((with_reducible (refine mm_end hM ?_; clear hM; intro _ hM)))
              exact ⟨Z.set k (addF (addL t l).length t.gap k Z[k].1, A5, c5), by simpa using hZl, set_take_drop hZ hGl hk2 hget.symm, hM.sub⟩
            · rw [decide_eq_false hc2]
              ((with_reducible (refine mif_false ?_)))
              refine ⟨Z, hZl, ?_, hM⟩
              have hsame : addF (addL t l).length t.gap k Z[k].1 = Z[k].1 := if_neg hc2
              rw [hsame, hZk] at hget
              rw [hZ, List.take_succ_eq_append_getElem (by omega), hget, List.append_assoc, List.drop_eq_getElem_cons hk2]
              rfl
          · clear hM
            rintro u7 w7 ⟨Z', hZl', hZ', hM⟩
            ((with_reducible (refine mop_c ?_ ?_)); (focus omega))
            exact ⟨⟨k + 1, Z', rfl, by omega, hZl', hZ', hM⟩, by simp only; omega⟩
        · intro hge2
          obtain rfl : k = m := by omega
          rw [List.drop_eq_nil_of_le (by omega), List.append_nil, List.take_of_length_le (by omega)] at hZ
          ((with_reducible (refine mif_false ?_; refine mm_ld hM ?_; refine mm_st hM ?_; clear hM; intro _ hM; refine rm_ld hM ?_)))
          rw [← hZl] at hM ⊢
          have hM : Mem H w1 [rowR 52 97 (some ⟨g4, 0, none⟩) (addL t l).length a2 ((addL t l).map Lf.fds), rowR 104 66 B2 Z.length b2 (Z.map xrow), allR Z] _ := hM.sub
          obtain ⟨H4, l4, hM, hT⟩ := hM.frzT (fun x hx => by
            have hm : x.1 ∈ (addPs t).mapIdx (addF (addL t l).length t.gap) := hZ ▸ List.mem_map_of_mem hx
            have := addF_loose (fun p hp => (hloose p hp).1) _ hm
            simp only [maxLen]
            omega)
          refine hM.out l4 (hq _ _ _ rfl ?_)
          rw [hZ] at hT
          exact hT
  · rintro u4 w4 ⟨hlt, hne, hM⟩
    ((with_reducible (refine mop_c ?_ ?_)); (focus omega))
    refine ⟨⟨i + 1, rfl, by omega, fun j hj hji => ?_, hM⟩, by simp only; omega⟩
    rcases Nat.lt_or_ge j i with h2 | h2
    · exact hlo j hj h2
    · obtain rfl : j = i := by omega
      exact decide_eq_false (hne hj)
theorem tsame_ok {v1 v2 : Value} {t1 t2 : Tr} (h1 : TrF H v1 t1) (h2 : TrF H v2 t2) (hf : Fz H w) :
    Calls Try.prog 37 #[v1, v2] w fun en w' => en = .returned (.bool (decide (t1 = t2))) ∧ St w [] w' := by
  obtain ⟨A1, a1, B1, b1, q1, rfl, hA1, hB1, hP1⟩ := h1.ex
  obtain ⟨A2, a2, B2, b2, q2, rfl, hA2, hB2, hP2⟩ := h2.ex
  obtain ⟨m1, m2⟩ := h1.len
  obtain ⟨m3, m4⟩ := h2.len
  simp only [maxLen] at m1 m2 m3 m4
  have hM := Mem.start hf
  refine C_bevyref08_Same ?_
  unfold F_bevyref08_Same
  ((with_reducible (refine mm_box hM ?_; clear hM; intro _ _ hM; refine mm_box hM ?_; clear hM; intro _ _ hM)))
  rename_i g1 _ g2 _
  refine ⟨fun v w' => v = .bool (!decide (t1.ls.length = t2.ls.length ∧ t1.ps.length = t2.ps.length)) ∧ hM.now w', ?_, ?_⟩
  · ((with_reducible (refine mop_c trivial ?_; refine mm_ld hM ?_; refine mop_c trivial ?_; refine mop_c trivial ?_; refine mm_ld hM ?_; refine mop_c trivial ?_)))
    ((with_reducible (refine mop_cS trivial ?_ ?_)))
    · intro h
      ((with_reducible ((iterate 7 refine mguard_n1 ?_); refine mop_c trivial ?_)))
      exact ⟨by rw [decide_eq_false (by omega)]; rfl, hM⟩
    · intro h
      ((with_reducible (refine mguard_yes ?_; refine mop_c trivial ?_; refine mguard_yes ?_; refine mm_ld hM ?_; refine mguard_yes ?_; refine mop_c trivial ?_; refine mguard_yes ?_; refine mop_c trivial ?_; refine mguard_yes ?_; refine mm_ld hM ?_; refine mguard_yes ?_; refine mop_c trivial ?_; refine mguard_yes ?_)))
      ((with_reducible (refine mop_cS trivial ?_ ?_)))
      · intro h4
        ((with_reducible (refine mop_c trivial ?_)))
        exact ⟨by rw [decide_eq_false (by omega)]; rfl, hM⟩
      · intro h4
        ((with_reducible (refine mop_c trivial ?_)))
        exact ⟨by rw [decide_eq_true (by omega)]; rfl, hM⟩
  rintro v u w2 ⟨rfl, hM⟩
  by_cases hc : t1.ls.length = t2.ls.length ∧ t1.ps.length = t2.ps.length
  case neg =>
    rw [decide_eq_false hc]
    ((with_reducible (refine mif_nf ?_)))
    exact ⟨by rw [decide_eq_false (show ¬ t1 = t2 from fun e => hc (by rw [e]; exact ⟨rfl, rfl⟩))], hM.st⟩
  rw [decide_eq_true hc]
  obtain ⟨hc1, hc2⟩ := hc
  have hq1 := hP1.len
  have hq2 := hP2.len
  ((with_reducible (refine mif_nt ?_)))
  refine ⟨fun v w' => ∃ i : Nat, v = .int .i64 i ∧ i ≤ t1.ls.length ∧ t1.ls.take i = t2.ls.take i ∧ hM.now w', fun v _ => match v with | .int _ k => t1.ls.length - k.toNat | _ => 0, ⟨0, rfl, by omega, by simp, hM⟩, ?_⟩
  rintro v u w3 ⟨i, rfl, hi, he, hM⟩
  ((with_reducible (refine mop_c trivial ?_; refine mm_ld hM ?_; refine mop_c trivial ?_)))
  ((with_reducible (refine mop_cS trivial ?_ ?_)))
  · intro hlt
    have k1 : i < t1.ls.length := by omega
    have k2 : i < t2.ls.length := by omega
    ((with_reducible (refine mif_true ?_; refine dp_c trivial ?_; refine dm_ld hM ?_)); (with_reducible refine dp_ixs ‹_› ?_ ?_ ?_); (focus (simp only [List.length_map]; omega)); (focus (simp only [List.length_map]; first | done | omega)); (with_reducible (intro _ _ hA)); (cases hA); (with_reducible refine dm_lds0 hM ‹_› (map_atI ?_) ?_); (focus omega); (with_reducible (refine dp_c trivial ?_; refine dm_ld hM ?_)); (with_reducible refine dp_ixs ‹_› ?_ ?_ ?_); (focus (simp only [List.length_map]; omega)); (focus (simp only [List.length_map]; first | done | omega)); (with_reducible (intro _ _ hA)); (cases hA); (with_reducible refine dm_lds0 hM ‹_› (map_atI ?_) ?_); (focus omega))
    ((with_reducible (refine dp_cS trivial ?_ ?_)))
    · intro hne
      ((with_reducible (refine mm_end hM ?_; clear hM; intro _ hM; refine mif_true ?_)))
      refine ⟨?_, hM.st⟩
      rw [decide_eq_false]
      rintro rfl
      exact hne ⟨rfl, rfl, rfl, rfl⟩
    · intro heq
      ((with_reducible (refine mm_end hM ?_; clear hM; intro _ hM; refine mif_false ?_; refine mop_c ?_ ?_)); (focus omega))
      refine ⟨⟨i + 1, rfl, by omega, ?_, hM⟩, by simp only; omega⟩
      rw [List.take_succ_eq_append_getElem k1, List.take_succ_eq_append_getElem k2, he, (lf_eq t1.ls[i] t2.ls[i]).2 (Decidable.not_not.1 heq)]
  · intro hge
    obtain rfl : i = t1.ls.length := by omega
    have hls : t1.ls = t2.ls := by
      rw [List.take_length, hc1, List.take_length] at he
      exact he
    ((with_reducible (refine mif_false ?_)))
    refine ⟨fun v w' => ∃ j : Nat, v = .int .i64 j ∧ j ≤ t1.ps.length ∧ t1.ps.take j = t2.ps.take j ∧ Mem H w [fb g2 49 (tfd A2 t2.ls.length a2 B2 t2.ps.length b2), fb g1 49 (tfd A1 t1.ls.length a1 B1 t1.ps.length b1)] w', fun v _ => match v with | .int _ k => t1.ps.length - k.toNat | _ => 0, ⟨0, rfl, by omega, by simp, hM⟩, ?_⟩
    clear hM
    rintro v u w4 ⟨j, rfl, hj, hej, hM⟩
    ((with_reducible (refine mop_c trivial ?_; refine mm_ld hM ?_; refine mop_c trivial ?_)))
    ((with_reducible (refine mop_cS trivial ?_ ?_)))
    · intro hlt
      have k1 : j < t1.ps.length := by omega
      have k2 : j < t2.ps.length := by omega
      obtain ⟨x, hx1, C, c, rfl, hC, hcl⟩ := hP1.at_ (i := j) k1
      obtain ⟨y, hy1, D, d, rfl, hD, hdl⟩ := hP2.at_ (i := j) k2
      obtain ⟨p, hp⟩ : ∃ p, t1.ps[j] = p := ⟨_, rfl⟩
      obtain ⟨q, hq⟩ : ∃ q, t2.ps[j] = q := ⟨_, rfl⟩
      rw [hp] at hx1 hC hcl
      rw [hq] at hy1 hD hdl
      have hstep : p = q → t1.ps.take (j + 1) = t2.ps.take (j + 1) := fun e => by
        rw [List.take_succ_eq_append_getElem k1, List.take_succ_eq_append_getElem k2, hej, hp, hq, e]
      have hdiff : p ≠ q → ¬ t1 = t2 := fun e h => by
        subst h
        exact e (hp.symm.trans hq)
      ((with_reducible (refine mif_true ?_; refine mop_c trivial ?_; refine mm_ld hM ?_)))
      refine mm_ixs hB1 (by omega) hq1.symm (fun bb oo hB => ?_)
      cases hB
      refine mm_lds0 hM hB1 hx1 ?_
      ((with_reducible (refine mm_new hM ?_; clear hM; intro _ _ hM; refine mm_st hM ?_; clear hM; intro _ hM; refine mop_c trivial ?_; refine mm_ld hM ?_)))
      refine mm_ixs hB2 (by omega) hq2.symm (fun bb2 oo2 hB => ?_)
      cases hB
      refine mm_lds0 hM hB2 hy1 ?_
      ((with_reducible (refine mm_new hM ?_; clear hM; intro _ _ hM; refine mm_st hM ?_; clear hM; intro _ hM)))
      refine ⟨fun v w' => v = .bool (!decide (p = q)) ∧ hM.now w', ?_, ?_⟩
      · ((with_reducible (refine mop_c trivial ?_; refine mm_ld hM ?_; refine mop_c trivial ?_; refine mm_ld hM ?_)))
        ((with_reducible (refine mop_cS trivial ?_ ?_)))
        · intro h
          ((with_reducible ((iterate 5 refine mguard_n1 ?_); refine mop_c trivial ?_; (iterate 5 refine mguard_n1 ?_); refine mop_c trivial ?_; (iterate 6 refine mguard_n1 ?_); refine mop_c trivial ?_)))
          exact ⟨by rw [decide_eq_false (fun e => h (by rw [e]))]; rfl, hM⟩
        · intro h
          ((with_reducible (refine mguard_yes ?_; refine mop_c trivial ?_; refine mguard_yes ?_; refine mm_ld hM ?_; refine mguard_yes ?_; refine mop_c trivial ?_; refine mguard_yes ?_; refine mm_ld hM ?_; refine mguard_yes ?_)))
          ((with_reducible (refine mop_cS trivial ?_ ?_)))
          · intro h2
            ((with_reducible (refine mop_c trivial ?_; (iterate 5 refine mguard_n1 ?_); refine mop_c trivial ?_; (iterate 6 refine mguard_n1 ?_); refine mop_c trivial ?_)))
            exact ⟨by rw [decide_eq_false (fun e => h2 (by rw [e]))]; rfl, hM⟩
          · intro h2
            ((with_reducible (refine mop_c trivial ?_; refine mguard_yes ?_; refine mop_c trivial ?_; refine mguard_yes ?_; refine mm_ld hM ?_; refine mguard_yes ?_; refine mop_c trivial ?_; refine mguard_yes ?_; refine mm_ld hM ?_; refine mguard_yes ?_)))
            ((with_reducible (refine mop_cS trivial ?_ ?_)))
            · intro h3
              ((with_reducible (refine mop_c trivial ?_; (iterate 6 refine mguard_n1 ?_); refine mop_c trivial ?_)))
              exact ⟨by rw [decide_eq_false (fun e => h3 (by rw [e]))]; rfl, hM⟩
            · intro h3
              ((with_reducible (refine mop_c trivial ?_; refine mguard_yes ?_; refine mop_c trivial ?_; refine mguard_yes ?_; refine mm_ld hM ?_; refine mguard_yes ?_; refine mop_c trivial ?_; refine mguard_yes ?_; refine mm_ld hM ?_; refine mguard_yes ?_)))
              refine mm_own (Q := fun v w' => v = .bool (decide (p.loose = q.loose)) ∧ hM.now w') ((rsame_ok p.loose q.loose hcl hC hD hM).mono fun e w' ⟨h1, h2⟩ => ⟨_, h1, rfl, h2⟩) ?_
              rintro v w' ⟨rfl, hM⟩
              by_cases h4 : p.loose = q.loose
              · rw [decide_eq_true h4]
                ((with_reducible (refine mguard_yes ?_; refine mop_c trivial ?_; refine mop_c trivial ?_)))
                refine ⟨?_, hM⟩
                rw [decide_eq_true]
                · rfl
                · have e1 := Decidable.not_not.1 h
                  have e2 := Decidable.not_not.1 h2
                  have e3 := Decidable.not_not.1 h3
                  cases p
                  cases q
                  simp only at e1 e2 e3 h4
                  rw [e1, e2, e3, h4]
              · rw [decide_eq_false h4]
                ((with_reducible (refine mguard_yes ?_; refine mop_c trivial ?_; refine mop_c trivial ?_)))
                exact ⟨by rw [decide_eq_false (fun e => h4 (by rw [e]))]; rfl, hM⟩
      rintro v u5 w5 ⟨rfl, hM⟩
      by_cases hpq : p = q
      · rw [decide_eq_true hpq]
        ((with_reducible (refine mif_nt ?_; refine mop_c ?_ ?_)); (focus omega))
        exact ⟨⟨j + 1, rfl, by omega, hstep hpq, hM.sub⟩, by simp only; omega⟩
      · rw [decide_eq_false hpq]
        ((with_reducible (refine mif_nf ?_)))
        exact ⟨by rw [decide_eq_false (hdiff hpq)], hM.st⟩
    · intro hge
      obtain rfl : j = t1.ps.length := by omega
      ((with_reducible (refine mif_false ?_)))
      refine ⟨?_, hM.st⟩
      rw [List.take_length, hc2, List.take_length] at hej
      rw [decide_eq_true]
      cases t1
      cases t2
      simp only at hls hej
      rw [hls, hej]
theorem few_ok (h1 : Sl H 97 A (t.ls.map Lf.fds)) (h2 : Sl H 66 B qs) (h3 : All2 (PnF H) qs t.ps) (hl : t.ls.length ≤ maxLen) (hp : t.ps.length ≤ maxLen) (hf : Fz H w) :
    Calls Try.prog 31 #[tv A t.ls.length a B t.ps.length b] w fun en w' => en = .returned (.bool (decide t.few)) ∧ St w [] w' := by
  have hl' : t.ls.length ≤ 9223372036854775807 := hl
  have hp' : t.ps.length ≤ 9223372036854775807 := hp
  have hq : qs.length = t.ps.length := h3.len
  have hM := Mem.start hf
  refine C_bevylaw08_few ?_
  unfold F_bevylaw08_few
  ((with_reducible (refine mm_box hM ?_; clear hM; intro _ _ hM)))
  refine ⟨fun v w' => v = .bool (!decide (t.ls.length ≤ 100 ∧ t.ps.length ≤ 100)) ∧ hM.now w', ?_, ?_⟩
  · ((with_reducible (refine mop_c trivial ?_; refine mm_ld hM ?_; refine mop_c trivial ?_)))
    ((with_reducible (refine mop_cS trivial ?_ ?_)))
    · intro h
      ((with_reducible ((iterate 4 refine mguard_n1 ?_); refine mop_c trivial ?_)))
      exact ⟨by rw [decide_eq_false (by omega)]; rfl, hM⟩
    · intro h
      ((with_reducible (refine mguard_yes ?_; refine mop_c trivial ?_; refine mguard_yes ?_; refine mm_ld hM ?_; refine mguard_yes ?_; refine mop_c trivial ?_; refine mguard_yes ?_)))
      ((with_reducible (refine mop_cS trivial ?_ ?_)))
      · intro h4
        ((with_reducible (refine mop_c trivial ?_)))
        exact ⟨by rw [decide_eq_false (by omega)]; rfl, hM⟩
      · intro h4
        ((with_reducible (refine mop_c trivial ?_)))
        exact ⟨by rw [decide_eq_true (by omega)]; rfl, hM⟩
  rintro v u w2 ⟨rfl, hM⟩
  by_cases hc : t.ls.length ≤ 100 ∧ t.ps.length ≤ 100
  case neg =>
    rw [decide_eq_false hc]
    ((with_reducible (refine mif_nf ?_)))
    exact ⟨by rw [decide_eq_false (show ¬ t.few from fun h => hc ⟨h.1, h.2.1⟩)], hM.st⟩
  rw [decide_eq_true hc]
  ((with_reducible (refine mif_nt ?_)))
  refine ⟨fun v w' => ∃ i : Nat, v = .int .i64 i ∧ i ≤ t.ps.length ∧ (∀ j (hj : j < t.ps.length), j < i → t.ps[j].loose.length ≤ 100) ∧ hM.now w', fun v _ => match v with | .int _ k => t.ps.length - k.toNat | _ => 0, ⟨0, rfl, by omega, fun j _ h => by omega, hM⟩, ?_⟩
  rintro v u w3 ⟨i, rfl, hi, hlo, hM⟩
  ((with_reducible (refine mop_c trivial ?_; refine mm_ld hM ?_; refine mop_c trivial ?_)))
  ((with_reducible (refine mop_cS trivial ?_ ?_)))
  · intro hlt
    have hlt' : i < t.ps.length := by omega
    obtain ⟨q, hq1, C, c, rfl, hC, hcl⟩ := h3.at_ (i := i) hlt'
    simp only [maxLen] at hcl
    ((with_reducible (refine mif_true ?_; refine mop_c trivial ?_; refine mm_ld hM ?_)))
    refine mm_ixs h2 (by omega) hq.symm (fun bb oo hB => ?_)
    cases hB
    ((with_reducible (refine mop_c trivial ?_)))
    refine mm_lds hM h2 hq1 ?_
    ((with_reducible (refine mop_c trivial ?_)))
    ((with_reducible (refine mop_cS trivial ?_ ?_)))
    · intro h
      ((with_reducible (refine mif_true ?_)))
      exact ⟨by rw [decide_eq_false (show ¬ t.few from fun hh => by have := hh.2.2 _ (List.getElem_mem hlt'); omega)], hM.st⟩
    · intro h
      ((with_reducible (refine mif_false ?_; refine mop_c ?_ ?_)); (focus omega))
      refine ⟨⟨i + 1, rfl, by omega, fun j hj hji => ?_, hM⟩, by simp only; omega⟩
      rcases Nat.lt_or_ge j i with h2 | h2
      · exact hlo j hj h2
      · obtain rfl : j = i := by omega
        omega
  · intro hge
    ((with_reducible (refine mif_false ?_)))
    refine ⟨?_, hM.st⟩
    rw [decide_eq_true (show t.few from ⟨hc.1, hc.2, fun p hp => ?_⟩)]
    obtain ⟨j, hj, rfl⟩ := List.getElem_of_mem hp
    exact hlo j hj (by omega)
end
end Go.Proofs.Ytmjpbomonhjebaa
