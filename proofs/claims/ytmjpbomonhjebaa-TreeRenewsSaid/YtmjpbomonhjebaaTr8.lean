/- The document's trees: what is right. -/
import Derived.Test.YtmjpbomonhjebaaTr7
namespace Go.Proofs.Ytmjpbomonhjebaa
open Go.RowKit Go.Lib

section
variable {H : Hp} {w0 w : World} {L R : List Res} {A B C : Option Addr} {a b c n : Nat} {t : Tr} {qs ps : List (List Fd)}
theorem tright_ok (h1 : Sl H 97 A (t.ls.map Lf.fds)) (h2 : Sl H 66 B qs) (h3 : All2 (PnF H) qs t.ps) (hl : t.ls.length ≤ maxLen) (hp : t.ps.length ≤ maxLen) (hf : Fz H w) :
    Calls Try.prog 34 #[tv A t.ls.length a B t.ps.length b] w fun en w' => en = .returned (.bool t.right) ∧ St w [] w' := by
  have hM := Mem.start hf
  refine C_bevyref08_Right ?_
  unfold F_bevyref08_Right
  have hl' : t.ls.length ≤ 9223372036854775807 := hl
  have hp' : t.ps.length ≤ 9223372036854775807 := hp
  have hq : qs.length = t.ps.length := h3.len
  have hts : t.size = t.ls.length := rfl
  ((with_reducible (refine mm_box hM ?_; clear hM; intro _ _ hM; refine mop_c trivial ?_; refine mm_ld hM ?_; refine mop_c trivial ?_)))
  rename_i g1 _
  refine ⟨fun v w' => v = .bool (!decide (t.ls.length ≤ 64 ∧ t.ps.length = t.ls.length - 1)) ∧ hM.now w', ?_, ?_⟩
  · ((with_reducible (refine mop_cS trivial ?_ ?_)))
    · intro h
      ((with_reducible ((iterate 3 refine mguard_n1 ?_); (iterate 6 refine mguard_un ?_); refine mguard_n1 ?_; refine mop_c trivial ?_; (iterate 3 refine mguard_n1 ?_); (iterate 4 refine mguard_un ?_); refine mguard_n1 ?_; refine mop_c trivial ?_)))
      exact ⟨by rw [decide_eq_false (by omega)]; rfl, hM⟩
    · intro h
      ((with_reducible (refine mguard_yes ?_; refine mop_c trivial ?_; refine mguard_yes ?_)))
      ((with_reducible (refine mop_cS trivial ?_ ?_)))
      · intro h4
        ((with_reducible (refine mguard_yes ?_; refine mop_c trivial ?_; refine mguard_yes ?_; refine mop_c trivial ?_; refine mguard_yes ?_; refine mm_ld hM ?_; refine mguard_yes ?_; refine mop_c trivial ?_; refine mguard_yes ?_; refine mop_c trivial ?_; refine mguard_yes ?_; refine mop_c ?_ ?_)); (focus omega); (with_reducible (refine mguard_yes ?_)))
        ((with_reducible (refine mop_cS trivial ?_ ?_)))
        · intro h5
          ((with_reducible (refine mguard_yes ?_; refine mop_c trivial ?_; refine mop_c trivial ?_; (iterate 3 refine mguard_n1 ?_); (iterate 4 refine mguard_un ?_); refine mguard_n1 ?_; refine mop_c trivial ?_)))
          exact ⟨by rw [decide_eq_false (by omega)]; rfl, hM⟩
        · intro h5
          ((with_reducible (refine mguard_yes ?_; refine mop_c trivial ?_; refine mop_c trivial ?_; refine mguard_yes ?_; refine mop_c trivial ?_; refine mguard_yes ?_; refine mop_cF trivial ?_ ?_)); (focus (first | assumption | omega | with_reducible rfl | exact fun h => Bool.noConfusion h)); (with_reducible (refine mguard_yes ?_; refine mop_c trivial ?_; (iterate 4 refine mguard_n2 ?_); refine mguard_yes ?_; refine mop_c trivial ?_; refine mop_c trivial ?_)))
          exact ⟨by rw [decide_eq_true (by omega)]; rfl, hM⟩
      · intro h4
        ((with_reducible (refine mguard_yes ?_; refine mop_c trivial ?_; (iterate 6 refine mguard_n2 ?_); refine mguard_yes ?_; refine mop_c trivial ?_; refine mop_c trivial ?_; refine mguard_yes ?_; refine mop_c trivial ?_; refine mguard_yes ?_; refine mop_cT trivial ?_ ?_)); (focus (first | assumption | omega | with_reducible rfl | exact fun h => Bool.noConfusion h)); (with_reducible (refine mguard_yes ?_; refine mop_c trivial ?_; refine mguard_yes ?_; refine mop_c trivial ?_; refine mguard_yes ?_; refine mm_ld hM ?_; refine mguard_yes ?_; refine mop_c trivial ?_; refine mguard_yes ?_)))
        ((with_reducible (refine mop_cS trivial ?_ ?_)))
        · intro h5
          ((with_reducible (refine mguard_yes ?_; refine mop_c trivial ?_; refine mop_c trivial ?_)))
          exact ⟨by rw [decide_eq_false (by omega)]; rfl, hM⟩
        · intro h5
          ((with_reducible (refine mguard_yes ?_; refine mop_c trivial ?_; refine mop_c trivial ?_)))
          exact ⟨by rw [decide_eq_true (by omega)]; rfl, hM⟩
  rintro v u w2 ⟨rfl, hM⟩
  by_cases hsz : t.ls.length ≤ 64 ∧ t.ps.length = t.ls.length - 1
  case neg =>
    rw [decide_eq_false hsz]
    ((with_reducible (refine mif_nf ?_)))
    refine ⟨?_, hM.st⟩
    unfold Tr.right
    rw [decide_eq_false hsz]
    rfl
  rw [decide_eq_true hsz]
  ((with_reducible (refine mif_nt ?_)))
  refine ⟨fun v w' => ∃ (i : Nat) (s : List Int), v = .int .i64 i ∧ i ≤ t.ls.length ∧ leavesB [] t.ls = leavesB s (t.ls.drop i) ∧ (∀ x, 1 ≤ x → (x ∈ s ↔ ∃ k, ∃ (hk : k < t.ls.length), k < i ∧ t.ls[k].name = x)) ∧ Mem H w [fb g1 49 (tfd A t.ls.length a B t.ps.length b)] w', fun v _ => match v with | .int _ k => t.ls.length - k.toNat | _ => 0, ⟨0, [], rfl, by omega, rfl, fun x _ => ⟨fun h => (by cases h), fun ⟨_, _, h, _⟩ => (by omega)⟩, hM⟩, ?_⟩
  clear hM
  rintro v u2 w3 ⟨i, s, rfl, hi, hb, hs, hM⟩
  ((with_reducible (refine mop_cS trivial ?_ ?_)))
  · intro hlt
    have hlt' : i < t.ls.length := by omega
    have hdr := leavesB_drop (s := s) (ls := t.ls) (i := i) hlt'
    ((with_reducible (refine mif_true ?_)))
    refine ⟨fun w' => ∃ s', leavesB [] t.ls = leavesB s' (t.ls.drop (i + 1)) ∧ (∀ x, 1 ≤ x → (x ∈ s' ↔ ∃ k, ∃ (hk : k < t.ls.length), k < i + 1 ∧ t.ls[k].name = x)) ∧ Mem H w [fb g1 49 (tfd A t.ls.length a B t.ps.length b)] w', ?_, ?_⟩
    · ((with_reducible (refine mop_c trivial ?_; refine mm_ld hM ?_)); (with_reducible refine mm_ixs ‹_› ?_ ?_ ?_); (focus (simp only [List.length_map]; omega)); (focus (simp only [List.length_map]; first | done | omega)); (with_reducible (intro _ _ hA)); (cases hA); (with_reducible refine mm_lds0 hM ‹_› (map_atI ?_) ?_); (focus omega); (with_reducible (refine mm_new hM ?_; clear hM; intro _ _ hM; refine mm_st hM ?_; clear hM; intro _ hM; refine mm_ld hM ?_; refine mop_c trivial ?_)))
      ((with_reducible (refine mop_cS trivial ?_ ?_)))
      · intro hz
        have hz' := (lf_zero _).2 hz
        ((with_reducible (refine mif_true ?_)))
        refine ⟨s, by rw [hb, hdr, if_pos hz'], fun x hx => (hs x hx).trans ⟨fun ⟨k, hk, h, e⟩ => ⟨k, hk, by omega, e⟩, fun ⟨k, hk, h, e⟩ => ?_⟩, hM.sub⟩
        rcases Nat.lt_or_ge k i with h6 | h6
        · exact ⟨k, hk, h6, e⟩
        · obtain rfl : k = i := by omega
          rw [hz'] at e
          simp only [Lf.zero] at e
          omega
      · intro hz
        rw [if_neg (fun e => hz ((lf_zero _).1 e))] at hdr
        ((with_reducible (refine mif_false ?_)))
        refine ⟨fun v w' => v = .bool (!decide (1 ≤ t.ls[i].name ∧ t.ls[i].name ≤ 64)) ∧ hM.now w', ?_, ?_⟩
        · ((with_reducible (refine mop_c trivial ?_; refine mm_ld hM ?_)))
          ((with_reducible (refine mop_cS trivial ?_ ?_)))
          · intro h
            ((with_reducible ((iterate 3 refine mguard_n1 ?_); refine mop_c trivial ?_)))
            exact ⟨by rw [decide_eq_false (by omega)]; rfl, hM⟩
          · intro h
            ((with_reducible (refine mguard_yes ?_; refine mop_c trivial ?_; refine mguard_yes ?_; refine mm_ld hM ?_; refine mguard_yes ?_)))
            ((with_reducible (refine mop_cS trivial ?_ ?_)))
            · intro h4
              ((with_reducible (refine mop_c trivial ?_)))
              exact ⟨by rw [decide_eq_false (by omega)]; rfl, hM⟩
            · intro h4
              ((with_reducible (refine mop_c trivial ?_)))
              exact ⟨by rw [decide_eq_true (by omega)]; rfl, hM⟩
        rintro v u4 w5 ⟨rfl, hM⟩
        by_cases hc : 1 ≤ t.ls[i].name ∧ t.ls[i].name ≤ 64
        · rw [decide_eq_true hc]
          ((with_reducible (refine mif_nt ?_)))
          refine ⟨fun v w' => ∃ k : Nat, v = .int .i64 k ∧ k ≤ i ∧ (∀ j (hj : j < t.ls.length), j < k → t.ls[j].name ≠ t.ls[i].name) ∧ hM.now w', fun v _ => match v with | .int _ k => i - k.toNat | _ => 0, ⟨0, rfl, by omega, fun j _ h => by omega, hM⟩, ?_⟩
          rintro v u5 w6 ⟨k, rfl, hk, hno, hM⟩
          ((with_reducible (refine mop_cS trivial ?_ ?_)))
          · intro hlt2
            have hlt3 : k < t.ls.length := by omega
            ((with_reducible (refine mif_true ?_; refine dp_c trivial ?_; refine dm_ld hM ?_)); (with_reducible refine dp_ixs ‹_› ?_ ?_ ?_); (focus (simp only [List.length_map]; omega)); (focus (simp only [List.length_map]; first | done | omega)); (with_reducible (intro _ _ hA)); (cases hA); (with_reducible (refine dp_c trivial ?_)); (with_reducible refine dm_lds hM ‹_› (map_atI ?_) ?_); (focus omega); (with_reducible (refine dp_c trivial ?_; refine dm_ld hM ?_)))
            ((with_reducible (refine dp_cS trivial ?_ ?_)))
            · intro he
              ((with_reducible (refine mm_end hM ?_; clear hM; intro _ hM; refine mif_true ?_)))
              refine ⟨?_, hM.st⟩
              unfold Tr.right
              rw [hb, hdr, decide_eq_false (show ¬ ((1 ≤ t.ls[i].name ∧ t.ls[i].name ≤ 64) ∧ t.ls[i].name ∉ s) from fun h => h.2 ((hs _ hc.1).2 ⟨k, hlt3, by omega, he⟩))]
              simp
            · intro he
              ((with_reducible (refine mm_end hM ?_; clear hM; intro _ hM; refine mif_false ?_; refine mop_c ?_ ?_)); (focus omega))
              refine ⟨⟨k + 1, rfl, by omega, fun j hj hjk => ?_, hM⟩, by simp only; omega⟩
              rcases Nat.lt_or_ge j k with h6 | h6
              · exact hno j hj h6
              · obtain rfl : j = k := by omega
                exact he
          · intro hge2
            ((with_reducible (refine mif_false ?_)))
            have hns : t.ls[i].name ∉ s := fun hm => by
              obtain ⟨j, hj, h6, e⟩ := (hs _ hc.1).1 hm
              exact hno j hj (by omega) e
            refine ⟨t.ls[i].name :: s, by rw [hb, hdr, decide_eq_true ⟨hc, hns⟩, Bool.true_and], fun x hx => ⟨fun hm => ?_, fun ⟨j, hj, h6, e⟩ => ?_⟩, hM.sub⟩
            · rcases List.mem_cons.1 hm with rfl | hm
              · exact ⟨i, hlt', by omega, rfl⟩
              · obtain ⟨j, hj, h6, e⟩ := (hs _ hx).1 hm
                exact ⟨j, hj, by omega, e⟩
            · rcases Nat.lt_or_ge j i with h7 | h7
              · exact List.mem_cons_of_mem _ ((hs _ hx).2 ⟨j, hj, h7, e⟩)
              · obtain rfl : j = i := by omega
                rw [← e]
                exact List.mem_cons_self ..
        · rw [decide_eq_false hc]
          ((with_reducible (refine mif_nf ?_)))
          refine ⟨?_, hM.st⟩
          unfold Tr.right
          rw [hb, hdr, decide_eq_false (show ¬ ((1 ≤ t.ls[i].name ∧ t.ls[i].name ≤ 64) ∧ t.ls[i].name ∉ s) from fun h => hc h.1)]
          simp
    · clear hM
      rintro u3 w4 ⟨s', hb', hs', hM⟩
      ((with_reducible (refine mop_c ?_ ?_)); (focus omega))
      exact ⟨⟨i + 1, s', rfl, by omega, hb', hs', hM⟩, by simp only; omega⟩
  · intro hge
    have hls : leavesB [] t.ls = true := by
      rw [hb, List.drop_eq_nil_of_le (by omega)]
      rfl
    ((with_reducible (refine mif_false ?_)))
    refine ⟨fun v w' => ∃ i : Nat, v = .int .i64 i ∧ i ≤ t.ps.length ∧ parB t.size t.ls 1 t.ps = parB t.size t.ls (2 * i + 1) (t.ps.drop i) ∧ Mem H w [fb g1 49 (tfd A t.ls.length a B t.ps.length b)] w', fun v _ => match v with | .int _ k => t.ps.length - k.toNat | _ => 0, ⟨0, rfl, by omega, rfl, hM⟩, ?_⟩
    clear hM hi hb hge hs
    rintro v u5 w5 ⟨i, rfl, hi, hb, hM⟩
    ((with_reducible (refine mop_c trivial ?_; refine mm_ld hM ?_; refine mop_c trivial ?_)))
    ((with_reducible (refine mop_cS trivial ?_ ?_)))
    · intro hlt
      obtain ⟨p, hpe⟩ : ∃ p, t.ps[i] = p := ⟨_, rfl⟩
      obtain ⟨q, hq1, C, c, rfl, hC, hcl⟩ := h3.at_ (i := i) (by omega)
      have hdr := parB_drop (n := t.size) (ls := t.ls) (x := 2 * i + 1) (ps := t.ps) (i := i) (by omega)
      rw [hpe] at hq1 hC hcl hdr
      have hcl' : p.loose.length ≤ 9223372036854775807 := hcl
      ((with_reducible (refine mif_true ?_; refine mop_c trivial ?_; refine mm_ld hM ?_)))
      refine mm_ixs h2 (by omega) hq.symm (fun bb oo hB => ?_)
      cases hB
      refine mm_lds0 hM h2 hq1 ?_
      ((with_reducible (refine mm_new hM ?_; clear hM; intro _ _ hM; refine mm_st hM ?_; clear hM; intro _ hM)))
      rename_i g3 _ _
      refine ⟨fun v w' => v = .bool (!(p.set || decide p.isZero)) ∧ hM.now w', ?_, ?_⟩
      · ((with_reducible (refine mop_c trivial ?_; refine mm_ld hM ?_; refine mop_c trivial ?_)))
        rcases Bool.eq_false_or_eq_true p.set with hs | hs
        rotate_left
        · have e : (!p.set) = true := by rw [hs]; rfl
          rw [e]
          ((with_reducible (refine mguard_yes ?_; refine mop_c trivial ?_; refine mguard_yes ?_; refine mm_ld hM ?_; refine mguard_yes ?_; refine mop_c trivial ?_; refine mguard_yes ?_)))
          ((with_reducible (refine mop_cS trivial ?_ ?_)))
          · intro h1
            ((with_reducible (refine mguard_yes ?_; refine mop_c trivial ?_; (iterate 4 refine mguard_n1 ?_); refine mguard_yes ?_; refine mop_c trivial ?_; refine mguard_yes ?_; refine mop_c trivial ?_; (iterate 4 refine mguard_n1 ?_); refine mguard_yes ?_; refine mop_c trivial ?_; refine mop_c trivial ?_)))
            exact ⟨by rw [hs, Bool.false_or, decide_eq_false (show ¬ p.isZero from fun h => h1 h.2.1)]; rfl, hM⟩
          · intro h1
            ((with_reducible (refine mguard_yes ?_; refine mop_c trivial ?_; refine mguard_yes ?_; refine mop_c trivial ?_; refine mguard_yes ?_; refine mm_ld hM ?_; refine mguard_yes ?_; refine mop_c trivial ?_; refine mguard_yes ?_)))
            ((with_reducible (refine mop_cS trivial ?_ ?_)))
            · intro h2
              ((with_reducible (refine mguard_yes ?_; refine mop_c trivial ?_; refine mguard_yes ?_; refine mop_c trivial ?_; (iterate 4 refine mguard_n1 ?_); refine mguard_yes ?_; refine mop_c trivial ?_; refine mop_c trivial ?_)))
              exact ⟨by rw [hs, Bool.false_or, decide_eq_false (show ¬ p.isZero from fun h => h2 h.2.2.1)]; rfl, hM⟩
            · intro h2
              ((with_reducible (refine mguard_yes ?_; refine mop_c trivial ?_; refine mguard_yes ?_; refine mop_c trivial ?_; refine mguard_yes ?_; refine mop_c trivial ?_; refine mguard_yes ?_; refine mm_ld hM ?_; refine mguard_yes ?_; refine mop_c trivial ?_; refine mguard_yes ?_)))
              ((with_reducible (refine mop_cS trivial ?_ ?_)))
              · intro h3
                ((with_reducible (refine mguard_yes ?_; refine mop_c trivial ?_; refine mop_c trivial ?_)))
                exact ⟨by rw [hs, Bool.false_or, decide_eq_false (show ¬ p.isZero from fun h => by rw [h.2.2.2] at h3; simp at h3)]; rfl, hM⟩
              · intro h3
                ((with_reducible (refine mguard_yes ?_; refine mop_c trivial ?_; refine mop_c trivial ?_)))
                exact ⟨by rw [hs, Bool.false_or, decide_eq_true (show p.isZero from ⟨hs, Decidable.not_not.1 h1, Decidable.not_not.1 h2, List.eq_nil_of_length_eq_zero (by omega)⟩)]; rfl, hM⟩
        · have e : (!p.set) = false := by rw [hs]; rfl
          rw [e]
          ((with_reducible ((iterate 5 refine mguard_n2 ?_); (iterate 4 refine mguard_un ?_); refine mguard_n2 ?_; refine mguard_n2 ?_; (iterate 4 refine mguard_un ?_); refine mguard_n2 ?_; refine mop_c trivial ?_)))
          exact ⟨by rw [hs, Bool.true_or]; rfl, hM⟩
      rintro v u6 w6 ⟨rfl, hM⟩
      cases hz : (p.set || decide p.isZero)
      · rw [Bool.not_false]
        ((with_reducible (refine mif_true ?_)))
        refine ⟨?_, hM.st⟩
        unfold Tr.right
        rw [hb, hdr, hz]
        simp
      rw [hz, Bool.true_and] at hdr
      rw [Bool.not_true]
      ((with_reducible (refine mif_false ?_)))
      refine ⟨fun v w' => ∃ k : Nat, v = .int .i64 k ∧ k ≤ p.loose.length ∧ looseB t.size t.ls (2 * i + 1) none p.loose = looseB t.size t.ls (2 * i + 1) (prv p.loose k) (p.loose.drop k) ∧ hM.now w', fun v _ => match v with | .int _ k => p.loose.length - k.toNat | _ => 0, ⟨0, rfl, by omega, rfl, hM⟩, ?_⟩
      rintro v u7 w7 ⟨k, rfl, hk, hlb, hM⟩
      ((with_reducible (refine mop_c trivial ?_; refine mm_ld hM ?_; refine mop_c trivial ?_)))
      ((with_reducible (refine mop_cS trivial ?_ ?_)))
      · intro hlt2
        obtain ⟨x, hx⟩ : ∃ x, p.loose[k] = x := ⟨_, rfl⟩
        have hdl := looseB_drop (n := t.size) (ls := t.ls) (x := 2 * i + 1) (o := prv p.loose k) (l := p.loose) (i := k) (by omega)
        rw [hx] at hdl
        ((with_reducible (refine mif_true ?_; refine mop_c trivial ?_; refine mm_ld hM ?_)); (with_reducible refine mm_ixs ‹_› ?_ ?_ ?_); (focus (simp only [List.length_map]; omega)); (focus (simp only [List.length_map]; first | done | omega)); (with_reducible (intro _ _ hA)); (cases hA); (with_reducible refine mm_lds0 hM ‹_› (map_atI ?_) ?_); (focus omega))
        rw [hx]
        refine ⟨fun v w' => v = .bool (!decide (hld t.size (2 * i + 1) x ∧ nameAt t.ls x ≠ 0 ∧ ∀ q ∈ prv p.loose k, q < x)) ∧ hM.now w', ?_, ?_⟩
        · ((with_reducible (refine mop_c ?_ ?_)); (focus omega); (with_reducible (refine mop_c ?_ ?_)); (focus omega); (with_reducible (refine mm_purC hM ?_ (fun _ hM2 => ?_))); (focus (first | exact trivial | assumption | omega)); (with_reducible (replace hM := hM2; clear hM2; refine mop_c trivial ?_)))
          by_cases hh : hld t.size (2 * i + 1) x
          · obtain ⟨r1, r2, -⟩ := hld_rng hh
            have hna := nameAt_at (ls := t.ls) (p := x) r1 (by omega)
            rw [decide_eq_true hh, Bool.not_true]
            ((with_reducible (refine mguard_yes ?_; refine mop_c trivial ?_; refine mguard_yes ?_; refine mm_ld hM ?_; refine mguard_yes ?_; refine mop_c trivial ?_; refine mguard_yes ?_)); (with_reducible refine mm_ixs ‹_› ?_ ?_ ?_); (focus (simp only [List.length_map]; omega)); (focus (simp only [List.length_map]; first | done | omega)); (with_reducible (intro _ _ hA)); (cases hA); (with_reducible (refine mguard_yes ?_; refine mop_c trivial ?_; refine mguard_yes ?_)); (with_reducible refine mm_lds hM ‹_› (map_at ?_) ?_); (focus omega); (with_reducible (refine mguard_yes ?_)))
            rw [← hna]
            ((with_reducible (refine mop_cS trivial ?_ ?_)))
            · intro h5
              ((with_reducible (refine mop_c trivial ?_; (iterate 3 refine mguard_n1 ?_); (iterate 8 refine mguard_un ?_); refine mguard_n1 ?_; refine mop_c trivial ?_)))
              exact ⟨by rw [decide_eq_false (fun h => h.2.1 h5)]; rfl, hM⟩
            · intro h5
              cases k with
              | zero =>
                ((with_reducible (refine mop_c trivial ?_; refine mguard_yes ?_; refine mop_c trivial ?_; refine mguard_yes ?_; refine mop_cF trivial ?_ ?_)); (focus (first | assumption | omega | with_reducible rfl | exact fun h => Bool.noConfusion h)); (with_reducible (refine mguard_yes ?_; refine mop_c trivial ?_; (iterate 8 refine mguard_n2 ?_); refine mguard_yes ?_; refine mop_c trivial ?_; refine mop_c trivial ?_)))
                exact ⟨by rw [decide_eq_true ⟨hh, h5, by simp [prv]⟩]; rfl, hM⟩
              | succ k =>
                have hix : (((k + 1 : Nat) : Int) - 1).toNat = k := by omega
                have hpv : prv p.loose (k + 1) = some p.loose[k] := List.getElem?_eq_getElem (by omega)
                ((with_reducible (refine mop_c trivial ?_; refine mguard_yes ?_; refine mop_c trivial ?_; refine mguard_yes ?_; refine mop_cT trivial ?_ ?_)); (focus (first | assumption | omega | with_reducible rfl | exact fun h => Bool.noConfusion h)); (with_reducible (refine mguard_yes ?_; refine mop_c trivial ?_; refine mguard_yes ?_; refine mop_c trivial ?_; refine mguard_yes ?_; refine mm_ld hM ?_; refine mguard_yes ?_; refine mop_c trivial ?_; refine mguard_yes ?_; refine mop_c ?_ ?_)); (focus omega); (with_reducible (refine mguard_yes ?_)); (with_reducible refine mm_ixs ‹_› ?_ ?_ ?_); (focus (simp only [List.length_map]; omega)); (focus (simp only [List.length_map]; first | done | omega)); (with_reducible (intro _ _ hA)); (cases hA); (with_reducible (refine mguard_yes ?_)); (with_reducible refine mm_lds0 hM ‹_› (map_at ?_) ?_); (focus omega); (with_reducible (refine mguard_yes ?_; refine mop_c trivial ?_; refine mguard_yes ?_)))
                ((with_reducible (refine mop_cS trivial ?_ ?_)))
                · intro h6
                  simp only [hix] at h6
                  ((with_reducible (refine mguard_yes ?_; refine mop_c trivial ?_; refine mop_c trivial ?_)))
                  exact ⟨by rw [decide_eq_false (fun h => by have := h.2.2 _ hpv; omega)]; rfl, hM⟩
                · intro h6
                  simp only [hix] at h6
                  ((with_reducible (refine mguard_yes ?_; refine mop_c trivial ?_; refine mop_c trivial ?_)))
                  exact ⟨by rw [decide_eq_true ⟨hh, h5, fun q hq => by rw [hpv] at hq; cases hq; omega⟩]; rfl, hM⟩
          · rw [decide_eq_false hh, Bool.not_false]
            ((with_reducible ((iterate 7 refine mguard_n1 ?_); refine mop_c trivial ?_; (iterate 3 refine mguard_n1 ?_); (iterate 8 refine mguard_un ?_); refine mguard_n1 ?_; refine mop_c trivial ?_)))
            exact ⟨by rw [decide_eq_false (fun h => hh h.1)]; rfl, hM⟩
        rintro v u8 w8 ⟨rfl, hM⟩
        by_cases hc : hld t.size (2 * i + 1) x ∧ nameAt t.ls x ≠ 0 ∧ ∀ q ∈ prv p.loose k, q < x
        · rw [decide_eq_true hc, Bool.not_true]
          rw [decide_eq_true hc, Bool.true_and] at hdl
          ((with_reducible (refine mif_false ?_; refine mop_c ?_ ?_)); (focus omega))
          refine ⟨⟨k + 1, rfl, by omega, ?_, hM⟩, by simp only; omega⟩
          rw [hlb, hdl, prv, List.getElem?_eq_getElem (by omega), hx]
        · rw [decide_eq_false hc, Bool.not_false]
          ((with_reducible (refine mif_true ?_)))
          refine ⟨?_, hM.st⟩
          unfold Tr.right
          rw [hb, hdr, hlb, hdl, decide_eq_false hc]
          simp
      · intro hge2
        have hl2 : looseB t.size t.ls (2 * i + 1) none p.loose = true := by
          rw [hlb, List.drop_eq_nil_of_le (by omega)]
          rfl
        rw [hl2, Bool.true_and] at hdr
        ((with_reducible (refine mif_false ?_; refine mop_c ?_ ?_)); (focus omega))
        refine ⟨⟨i + 1, rfl, by omega, ?_, hM.sub⟩, by simp only; omega⟩
        rw [hb, hdr]
        congr 1
    · intro hge
      have hps : parB t.size t.ls 1 t.ps = true := by
        rw [hb, List.drop_eq_nil_of_le (by omega)]
        rfl
      have hR : t.right = decide (t.ls = [] ∨ 0 < nameAt t.ls (t.size - 1)) := by
        unfold Tr.right
        rw [hls, hps, decide_eq_true hsz]
        simp
      ((with_reducible (refine mif_false ?_)))
      ((with_reducible (refine mop_cS trivial ?_ ?_)))
      · intro h0
        ((with_reducible ((iterate 8 refine mguard_n1 ?_); refine mop_c trivial ?_)))
        exact ⟨by rw [hR, decide_eq_true (.inl (List.eq_nil_of_length_eq_zero (by omega)))], hM.st⟩
      · intro h0
        ((with_reducible (refine mguard_yes ?_; refine mop_c trivial ?_; refine mguard_yes ?_; refine mm_ld hM ?_; refine mguard_yes ?_; refine mop_c trivial ?_; refine mguard_yes ?_; refine mop_c ?_ ?_)); (focus omega); (with_reducible (refine mguard_yes ?_)); (with_reducible refine mm_ixs ‹_› ?_ ?_ ?_); (focus (simp only [List.length_map]; omega)); (focus (simp only [List.length_map]; first | done | omega)); (with_reducible (intro _ _ hA)); (cases hA); (with_reducible (refine mguard_yes ?_; refine mop_c trivial ?_; refine mguard_yes ?_)); (with_reducible refine mm_lds hM ‹_› (map_at ?_) ?_); (focus omega); (with_reducible (refine mguard_yes ?_)))
        have hna := nameAt_at (ls := t.ls) (p := (t.ls.length : Int) - 1) (by omega) (by omega)
        have hnn : 0 ≤ t.ls[((t.ls.length : Int) - 1).toNat].name := by
          rcases leavesB_spec hls _ (List.getElem_mem (show ((t.ls.length : Int) - 1).toNat < t.ls.length by omega)) with h | h
          · rw [h]
            simp [Lf.zero]
          · omega
        rw [← hna] at hnn ⊢
        ((with_reducible (refine mop_cS trivial ?_ ?_)))
        · intro h9
          ((with_reducible (refine mop_c trivial ?_)))
          exact ⟨by rw [hR, decide_eq_true (.inr (by rw [hts]; omega))], hM.st⟩
        · intro h9
          ((with_reducible (refine mop_c trivial ?_)))
          exact ⟨by rw [hR, decide_eq_false (fun h => h.elim (fun h => h0 (by rw [h]; rfl)) (fun h => by rw [hts] at h; omega))], hM.st⟩
end
end Go.Proofs.Ytmjpbomonhjebaa
