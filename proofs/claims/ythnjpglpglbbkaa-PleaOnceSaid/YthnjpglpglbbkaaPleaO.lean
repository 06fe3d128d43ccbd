/- Plea: the walk of PleaOnce. -/
import Derived.Test.YthnjpglpglbbkaaPleaP
import Derived.Test.YthnjpglpglbbkaaPleaQ
import Derived.Test.YthnjpglpglbbkaaMse
namespace Go.Proofs.Ythnjpglpglbbkaa
open Go.RowKit

section
variable {H : Hp} {w0 w : World} {L R : List Res}
theorem qguard_un {want : Bool} {run : (Value → Prop) → Prop} {K : Value → Prop} (h : K undef) : qguard undef want run K := qguard_no (by intro h; cases h) h
theorem mguard_un {want : Bool} {w : World} {run : (Value → World → Prop) → Prop} {K : Value → World → Prop} (h : K undef w) : mguard undef want run w K := mguard_no (by intro h; cases h) h
theorem times_succ (l : List Ple) (n : Int) (j : Nat) (h : j < l.length) : times (l.take (j + 1)) n = times (l.take j) n + if l[j].seq = n then 1 else 0 := by
  unfold times
  rw [List.take_succ_eq_append_getElem h, List.countP_append]
  simp [List.countP_cons]
theorem there_succ (head : H32) (done : List Int) (l : List Ple) (n : Int) (j : Nat) (h : j < l.length) : thereB head done (l.take (j + 1)) n = (thereB head done (l.take j) n || (decide (l[j].seq = n) && (decide (l[j].epoch = head) || decide (n ∈ done)))) := by
  unfold thereB
  rw [List.take_succ_eq_append_getElem h, List.any_append]
  simp
theorem gone_succ (l : List Ple) (n : Int) (j : Nat) (h : j < l.length) : goneB (l.take (j + 1)) n = (goneB (l.take j) n || (decide (l[j].seq = n) && !decide (l[j].why = 0))) := by
  unfold goneB
  rw [List.take_succ_eq_append_getElem h, List.any_append]
  simp
theorem PInv.ask {last : Int} {op dr : List Ple} (h : PInv last op dr) (c : Chg) (e : H32) : PInv (askL last op c e).1 (askL last op c e).2.1 dr := by
  unfold askL
  split
  · exact h
  · exact h.add c e 0
theorem pleaOnce_ok (acts : List PAct) (hq : ∀ x ∈ acts, x.good H) (A : Option Addr) (cap : Nat) (hs : Sl H 76 A (acts.map PAct.fds)) (hf : Fz H w) :
    Calls Try.prog 11 #[.slice A acts.length cap] w fun en w' => en = .returned (.bool true) ∧ St w [] w' := by
  have hM := Mem.start hf
  refine C_bevylaw17_PleaOnce ?_
  unfold F_bevylaw17_PleaOnce
  refine ⟨fun x w' => ∃ b : Bool, x = .bool b ∧ (b = false → acts.length ≤ 100 ∧ ∀ x ∈ acts, x.seqs.length ≤ 100) ∧ hM.now w', ?_, ?_⟩
  · refine mm_pure hM (pawake_ok hM.fz) (fun w1 hM => ?_)
    ((with_reducible (refine mop_c trivial ?_; refine mguard_yes ?_; refine mop_c trivial ?_; refine mguard_yes ?_)))
    refine mop_to (few_ok acts A cap hs (fun x hx => (hq x hx).2.1) hM.fz) ?_
    rintro e w2 ⟨b, rfl, hb, hst⟩
    have hM := hM.call0 hst
    refine mguard_yes ?_
    ((with_reducible (refine mop_c trivial ?_; refine mop_c trivial ?_)))
    exact ⟨_, rfl, by cases b <;> simp_all, hM⟩
  rintro x u w2 ⟨b, rfl, hb, hM⟩
  cases b with
  | true =>
    ((with_reducible (refine mif_true ?_)))
    refine mm_pure hM (pawake_ok hM.fz) (fun w1 hM => ?_)
    exact ⟨rfl, hM.st⟩
  | false =>
    obtain ⟨hb1, hb2⟩ := hb rfl
    ((with_reducible (refine mif_false ?_)))
    refine mm_own (pnew_ok hM) ?_
    rintro v w3 ⟨g, rfl, hM⟩
    skip
    refine ⟨fun y w' => ∃ (i : Nat) (last : Int) (op dr : List Ple) (H' : Hp), y = .int .i64 i ∧ i ≤ acts.length ∧ op.length ≤ 32 ∧ dr.length ≤ 32 ∧ (0 ≤ last ∧ last ≤ i) ∧ PInv last op dr ∧ Le w H H' ∧ Mem H' w [listR g last op dr] w', fun y _ => match y with | .int _ i => acts.length - i.toNat | _ => 0,
        ⟨0, 0, [], [], H, rfl, by omega, by simp, by simp, by omega, PInv.nil, Le.refl _ _, hM⟩, ?_⟩
    clear hM
    rintro y u w3 ⟨i, last, op, dr, H1, rfl, hi, ho, hd, hla, hin, hl1, hM⟩
    ((with_reducible (refine mop_c trivial ?_)))
    ((with_reducible (refine mop_cS trivial ?_ ?_)))
    · intro hlt
      have hlt' : i < acts.length := by omega
      have hs3 := hs.mono hl1.le
      obtain ⟨hop, _, hsq⟩ := hq acts[i] (List.getElem_mem _)
      have hsq := hsq.mono hl1.le
      have hqb := hb2 acts[i] (List.getElem_mem _)
      ((with_reducible (refine mif_true ?_)))
      refine ⟨fun w' => ∃ (last : Int) (op dr : List Ple) (H' : Hp), op.length ≤ 32 ∧ dr.length ≤ 32 ∧ (0 ≤ last ∧ last ≤ i + 1) ∧ PInv last op dr ∧ Le w H H' ∧ Mem H' w [listR g last op dr] w', ?_, ?_⟩
      · ((with_reducible refine mm_ixs ‹_› ?_ ?_ ?_); (focus (simp only [List.length_map]; omega)); (focus (simp only [List.length_map]; first | done | omega)); (with_reducible (intro _ _ hA)); (cases hA); (with_reducible refine mm_lds0 hM ‹_› (map_atI ?_) ?_); (focus omega); (with_reducible (refine mm_new hM ?_; clear hM; intro _ _ hM; refine mm_st hM ?_; clear hM; intro _ hM; refine mop_c trivial ?_; refine mm_ld hM ?_; refine mop_c ?_ ?_)); (focus omega))
        rename_i g6 _ _
        ((with_reducible (refine mop_cS trivial ?_ ?_)))
        · intro h0
          ((with_reducible (refine mif_true ?_; refine mop_c trivial ?_; refine mm_ld hM ?_; refine mop_c trivial ?_; refine mm_ld hM ?_)))
          refine mm_own (ask_ok g last op dr acts[i].chg acts[i].head (by omega) (hM.at_ (listR g last op dr))) ?_
          rintro v w4 ⟨rfl, hM⟩
          have hal := askL_len last op acts[i].chg acts[i].head ho
          have hin2 := hin.ask acts[i].chg acts[i].head
          generalize askL last op acts[i].chg acts[i].head = q at hM hal hin2 ⊢
          skip
          exact ⟨q.1, q.2.1, dr, H1, hal.1, hd, by omega, hin2, hl1, hM.sub⟩
        · intro h0
          ((with_reducible (refine mif_false ?_)))
          ((with_reducible (refine mop_cS trivial ?_ ?_)))
          · intro h1
            ((with_reducible (refine mif_true ?_)))
            refine mm_own (openE_ok g last op dr (by omega) (hM.at_ (listR g last op dr))) ?_
            rintro v w4 ⟨_, H2, A1, c1, n1, rfl, rfl, hl2, hs1, hM⟩
            ((with_reducible (refine dp_c trivial ?_; refine dm_ld hM ?_; refine dp_c trivial ?_; refine dm_ld hM ?_; refine dp_c trivial ?_; refine dm_ld hM ?_)))
            refine dm_pure hM (fun w hM => mkfits_ok acts[i].fits.1 acts[i].fits.2 hM.fz) (fun w5 _ hM => ?_)
            skip
            refine dm_own hM (fun w hM => move_ok g last op dr acts[i].head acts[i].A acts[i].c acts[i].seqs (tfn acts[i].fits.1) (ff acts[i].fits) (clo_fits _ acts[i].fits.2) (by omega) (by omega) (by omega) (hsq.mono hl2.le) (hM.at_ (listR g last op dr))) ?_
            rintro v w6 ⟨H3, A3, n3, c3, rfl, hn3, hl3, hs4, hM⟩
            have hml := mvs_len acts[i].head acts[i].seqs (ff acts[i].fits) op dr
            have htl : (trim (mvs acts[i].head acts[i].seqs (ff acts[i].fits) op dr).drop).length ≤ 32 := by unfold trim; rw [List.length_drop]; omega
            have hk := left_keep acts[i].head acts[i].seqs (ff acts[i].fits) op dr
            have hin2 := hin.move acts[i].head acts[i].seqs (ff acts[i].fits)
            have hon := fun (p : Ple) (hp : p ∈ op) => once acts[i].head acts[i].seqs (ff acts[i].fits) hin ho hp
            have htm := times_le acts[i].head acts[i].seqs (ff acts[i].fits) hin
            generalize mvs acts[i].head acts[i].seqs (ff acts[i].fits) op dr = q at hM hs4 hn3 hml htl hk hin2 hon htm ⊢
            subst hn3
            ((with_reducible (refine mm_end hM ?_; clear hM; intro _ hM; refine dp_c trivial ?_; refine dm_ld hM ?_; refine dp_c trivial ?_; refine dm_ld hM ?_; refine dp_c trivial ?_; refine dm_ld hM ?_)))
            refine dm_pure hM (fun w hM => mkfits_ok acts[i].fits.1 acts[i].fits.2 hM.fz) (fun w7 _ hM => ?_)
            skip
            refine dm_own hM (fun w hM => move_ok g last q.left (trim q.drop) acts[i].head acts[i].A acts[i].c acts[i].seqs (tfn acts[i].fits.1) (ff acts[i].fits) (clo_fits _ acts[i].fits.2) (by omega) (by omega) (by omega) (hsq.mono (hl2.trans hl3).le) (hM.at_ (listR g last q.left (trim q.drop)))) ?_
            rintro v w8 ⟨H4, A4, n4, c4, rfl, hn4, hl4, _, hM⟩
            rw [again _ _ _ _ _ hk] at hn4 hM
            have hn4 : n4 = 0 := hn4
            subst hn4
            simp only [trim_trim] at hM
            ((with_reducible (refine dp_c trivial ?_; refine dp_cF trivial ?_ ?_)); (focus (first | assumption | omega)); (with_reducible (refine mm_end hM ?_; clear hM; intro _ hM; refine mif_false ?_)))
            refine mm_own (openE_ok g last q.left (trim q.drop) (by omega) (hM.at_ (listR g last q.left (trim q.drop)))) ?_
            rintro v w9 ⟨_, H5, A5, c5, n5, rfl, rfl, hl5, hs5, hM⟩
            refine mm_own (droppedE_ok g last q.left (trim q.drop) (by omega) (hM.at_ (listR g last q.left (trim q.drop)))) ?_
            rintro v w10 ⟨_, H6, A6, c6, n6, rfl, rfl, hl6, hs6, hM⟩
            have hs1 := hs1.mono (hl3.trans (hl4.trans (hl5.trans hl6))).le
            have hs4 := hs4.mono (hl4.trans (hl5.trans hl6)).le
            have hs5 := hs5.mono hl6.le
            have hsq := hsq.mono (hl2.trans (hl3.trans (hl4.trans (hl5.trans hl6)))).le
            refine ⟨fun y w' => ∃ k : Nat, y = .int .i64 k ∧ k ≤ op.length ∧ hM.now w', fun y _ => match y with | .int _ i => op.length - i.toNat | _ => 0, ⟨0, rfl, by omega, hM⟩, ?_⟩
            rintro y u w11 ⟨k, rfl, hkl, hM⟩
            ((with_reducible (refine mop_c trivial ?_)))
            ((with_reducible (refine mop_cS trivial ?_ ?_)))
            · intro hlk
              have hlk' : k < op.length := by omega
              have hon := hon op[k] (List.getElem_mem _)
              have htm := htm op[k].seq
              ((with_reducible (refine mif_true ?_)))
              refine ⟨fun x y w' => ∃ j : Nat, x = .int .i64 (times (q.anew.take j) op[k].seq) ∧ y = .int .i64 j ∧ j ≤ q.anew.length ∧ hM.now w', fun _ y _ => match y with | .int _ i => q.anew.length - i.toNat | _ => 0, ⟨0, rfl, rfl, by omega, hM⟩, ?_⟩
              rintro x y u w12 ⟨j, rfl, rfl, hj, hM⟩
              have htj : times (q.anew.take j) op[k].seq ≤ j := Nat.le_trans (List.countP_le_length) (by simp; omega)
              ((with_reducible (refine mop_c trivial ?_)))
              ((with_reducible (refine mop_cS trivial ?_ ?_)))
              · intro hlj
                have hlj' : j < q.anew.length := by omega
                ((with_reducible (refine mif_true ?_)))
                refine ⟨fun x w' => x = .int .i64 (times (q.anew.take (j + 1)) op[k].seq) ∧ hM.now w', ?_, ?_⟩
                · rw [times_succ _ _ _ hlj']
                  ((with_reducible refine dp_ixs ‹_› ?_ ?_ ?_); (focus (simp only [List.length_map]; omega)); (focus (simp only [List.length_map]; first | done | omega)); (with_reducible (intro _ _ hA)); (cases hA); (with_reducible (refine dp_c trivial ?_)); (with_reducible refine dm_lds hM ‹_› (map_atI ?_) ?_); (focus omega); (with_reducible refine dp_ixs ‹_› ?_ ?_ ?_); (focus (simp only [List.length_map]; omega)); (focus (simp only [List.length_map]; first | done | omega)); (with_reducible (intro _ _ hA)); (cases hA); (with_reducible (refine dp_c trivial ?_)); (with_reducible refine dm_lds hM ‹_› (map_atI ?_) ?_); (focus omega))
                  ((with_reducible (refine dp_cS trivial ?_ ?_))) <;>
                  · intro he
                    (first | ((with_reducible (refine mm_end hM (fun _ hM2 => ?_); replace hM := hM2; clear hM2; refine mif_true ?_; refine mop_c ?_ ?_)); (focus omega)) | ((with_reducible (refine mm_end hM (fun _ hM2 => ?_); replace hM := hM2; clear hM2; refine mif_false ?_))))
                    exact ⟨by simp [he], hM⟩
                · rintro x u w13 ⟨rfl, hM⟩
                  ((with_reducible (refine mop_c ?_ ?_)); (focus omega))
                  exact ⟨⟨j + 1, rfl, by simp, by omega, hM⟩, by simp; omega⟩
              · intro hgj
                have : j = q.anew.length := by omega
                subst this
                rw [List.take_length]
                ((with_reducible (refine mif_false ?_)))
                refine ⟨fun x y w' => ∃ j : Nat, x = .bool (thereB acts[i].head acts[i].seqs (q.left.take j) op[k].seq) ∧ y = .int .i64 j ∧ j ≤ q.left.length ∧ hM.now w', fun _ y _ => match y with | .int _ i => q.left.length - i.toNat | _ => 0, ⟨0, rfl, rfl, by omega, hM⟩, ?_⟩
                rintro x y u w12 ⟨j, rfl, rfl, hj, hM⟩
                ((with_reducible (refine mop_c trivial ?_)))
                ((with_reducible (refine mop_cS trivial ?_ ?_)))
                · intro hlj
                  have hlj' : j < q.left.length := by omega
                  ((with_reducible (refine mif_true ?_)))
                  refine ⟨fun x w' => x = .bool (thereB acts[i].head acts[i].seqs (q.left.take (j + 1)) op[k].seq) ∧ hM.now w', ?_, ?_⟩
                  · rw [there_succ _ _ _ _ _ hlj']
                    cases thereB acts[i].head acts[i].seqs (q.left.take j) op[k].seq with
                    | true =>
                      ((with_reducible ((iterate 12 refine qguard_n1 ?_); (iterate 16 refine qguard_un ?_); refine mguard_un ?_; refine qguard_un ?_; refine qguard_n1 ?_; refine dp_c trivial ?_; refine mm_end hM (fun _ hM2 => ?_); replace hM := hM2; clear hM2)))
                      exact ⟨by simp, hM⟩
                    | false =>
                      ((with_reducible (refine qguard_yes ?_; refine dp_c trivial ?_; refine qguard_yes ?_; refine dp_c trivial ?_; refine qguard_yes ?_)); (with_reducible refine dp_ixs ‹_› ?_ ?_ ?_); (focus (simp only [List.length_map]; omega)); (focus (simp only [List.length_map]; first | done | omega)); (with_reducible (intro _ _ hA)); (cases hA); (with_reducible (refine qguard_yes ?_; refine dp_c trivial ?_; refine qguard_yes ?_)); (with_reducible refine dm_lds hM ‹_› (map_atI ?_) ?_); (focus omega); (with_reducible (refine qguard_yes ?_; refine dp_c trivial ?_; refine qguard_yes ?_; refine dp_c trivial ?_; refine qguard_yes ?_)); (with_reducible refine dp_ixs ‹_› ?_ ?_ ?_); (focus (simp only [List.length_map]; omega)); (focus (simp only [List.length_map]; first | done | omega)); (with_reducible (intro _ _ hA)); (cases hA); (with_reducible (refine qguard_yes ?_; refine dp_c trivial ?_; refine qguard_yes ?_)); (with_reducible refine dm_lds hM ‹_› (map_atI ?_) ?_); (focus omega); (with_reducible (refine qguard_yes ?_)))
                      ((with_reducible (refine dp_cS trivial ?_ ?_)))
                      · intro he
                        ((with_reducible (refine qguard_yes ?_; refine dp_c trivial ?_; refine qguard_yes ?_; refine dp_c trivial ?_; refine qguard_yes ?_; refine dp_c trivial ?_; refine qguard_yes ?_)); (with_reducible refine dp_ixs ‹_› ?_ ?_ ?_); (focus (simp only [List.length_map]; omega)); (focus (simp only [List.length_map]; first | done | omega)); (with_reducible (intro _ _ hA)); (cases hA); (with_reducible (refine qguard_yes ?_; refine dp_c trivial ?_; refine qguard_yes ?_)); (with_reducible refine dm_lds hM ‹_› (map_atI ?_) ?_); (focus omega); (with_reducible (refine qguard_yes ?_; refine dp_c trivial ?_; refine qguard_yes ?_; refine dm_ld hM ?_; refine qguard_yes ?_)))
                        ((with_reducible (refine dp_cS trivial ?_ ?_)))
                        · intro he2
                          ((with_reducible (refine qguard_yes ?_; refine dp_c trivial ?_; (iterate 7 refine qguard_n1 ?_); refine mguard_n1 ?_; refine qguard_yes ?_; refine dp_c trivial ?_; refine qguard_yes ?_; refine dp_c trivial ?_; refine dp_c trivial ?_; refine mm_end hM (fun _ hM2 => ?_); replace hM := hM2; clear hM2)))
                          exact ⟨by simp [he, he2], hM⟩
                        · intro he2
                          ((with_reducible (refine qguard_yes ?_; refine dp_c trivial ?_; refine qguard_yes ?_; refine dp_c trivial ?_; refine qguard_yes ?_; refine dm_ld hM ?_; refine qguard_yes ?_; refine dp_c trivial ?_; refine qguard_yes ?_; refine dp_c trivial ?_; refine qguard_yes ?_)); (with_reducible refine dp_ixs ‹_› ?_ ?_ ?_); (focus (simp only [List.length_map]; omega)); (focus (simp only [List.length_map]; first | done | omega)); (with_reducible (intro _ _ hA)); (cases hA); (with_reducible (refine qguard_yes ?_; refine dp_c trivial ?_; refine qguard_yes ?_)); (with_reducible refine dm_lds hM ‹_› (map_atI ?_) ?_); (focus omega); (with_reducible (refine mguard_yes ?_)))
                          refine dm_pure hM (fun w hM => in_ok acts[i].A acts[i].c _ acts[i].seqs op[k].seq rfl (by omega) hsq hM.fz) (fun w13 _ hM => ?_)
                          ((with_reducible (refine qguard_yes ?_; refine dp_c trivial ?_; refine qguard_yes ?_; refine dp_c trivial ?_; refine dp_c trivial ?_; refine mm_end hM ?_; clear hM; intro _ hM)))
                          exact ⟨by simp [he, he2], hM⟩
                      · intro he
                        ((with_reducible (refine qguard_yes ?_; refine dp_c trivial ?_; (iterate 9 refine qguard_n2 ?_); (iterate 7 refine qguard_un ?_); refine mguard_un ?_; refine qguard_n2 ?_; refine qguard_yes ?_; refine dp_c trivial ?_; refine dp_c trivial ?_; refine mm_end hM (fun _ hM2 => ?_); replace hM := hM2; clear hM2)))
                        exact ⟨by simp [he], hM⟩
                  · rintro x u w13 ⟨rfl, hM⟩
                    ((with_reducible (refine mop_c ?_ ?_)); (focus omega))
                    exact ⟨⟨j + 1, rfl, by simp, by omega, hM⟩, by simp; omega⟩
                · intro hgj
                  have : j = q.left.length := by omega
                  subst this
                  rw [List.take_length]
                  ((with_reducible (refine mif_false ?_)))
                  refine ⟨fun x y w' => ∃ j : Nat, x = .bool (goneB ((trim q.drop).take j) op[k].seq) ∧ y = .int .i64 j ∧ j ≤ (trim q.drop).length ∧ hM.now w', fun _ y _ => match y with | .int _ i => (trim q.drop).length - i.toNat | _ => 0, ⟨0, rfl, rfl, by omega, hM⟩, ?_⟩
                  rintro x y u w12 ⟨j, rfl, rfl, hj, hM⟩
                  ((with_reducible (refine mop_c trivial ?_)))
                  ((with_reducible (refine mop_cS trivial ?_ ?_)))
                  · intro hlj
                    have hlj' : j < (trim q.drop).length := by omega
                    ((with_reducible (refine mif_true ?_)))
                    refine ⟨fun x w' => x = .bool (goneB ((trim q.drop).take (j + 1)) op[k].seq) ∧ hM.now w', ?_, ?_⟩
                    · rw [gone_succ _ _ _ hlj']
                      cases goneB ((trim q.drop).take j) op[k].seq with
                      | true =>
                        ((with_reducible ((iterate 12 refine qguard_n1 ?_); (iterate 6 refine qguard_un ?_); refine qguard_n1 ?_; refine dp_c trivial ?_; refine mm_end hM (fun _ hM2 => ?_); replace hM := hM2; clear hM2)))
                        exact ⟨by simp, hM⟩
                      | false =>
                        ((with_reducible (refine qguard_yes ?_; refine dp_c trivial ?_; refine qguard_yes ?_; refine dp_c trivial ?_; refine qguard_yes ?_)); (with_reducible refine dp_ixs ‹_› ?_ ?_ ?_); (focus (simp only [List.length_map]; omega)); (focus (simp only [List.length_map]; first | done | omega)); (with_reducible (intro _ _ hA)); (cases hA); (with_reducible (refine qguard_yes ?_; refine dp_c trivial ?_; refine qguard_yes ?_)); (with_reducible refine dm_lds hM ‹_› (map_atI ?_) ?_); (focus omega); (with_reducible (refine qguard_yes ?_; refine dp_c trivial ?_; refine qguard_yes ?_; refine dp_c trivial ?_; refine qguard_yes ?_)); (with_reducible refine dp_ixs ‹_› ?_ ?_ ?_); (focus (simp only [List.length_map]; omega)); (focus (simp only [List.length_map]; first | done | omega)); (with_reducible (intro _ _ hA)); (cases hA); (with_reducible (refine qguard_yes ?_; refine dp_c trivial ?_; refine qguard_yes ?_)); (with_reducible refine dm_lds hM ‹_› (map_atI ?_) ?_); (focus omega); (with_reducible (refine qguard_yes ?_)))
                        ((with_reducible (refine dp_cS trivial ?_ ?_)))
                        · intro he
                          ((with_reducible (refine qguard_yes ?_; refine dp_c trivial ?_; refine qguard_yes ?_; refine dp_c trivial ?_; refine qguard_yes ?_; refine dp_c trivial ?_; refine qguard_yes ?_)); (with_reducible refine dp_ixs ‹_› ?_ ?_ ?_); (focus (simp only [List.length_map]; omega)); (focus (simp only [List.length_map]; first | done | omega)); (with_reducible (intro _ _ hA)); (cases hA); (with_reducible (refine qguard_yes ?_; refine dp_c trivial ?_; refine qguard_yes ?_)); (with_reducible refine dm_lds hM ‹_› (map_atI ?_) ?_); (focus omega); (with_reducible (refine qguard_yes ?_)))
                          ((with_reducible (refine dp_cS trivial ?_ ?_))) <;>
                          · intro he2
                            ((with_reducible (refine qguard_yes ?_; refine dp_c trivial ?_; refine dp_c trivial ?_; refine mm_end hM (fun _ hM2 => ?_); replace hM := hM2; clear hM2)))
                            exact ⟨by simp [he]; omega, hM⟩
                        · intro he
                          ((with_reducible (refine qguard_yes ?_; refine dp_c trivial ?_; (iterate 6 refine qguard_n2 ?_); refine qguard_yes ?_; refine dp_c trivial ?_; refine dp_c trivial ?_; refine mm_end hM (fun _ hM2 => ?_); replace hM := hM2; clear hM2)))
                          exact ⟨by simp [he], hM⟩
                    · rintro x u w13 ⟨rfl, hM⟩
                      ((with_reducible (refine mop_c ?_ ?_)); (focus omega))
                      exact ⟨⟨j + 1, rfl, by simp, by omega, hM⟩, by simp; omega⟩
                  · intro hgj
                    have : j = (trim q.drop).length := by omega
                    subst this
                    rw [List.take_length]
                    ((with_reducible (refine mif_false ?_)))
                    refine ⟨fun x w' => x = .bool false ∧ hM.now w', ?_, ?_⟩
                    · ((with_reducible (refine mop_cF trivial ?_ ?_)); (focus (first | assumption | omega)); (with_reducible (refine mguard_yes ?_; refine mop_c trivial ?_; refine mguard_yes ?_; refine mop_c trivial ?_; refine mguard_yes ?_; refine mop_cF trivial ?_ ?_)); (focus (first | assumption | omega)); (with_reducible (refine mop_c trivial ?_)))
                      exact ⟨rfl, hM⟩
                    rintro x u w13 ⟨rfl, hM⟩
                    ((with_reducible (refine mif_false ?_; refine mop_c ?_ ?_)); (focus omega))
                    exact ⟨⟨k + 1, by simp, by omega, hM⟩, by simp; omega⟩
            · intro hgk
              ((with_reducible (refine mif_false ?_)))
              exact ⟨last, q.left, trim q.drop, H6, by omega, htl, by omega, hin2, hl1.trans (hl2.trans (hl3.trans (hl4.trans (hl5.trans hl6)))), hM.sub⟩
          · intro h1
            ((with_reducible (refine mif_false ?_; refine mop_cT trivial ?_ ?_)); (focus (first | assumption | omega)); (with_reducible (refine mif_true ?_; refine mop_c trivial ?_; refine mm_ld hM ?_)))
            refine mm_own (settle_ok g last op dr acts[i].A acts[i].c acts[i].seqs (by omega) (by omega) hsq (hM.at_ (listR g last op dr))) ?_
            rintro v w4 ⟨rfl, hM⟩
            skip
            exact ⟨last, op.filter fun p => !decide (p.seq ∈ acts[i].seqs), dr, H1, Nat.le_trans (List.length_filter_le _ _) ho, hd, by omega, hin.settle _, hl1, hM.sub⟩
      · clear hM ho hd hla hin
        rintro u w4 ⟨last, op, dr, H2, ho, hd, hla, hin, hl2, hM⟩
        ((with_reducible (refine mop_c ?_ ?_)); (focus omega))
        exact ⟨⟨i + 1, last, op, dr, H2, by simp, by omega, ho, hd, by omega, hin, hl2, hM⟩, by simp; omega⟩
    · intro hge
      ((with_reducible (refine mif_false ?_)))
      exact ⟨rfl, hM.st⟩
end
end Go.Proofs.Ythnjpglpglbbkaa
