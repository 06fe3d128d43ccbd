/- Plea: the walk of PleaPlays. -/
import Derived.Test.YthnjpglpglbbkaaPleaR2
import Derived.Test.YthnjpglpglbbkaaPleaRd
namespace Go.Proofs.Ythnjpglpglbbkaa
open Go.RowKit

theorem rdr_pacts : Rdr Try.prog 112 1 (fun H fs (xs : List PAct) => ∃ A cap, fs = [.one (.slice A xs.length cap)] ∧ xs.length ≤ maxLen ∧ Sl H 76 A (xs.map PAct.fds) ∧ ∀ x ∈ xs, x.good H) :=
  (rdr_slice Try.underlying112 (by kernel_rfl) (by omega) rdr_pact).map fun H fs xs _ ⟨A, cap, ps, h1, h2, h3, h4⟩ => by
    obtain ⟨rfl, hg⟩ := All2.eq_map h4
    exact ⟨xs, A, cap, h1, h2, h3, hg⟩
section
variable {H : Hp} {w0 w : World} {L R : List Res}
theorem few_ok (acts : List PAct) (A : Option Addr) (cap : Nat) (hs : Sl H 76 A (acts.map PAct.fds)) (hq : ∀ x ∈ acts, x.seqs.length ≤ maxLen) (hf : Fz H w) :
    Calls Try.prog 61 #[.slice A acts.length cap] w fun e w' => ∃ b : Bool, e = .returned (.bool b) ∧ (b = true → acts.length ≤ 100 ∧ ∀ x ∈ acts, x.seqs.length ≤ 100) ∧ St w [] w' := by
  have hM := Mem.start hf
  refine C_bevylaw17_few ?_
  unfold F_bevylaw17_few
  refine ⟨fun y w' => ∃ i : Nat, y = .int .i64 i ∧ i ≤ acts.length ∧ i ≤ 100 ∧ (∀ j (hj : j < acts.length), j < i → acts[j].seqs.length ≤ 100) ∧ hM.now w', fun y _ => match y with | .int _ i => acts.length - i.toNat | _ => 0, ⟨0, rfl, by omega, by omega, by intro j hj h; omega, hM⟩, ?_⟩
  rintro y u w2 ⟨i, rfl, hi, hi2, hne, hM⟩
  ((with_reducible (refine mop_c trivial ?_)))
  ((with_reducible (refine mop_cS trivial ?_ ?_)))
  · intro hlt
    have hlt' : i < acts.length := by omega
    have hqi := hq acts[i] (List.getElem_mem _)
    ((with_reducible (refine mif_true ?_)))
    refine ⟨fun x w' => ∃ b : Bool, x = .bool b ∧ (b = false → i < 100 ∧ acts[i].seqs.length ≤ 100) ∧ hM.now w', ?_, ?_⟩
    · skip
      ((with_reducible (refine mop_cS trivial ?_ ?_)))
      · intro h
        ((with_reducible ((iterate 7 refine mguard_n1 ?_); refine mop_c trivial ?_)))
        exact ⟨_, rfl, by simp, hM⟩
      · intro h
        ((with_reducible (refine mguard_yes ?_; refine mop_c trivial ?_; refine mguard_yes ?_; refine mop_c trivial ?_; refine mguard_yes ?_)); (with_reducible refine mm_ixs ‹_› ?_ ?_ ?_); (focus (simp only [List.length_map]; omega)); (focus (simp only [List.length_map]; first | done | omega)); (with_reducible (intro _ _ hA)); (cases hA); (with_reducible (refine mguard_yes ?_; refine mop_c trivial ?_; refine mguard_yes ?_)); (with_reducible refine mm_lds hM ‹_› (map_atI ?_) ?_); (focus omega); (with_reducible (refine mguard_yes ?_; refine mop_c trivial ?_; refine mguard_yes ?_)))
        ((with_reducible (refine mop_cS trivial ?_ ?_))) <;>
        · intro h2
          ((with_reducible (refine mop_c trivial ?_)))
          exact ⟨_, rfl, by simp; try omega, hM⟩
    · rintro x u w3 ⟨b, rfl, hb, hM⟩
      cases b with
      | true =>
        ((with_reducible (refine mif_true ?_)))
        exact ⟨_, rfl, by simp, hM.st⟩
      | false =>
        have hb := hb rfl
        ((with_reducible (refine mif_false ?_; refine mop_c ?_ ?_)); (focus omega))
        exact ⟨⟨i + 1, by simp, by omega, by omega, fun j hj hji => by
          rcases Nat.lt_or_ge j i with h | h
          · exact hne j hj h
          · have : j = i := by omega
            subst this
            exact hb.2, hM⟩, by simp; omega⟩
  · intro hge
    ((with_reducible (refine mif_false ?_)))
    refine ⟨_, rfl, fun _ => ⟨by omega, fun x hx => ?_⟩, hM.st⟩
    obtain ⟨j, hj, rfl⟩ := List.mem_iff_getElem.1 hx
    exact hne j hj (by omega)
theorem openE_ok (g : Nat) (last : Int) (op dr : List Ple) (hop : op.length < 100000) (hM : Mem H w0 (listR g last op dr :: L) w) :
    Calls Try.prog 64 #[.pointer (some ⟨g, 0, none⟩)] w fun e w' => ∃ v, e = .returned v ∧ Ext w w' ∧ ∃ H' A c n, v = .slice A n c ∧ n = op.length ∧ Le w0 H H' ∧ PSl H' A op ∧ Mem H' w0 (listR g last op dr :: L) w' :=
  (open_ok g last op dr hop hM).mono (by
    rintro e w' ⟨v, rfl, A, c, n, rfl, rfl, hx, hM⟩
    obtain ⟨H', hl, hM, hs, _⟩ := hM.fz0
    exact ⟨_, rfl, hx, H', A, c, _, rfl, rfl, hl, hs, hM⟩)
theorem droppedE_ok (g : Nat) (last : Int) (op dr : List Ple) (hop : dr.length < 100000) (hM : Mem H w0 (listR g last op dr :: L) w) :
    Calls Try.prog 67 #[.pointer (some ⟨g, 0, none⟩)] w fun e w' => ∃ v, e = .returned v ∧ Ext w w' ∧ ∃ H' A c n, v = .slice A n c ∧ n = dr.length ∧ Le w0 H H' ∧ PSl H' A dr ∧ Mem H' w0 (listR g last op dr :: L) w' :=
  (dropped_ok g last op dr hop hM).mono (by
    rintro e w' ⟨v, rfl, A, c, n, rfl, rfl, hx, hM⟩
    obtain ⟨H', hl, hM, hs, _⟩ := hM.fz0
    exact ⟨_, rfl, hx, H', A, c, _, rfl, rfl, hl, hs, hM⟩)
theorem askL_len (last : Int) (op : List Ple) (c : Chg) (e : H32) (h : op.length ≤ 32) : (askL last op c e).2.1.length ≤ 32 ∧ (askL last op c e).1 ≤ last + 1 ∧ last ≤ (askL last op c e).1 := by
  unfold askL
  split
  · exact ⟨h, by simp only []; omega, by simp only []; omega⟩
  · refine ⟨?_, ?_, ?_⟩ <;> simp <;> omega
theorem pleaPlays_ok (acts : List PAct) (hq : ∀ x ∈ acts, x.good H) (A : Option Addr) (cap : Nat) (hs : Sl H 76 A (acts.map PAct.fds)) (hf : Fz H w) :
    Calls Try.prog 13 #[.slice A acts.length cap] w fun en w' => en = .returned (.bool true) ∧ St w [] w' := by
  have hM := Mem.start hf
  refine C_bevylaw17_PleaPlays ?_
  unfold F_bevylaw17_PleaPlays
  refine ⟨fun x w' => ∃ b : Bool, x = .bool b ∧ (b = false → acts.length ≤ 100 ∧ ∀ x ∈ acts, x.seqs.length ≤ 100) ∧ hM.now w', ?_, ?_⟩
  · refine mm_pure hM (pawake_ok hM.fz) (fun w1 hM => ?_)
    ((with_reducible (refine mop_c trivial ?_; refine mguard_yes ?_; refine mop_c trivial ?_; refine mguard_yes ?_)))
    refine mop_to (few_ok acts A cap hs (fun x hx => (hq x hx).2.1) hM.fz) ?_
    rintro e w2 ⟨b, rfl, hb, hst⟩
    have hM := hM.call0 hst
    refine mguard_yes ?_
    ((with_reducible (refine mop_c trivial ?_; refine mop_c trivial ?_)))
    exact ⟨_, rfl, by cases b <;> simp_all, hM⟩
  rintro x u w2 ⟨b, rfl, hb, hM⟩
  cases b with
  | true =>
    ((with_reducible (refine mif_true ?_)))
    refine mm_pure hM (pawake_ok hM.fz) (fun w1 hM => ?_)
    exact ⟨rfl, hM.st⟩
  | false =>
    obtain ⟨hb1, hb2⟩ := hb rfl
    ((with_reducible (refine mif_false ?_)))
    refine mm_own (pnew_ok hM) ?_
    rintro v w3 ⟨g, rfl, hM⟩
    ((with_reducible (refine mop_c trivial ?_; refine mm_new hM ?_; clear hM; intro _ _ hM; refine mm_st hM ?_; clear hM; intro _ hM)))
    rename_i g4 _ _
    refine ⟨fun x y w' => ∃ (g i : Nat) (last : Int) (op dr : List Ple) (H' : Hp) (A1 : Option Addr) (c1 : Nat) (A2 : Option Addr) (c2 : Nat), x = .pointer (some ⟨g, 0, none⟩) ∧ y = .int .i64 i ∧ i ≤ acts.length ∧ op.length ≤ 32 ∧ dr.length ≤ 32 ∧ (0 ≤ last ∧ last ≤ i) ∧ Le w H H' ∧ PSl H' A1 op ∧ PSl H' A2 dr ∧
        Mem H' w [fb g4 135 (rlf last A1 op.length c1 A2 dr.length c2), listR g last op dr] w', fun _ y _ => match y with | .int _ i => acts.length - i.toNat | _ => 0,
        ⟨g, 0, 0, [], [], H, none, 0, none, 0, rfl, rfl, by omega, by simp, by simp, by omega, Le.refl _ _, Sl.nil _ _ _, Sl.nil _ _ _, hM⟩, ?_⟩
    clear hM
    rintro x y u w3 ⟨g, i, last, op, dr, H1, A1, c1, A2, c2, rfl, rfl, hi, ho, hd, hla, hl1, hs1, hs2, hM⟩
    ((with_reducible (refine mop_c trivial ?_)))
    ((with_reducible (refine mop_cS trivial ?_ ?_)))
    · intro hlt
      have hlt' : i < acts.length := by omega
      have hs3 := hs.mono hl1.le
      obtain ⟨hop, _, hsq⟩ := hq acts[i] (List.getElem_mem _)
      have hsq := hsq.mono hl1.le
      have hqb := hb2 acts[i] (List.getElem_mem _)
      ((with_reducible (refine mif_true ?_)); (with_reducible refine mm_ixs ‹_› ?_ ?_ ?_); (focus (simp only [List.length_map]; omega)); (focus (simp only [List.length_map]; first | done | omega)); (with_reducible (intro _ _ hA)); (cases hA); (with_reducible refine mm_lds0 hM ‹_› (map_atI ?_) ?_); (focus omega); (with_reducible (refine mm_new hM ?_; clear hM; intro _ _ hM; refine mm_st hM ?_; clear hM; intro _ hM)))
      rename_i b o _ _ g6 _ _
      refine ⟨fun w' => ∃ (last : Int) (op dr : List Ple) (H' : Hp) (A1 : Option Addr) (c1 : Nat) (A2 : Option Addr) (c2 : Nat), op.length ≤ 32 ∧ dr.length ≤ 32 ∧ (0 ≤ last ∧ last ≤ i + 1) ∧ Le w H H' ∧ PSl H' A1 op ∧ PSl H' A2 dr ∧
        Mem H' w [fb g4 135 (rlf last A1 op.length c1 A2 dr.length c2), listR g last op dr] w', ?_, ?_⟩
      · ((with_reducible (refine mop_c trivial ?_; refine mm_ld hM ?_; refine mop_c ?_ ?_)); (focus omega))
        ((with_reducible (refine mop_cS trivial ?_ ?_)))
        · intro h0
          ((with_reducible (refine mif_true ?_; refine mop_c trivial ?_; refine mm_ld hM ?_; refine mop_c trivial ?_; refine mm_ld hM ?_)))
          refine mm_own (ask_ok g last op dr acts[i].chg acts[i].head (by omega) (hM.at_ (listR g last op dr))) ?_
          rintro v w4 ⟨rfl, hM⟩
          ((with_reducible (refine mop_c trivial ?_; refine mop_c trivial ?_; refine mm_ld hM ?_; refine mop_c trivial ?_; refine mm_ld hM ?_; refine mop_c trivial ?_; refine mm_ld hM ?_)))
          refine mm_call hM (rask_ok last A1 A2 c1 c2 op dr acts[i].chg acts[i].head (by omega) (by omega) hs1 hM.fz) ?_
          rintro H2 v w5 hl2 hM ⟨A3, n3, c3, rfl, rfl, hs4⟩
          have hal := askL_len last op acts[i].chg acts[i].head ho
          generalize askL last op acts[i].chg acts[i].head = q at hM hs4 hal ⊢
          ((with_reducible ((iterate 3 refine mop_c trivial ?_); refine mm_new hM ?_; clear hM; intro _ _ hM; refine mm_st hM ?_; clear hM; intro _ hM; refine mm_ld hM ?_; refine mm_st hM ?_; clear hM; intro _ hM)))
          refine ⟨fun x w' => x = .bool false ∧ hM.now w', ?_, ?_⟩
          · ((with_reducible (refine mop_cF trivial ?_ ?_)); (focus (first | assumption | omega)); (with_reducible (refine mguard_yes ?_; refine mop_c trivial ?_; refine mguard_yes ?_; refine mop_c trivial ?_; refine mguard_yes ?_; refine mop_cF trivial ?_ ?_)); (focus (first | assumption | omega)); (with_reducible (refine mop_c trivial ?_)))
            exact ⟨rfl, hM⟩
          rintro x u w6 ⟨rfl, hM⟩
          ((with_reducible (refine mif_false ?_)))
          exact ⟨q.1, q.2.1, dr, H2, A3, c3, A2, c2, hal.1, hd, by omega, hl1.trans hl2, hs4, hs2.mono hl2.le, hM.sub⟩
        · intro h0
          ((with_reducible (refine mif_false ?_)))
          ((with_reducible (refine mop_cS trivial ?_ ?_)))
          · intro h1
            ((with_reducible (refine mif_true ?_; refine dp_c trivial ?_; refine dm_ld hM ?_; refine dp_c trivial ?_; refine dm_ld hM ?_; refine dp_c trivial ?_; refine dm_ld hM ?_)))
            refine dm_pure hM (fun w hM => mkfits_ok acts[i].fits.1 acts[i].fits.2 hM.fz) (fun w4 _ hM => ?_)
            skip
            refine dm_own hM (fun w hM => move_ok g last op dr acts[i].head acts[i].A acts[i].c acts[i].seqs (tfn acts[i].fits.1) (ff acts[i].fits) (clo_fits _ acts[i].fits.2) (by omega) (by omega) (by omega) hsq (hM.at_ (listR g last op dr))) ?_
            rintro v w5 ⟨H2, A3, n3, c3, rfl, hn3, hl2, hs3, hM⟩
            ((with_reducible (refine mm_end hM ?_; clear hM; intro _ hM; refine mm_ld hM ?_; refine mop_c trivial ?_; refine mm_ld hM ?_; refine mop_c trivial ?_; refine mm_ld hM ?_; refine mop_c trivial ?_; refine mm_ld hM ?_)))
            refine mm_call hM (rmove_ok last A1 A2 acts[i].A c1 c2 acts[i].c op dr acts[i].head acts[i].seqs acts[i].fits (by omega) (by omega) (by omega) (hs1.mono hl2.le) (hs2.mono hl2.le) (hsq.mono hl2.le) hM.fz) ?_
            rintro H3 v w6 hl3 hM ⟨A4, n4, c4, A5, n5, c5, A6, n6, c6, rfl, hn4, hs4, hn5, hs5, hn6, hs6⟩
            have hml := mvs_len acts[i].head acts[i].seqs (ff acts[i].fits) op dr
            have htl : (trim (mvs acts[i].head acts[i].seqs (ff acts[i].fits) op dr).drop).length ≤ 32 := by unfold trim; rw [List.length_drop]; omega
            generalize mvs acts[i].head acts[i].seqs (ff acts[i].fits) op dr = q at hM hs4 hs5 hs6 hs3 hn3 hn4 hn5 hn6 hml htl ⊢
            subst hn4; subst hn5
            ((with_reducible (refine mop_c trivial ?_; refine mop_c trivial ?_; refine mm_new hM ?_; clear hM; intro _ _ hM; refine mm_st hM ?_; clear hM; intro _ hM; refine mm_ld hM ?_; refine mm_st hM ?_; clear hM; intro _ hM)))
            refine mm_call hM (pplain_ok A3 c3 n3 _ hn3 (by omega) (hs3.mono hl3.le) hM.fz) ?_
            rintro H4 v w7 hl4 hM ⟨A7, c7, n7, rfl, hn7, hs7⟩
            skip
            refine mm_pure hM (psame_ok A7 A6 c7 c6 n7 n6 _ _ hn7 hn6 (by omega) hs7 (hs6.mono hl4.le) hM.fz) (fun w8 hM => ?_)
            rw [decide_eq_true rfl]
            ((with_reducible (refine mop_c trivial ?_; refine mif_false ?_)))
            exact ⟨last, q.left, trim q.drop, H4, A4, c4, A5, c5, by omega, htl, by omega, hl1.trans (hl2.trans (hl3.trans hl4)), hs4.mono hl4.le, hs5.mono hl4.le, hM.sub⟩
          · intro h1
            ((with_reducible (refine mif_false ?_; refine mop_cT trivial ?_ ?_)); (focus (first | assumption | omega)); (with_reducible (refine mif_true ?_; refine mop_c trivial ?_; refine mm_ld hM ?_)))
            refine mm_own (settle_ok g last op dr acts[i].A acts[i].c acts[i].seqs (by omega) (by omega) hsq (hM.at_ (listR g last op dr))) ?_
            rintro v w4 ⟨rfl, hM⟩
            ((with_reducible (refine mm_ld hM ?_; refine mop_c trivial ?_; refine mm_ld hM ?_)))
            refine mm_call hM (rsettle_ok last A1 A2 acts[i].A c1 c2 acts[i].c op dr acts[i].seqs (by omega) (by omega) hs1 hsq hM.fz) ?_
            rintro H2 v w5 hl2 hM ⟨A3, n3, c3, rfl, rfl, hs4⟩
            ((with_reducible (refine mm_st hM ?_; clear hM; intro _ hM)))
            exact ⟨last, op.filter fun p => !decide (p.seq ∈ acts[i].seqs), dr, H2, A3, c3, A2, c2, Nat.le_trans (List.length_filter_le _ _) ho, hd, by omega, hl1.trans hl2, hs4, hs2.mono hl2.le, hM.sub⟩
      · clear hM hs1 hs2 ho hd hla
        rintro u w4 ⟨last, op, dr, H2, A1, c1, A2, c2, ho, hd, hla, hl2, hs1, hs2, hM⟩
        skip
        refine ⟨fun x w' => x = .bool false ∧ ∃ H' : Hp, Le w H2 H' ∧ Mem H' w [fb g4 135 (rlf last A1 op.length c1 A2 dr.length c2), listR g last op dr] w', ?_, ?_⟩
        · have hM0 := hM
          refine dm_ownE hM (fun w hM => openE_ok g last op dr (by omega) (hM.at_ (listR g last op dr))) ?_
          rintro v w5 _ ⟨H3, A3, c3, n3, rfl, rfl, hl3, hs3, hM⟩
          skip
          refine dm_call hM (fun w hM => pplain_ok A3 c3 _ _ rfl (by omega) hs3 hM.fz) ?_
          rintro H4 v w6 _ hl4 hM ⟨A4, c4, n4, rfl, rfl, hs4⟩
          ((with_reducible (refine dp_c trivial ?_)))
          refine dm_ld hM0 ?_
          refine dm_pure hM (fun w hM => psame_ok A4 A1 c4 c1 _ _ _ _ rfl rfl (by omega) hs4 (hs1.mono (hl3.trans hl4).le) hM.fz) (fun w7 _ hM => ?_)
          rw [decide_eq_true rfl]
          ((with_reducible (refine dp_c trivial ?_; refine qguard_yes ?_; refine dp_c trivial ?_; refine mguard_yes ?_)))
          have hM1 := hM
          refine dm_ownE hM (fun w hM => droppedE_ok g last op dr (by omega) (hM.at_ (listR g last op dr))) ?_
          rintro v w8 _ ⟨H5, A5, c5, n5, rfl, rfl, hl5, hs5, hM⟩
          ((with_reducible (refine mguard_yes ?_)))
          refine dm_call hM (fun w hM => pplain_ok A5 c5 _ _ rfl (by omega) hs5 hM.fz) ?_
          rintro H6 v w9 _ hl6 hM ⟨A6, c6, n6, rfl, rfl, hs6⟩
          ((with_reducible (refine qguard_yes ?_; refine dp_c trivial ?_; refine qguard_yes ?_)))
          refine dm_ld hM1 ?_
          ((with_reducible (refine mguard_yes ?_)))
          refine dm_pure hM (fun w hM => psame_ok A6 A2 c6 c2 _ _ _ _ rfl rfl (by omega) hs6 (hs2.mono (hl3.trans (hl4.trans (hl5.trans hl6))).le) hM.fz) (fun w10 _ hM => ?_)
          rw [decide_eq_true rfl]
          ((with_reducible (refine qguard_yes ?_; refine dp_c trivial ?_; refine dp_c trivial ?_; refine qguard_yes ?_; refine dp_c trivial ?_; refine mguard_yes ?_)))
          have hM2 := hM
          refine dm_eq hM (fun w hM => last_ok g last op dr (hM.at_ (listR g last op dr))) (fun w11 _ hM => ?_)
          ((with_reducible (refine qguard_yes ?_; refine dp_c trivial ?_; refine qguard_yes ?_)))
          refine dm_ld hM2 ?_
          ((with_reducible (refine qguard_yes ?_; refine dp_cF trivial ?_ ?_)); (focus (first | assumption | omega)); (with_reducible (refine dp_c trivial ?_; refine mm_end hM ?_; clear hM; intro _ hM)))
          exact ⟨rfl, H6, hl3.trans (hl4.trans (hl5.trans hl6)), hM.sub⟩
        · rintro x u w5 ⟨rfl, H3, hl3, hM⟩
          ((with_reducible (refine mif_false ?_)))
          refine mop_same (last_ok g last op dr (hM.at_ (listR g last op dr))) (by kernel_rfl) ?_
          refine mm_own (open_ok g last op dr (by omega) (hM.at_ (listR g last op dr))) ?_
          rintro v w6 ⟨A3, c3, n3, rfl, rfl, _, hM⟩
          refine mm_own (dropped_ok g last op dr (by omega) (hM.at_ (listR g last op dr))) ?_
          rintro v w7 ⟨A4, c4, n4, rfl, rfl, _, hM⟩
          refine mm_own (restore_ok last op dr A3 A4 c3 c4 (by omega) (by omega) ((hM.up A4).up A3)) ?_
          rintro v w8 ⟨g9, rfl, hM⟩
          ((with_reducible (refine mop_c ?_ ?_)); (focus omega))
          exact ⟨⟨g9, i + 1, last, op, dr, H3, A1, c1, A2, c2, rfl, by simp, by omega, ho, hd, by omega, hl2.trans hl3, hs1.mono hl3.le, hs2.mono hl3.le, hM.sub⟩, by simp; omega⟩
    · intro hge
      ((with_reducible (refine mif_false ?_)))
      exact ⟨rfl, hM.st⟩
end
end Go.Proofs.Ythnjpglpglbbkaa
