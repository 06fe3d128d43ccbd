/- ChangeNames holds for every input. (The end of the proof.) -/
import Derived.Test.YtopcnkejobomaaaPc4
import Derived.Test.YtopcnkejobomaaaRows
import Derived.Carry
namespace Go.Proofs.Ytopcnkejobomaaa
open Go.RowKit Go.Lib
section
variable {H : Hp} {w0 w : World} {L R : List Res} {K : Option Addr} {kc : Nat} {v : Value}
theorem changeNames_ok (x : Plc) (l : List Chg.Prp) (h : PlF H v x) (hl : l.length ≤ maxLen) (hs : Sl H 101 K (l.map Chg.Prp.fds)) (hf : Fz H w) :
    Calls Try.prog 11 #[v, .slice K l.length kc] w fun en w' => en = .returned (.bool true) ∧ St w [] w' := by
  obtain ⟨A, a, B, b, q, C, c, r, hv, ⟨t1, t2, t3⟩, r1, r2⟩ := h.ex
  obtain ⟨l1, l2, l3⟩ := h.len
  have hl' : l.length ≤ 9223372036854775807 := hl
  have hT : TrF H (tv A x.t.ls.length a B x.t.ps.length b) x.t := ⟨⟨A, a, B, b, q, rfl, t1, t2, t3⟩, l1, l2⟩
  rw [hv] at h ⊢
  have hM := Mem.start hf
  refine C_bevylaw10_ChangeNames ?_
  unfold F_bevylaw10_ChangeNames
  ((with_reducible (refine mm_box hM ?_; clear hM; intro _ _ hM)))
  rename_i g2 _
  refine ⟨fun v w' => v = .bool (decide (¬ (x.few ∧ l.length ≤ 70))) ∧ hM.now w', ?_, ?_⟩
  · ((with_reducible (refine mm_purC hM ?_ (fun _ hM2 => ?_))); (focus (first | exact trivial | assumption | omega)); (with_reducible (replace hM := hM2; clear hM2; refine mop_c trivial ?_; refine mguard_yes ?_; refine mm_ld hM ?_; refine mguard_yes ?_)))
    refine mm_pure hM (few10_ok x h hM.fz) (fun w hM => ?_)
    by_cases c : x.few
    · rw [decide_eq_true c]
      ((with_reducible (refine mguard_yes ?_; refine mop_c trivial ?_; refine mop_c trivial ?_; refine mguard_yes ?_; refine mop_c trivial ?_; refine mguard_yes ?_; refine mop_c trivial ?_; refine mguard_yes ?_)))
      ((with_reducible (refine mop_cS trivial ?_ ?_)))
      · intro c2
        ((with_reducible (refine mop_c trivial ?_)))
        exact ⟨by rw [decide_eq_true (show ¬ (x.few ∧ l.length ≤ 70) from fun k => by have := k.2; omega)], hM⟩
      · intro c2
        ((with_reducible (refine mop_c trivial ?_)))
        exact ⟨by rw [decide_eq_false (show ¬ ¬ (x.few ∧ l.length ≤ 70) from fun k => k ⟨c, by omega⟩)], hM⟩
    · rw [decide_eq_false c]
      ((with_reducible (refine mguard_yes ?_; refine mop_c trivial ?_; refine mop_c trivial ?_; (iterate 3 refine mguard_n1 ?_); refine mop_c trivial ?_)))
      exact ⟨by rw [decide_eq_true (show ¬ (x.few ∧ l.length ≤ 70) from fun k => c k.1)], hM⟩
  rintro v u w2 ⟨rfl, hM⟩
  by_cases c : x.few ∧ l.length ≤ 70
  case neg =>
    rw [decide_eq_true c]
    ((with_reducible (refine mif_true ?_; refine mm_purC hM ?_ ?_)); (focus (first | exact trivial | assumption | omega)); (with_reducible (clear hM; intro _ hM)))
    exact ⟨rfl, hM.st⟩
  rw [decide_eq_false (fun k => k c)]
  ((with_reducible (refine mif_false ?_; refine mop_c trivial ?_; refine mm_ld hM ?_; refine mop_c trivial ?_; refine mm_ld hM ?_; refine mop_c trivial ?_; refine mm_ld hM ?_; refine mop_c trivial ?_; refine mm_ld hM ?_; refine mop_c trivial ?_; refine mm_ld hM ?_; refine mop_c trivial ?_; refine mm_ld hM ?_)))
  refine mm_pure hM (fit_ok x l hl hT r1 r2 l3 hs hM.fz) (fun w hM => ?_)
  skip
  ((with_reducible (refine mop_cS trivial ?_ ?_)))
  · intro c0
    ((with_reducible (refine mif_true ?_)))
    exact ⟨rfl, hM.st⟩
  intro c0
  have hfit : x.fit l = 0 := Decidable.of_not_not c0
  obtain ⟨p1, p2, p3, p4⟩ := Plc.fit_parts hfit
  have hR := Tr.rt.1 p1
  have hone := fun i hi => Plc.one_parts (p3 i hi)
  have hinv := Plc.fit_inv hfit
  have happ : x.app l = appR x.t x.ti x.roll l := rfl
  rw [happ] at p4 hinv
  ((with_reducible (refine mif_false ?_; refine mop_c trivial ?_; refine mm_ld hM ?_; refine mop_c trivial ?_; refine mm_ld hM ?_; refine mop_c trivial ?_; refine mm_ld hM ?_)))
  obtain ⟨s, e, hse⟩ : ∃ s e, appR x.t x.ti x.roll l = (s, e) := ⟨_, _, rfl⟩
  rw [hse] at p4 hinv
  simp only at p4 hinv
  subst p4
  refine mm_call hM (capply_ok x.t x.ti x.roll l (by omega) hT r1 r2 l3 hs hM.fz) ?_
  rintro H2 v w4 le2 hM hQ
  obtain ⟨v1, F, fc, rfl, hT1, hs1⟩ := hQ s 0 hse
  clear hQ
  obtain ⟨C1, c1, D1, d1, q1, rfl, s1, s2, s3⟩ := hT1.ex
  ((with_reducible ((iterate 4 refine mop_c trivial ?_); refine mm_new hM ?_; clear hM; intro _ _ hM; refine mm_new hM ?_; clear hM; intro _ _ hM; refine mm_st hM ?_; clear hM; intro _ hM; refine mm_st hM ?_; clear hM; intro _ hM)))
  rename_i g5 _ g6 _ _ _
  refine ⟨fun v w' => v = .bool false ∧ hM.now w', ?_, ?_⟩
  · ((with_reducible (refine mop_cF trivial ?_ ?_)); (focus (first | assumption | omega | with_reducible rfl | exact fun h => Bool.noConfusion h)); (with_reducible (refine mguard_yes ?_; refine mm_ld hM ?_; refine mguard_yes ?_)))
    refine mm_pure hM (right_c hT1 hM.fz) (fun w hM => ?_)
    rw [Tr.rt.2 hinv.rt]
    ((with_reducible (refine mguard_yes ?_; refine mop_c trivial ?_; refine mop_c trivial ?_)))
    exact ⟨rfl, hM⟩
  rintro v u w5 ⟨rfl, hM⟩
  ((with_reducible (refine mif_false ?_)))
  have hs' := hs.mono le2.le
  have r1' := r1.mono le2.le
  have r2' := All2.mono (fun _ _ k => PsF.mono k le2.le) r2
  have hrl : r.length = x.roll.length := r2.len
  have hnames : ∀ p ∈ l, 1 ≤ p.name ∧ p.name ≤ 64 := fun p hp => by
    obtain ⟨i, hi, rfl⟩ := List.getElem_of_mem hp
    exact (hone i hi).1.2.2.1
  have hadl : ∀ (m : List Chg.Prp), addsA m ≤ m.length := fun m => List.length_filter_le ..
  have hadk : ∀ k, addsTo l k ≤ 16 := fun k => Nat.le_trans (List.length_filter_le ..) p2
  have hadn : ∀ m nm, addsN (l.take m) nm ≤ 16 := fun m nm => Nat.le_trans (List.length_filter_le ..) (by rw [List.length_take]; omega)
  refine ⟨fun v u w' => ∃ k : Nat, v = .int .i64 (addsTo l k) ∧ u = .int .i64 ((k : Int) + 1) ∧ k ≤ 64 ∧ hM.now w', fun _ u _ => match u with | .int _ k => 65 - k.toNat | _ => 0, ⟨0, by rw [addsTo_zero fun p hp => (hnames p hp).1]; rfl, rfl, by omega, hM⟩, ?_⟩
  rintro v u u6 w6 ⟨k, rfl, rfl, hk, hM⟩
  obtain ⟨nm, hnm⟩ : ∃ nm : Int, nm = (k : Int) + 1 := ⟨_, rfl⟩
  rw [← hnm]
  ((with_reducible (refine mop_cS trivial ?_ ?_)))
  · intro hlt
    have hnm1 : 1 ≤ nm ∧ nm ≤ 64 := by omega
    ((with_reducible (refine mif_true ?_; refine mop_c trivial ?_; refine mm_ld hM ?_)))
    refine mm_pure hM (place_c2 nm hR (hT.mono le2.le) hM.fz) (fun w hM => ?_)
    refine mop_c trivial ?_
    ((with_reducible (refine mm_ld hM ?_)))
    refine mm_pure hM (place_c2 nm hinv.rt hT1 hM.fz) (fun w hM => ?_)
    have hta := tis_at (ti := x.ti) hnm1
    ((with_reducible (refine mop_c ?_ ?_)); (focus omega); (with_reducible (refine mop_c trivial ?_; refine mop_c ?_ ?_)); (focus omega))
    refine mm_lda hM hta ?_
    have hk16 := hadk k
    refine ⟨fun v1 v2 v3 v4 w' => ∃ i : Nat, v1 = .int .i64 ((addsTo l k : Int) + addsN (l.take i) nm) ∧ v2 = .bool (inF x (l.take i) nm) ∧ v3 = .int .i64 (wantF x (l.take i) nm) ∧ v4 = .int .i64 i ∧ i ≤ l.length ∧ hM.now w', fun _ _ _ v _ => match v with | .int _ k => l.length - k.toNat | _ => 0, ⟨0, by simp [addsN], rfl, by simp [wantF, addsN], rfl, by omega, hM⟩, ?_⟩
    rintro v1 v2 v3 v4 u7 w7 ⟨i, rfl, rfl, rfl, rfl, hi, hM⟩
    ((with_reducible (refine mop_c trivial ?_)))
    ((with_reducible (refine mop_cS trivial ?_ ?_)))
    · intro hlt2
      have hlt' : i < l.length := by omega
      have htk : l.take (i + 1) = l.take i ++ [l[i]] := List.take_succ_eq_append_getElem hlt'
      obtain ⟨o1, o2, o3, o4⟩ := hone i hlt'
      have hmem : l[i] ∈ l := List.getElem_mem hlt'
      have hai := hadn i nm
      ((with_reducible (refine mif_true ?_)))
      refine ⟨fun v1 v2 v3 w' => v1 = .int .i64 ((addsTo l k : Int) + addsN (l.take (i + 1)) nm) ∧ v2 = .bool (inF x (l.take (i + 1)) nm) ∧ v3 = .int .i64 (wantF x (l.take (i + 1)) nm) ∧ hM.now w', ?_, ?_⟩
      · rw [htk, inF_snoc]
        unfold wantF
        rw [addsN_snoc]
        unfold inS
        ((with_reducible refine mm_ixs ‹_› ?_ ?_ ?_); (focus (simp only [List.length_map]; omega)); (focus (simp only [List.length_map]; first | done | omega)); (with_reducible (intro _ _ hA)); (cases hA); (with_reducible (refine mop_c trivial ?_)); (with_reducible refine mm_lds hM ‹_› (map_atI ?_) ?_); (focus omega); (with_reducible (refine mm_new hM (fun _ _ hM2 => ?_); replace hM := hM2; clear hM2; refine mm_st hM ?_; clear hM; intro _ hM; refine mop_c trivial ?_; refine mm_ld hM ?_)))
        ((with_reducible (refine mop_cS trivial ?_ ?_)))
        · intro d1
          ((with_reducible (refine mif_true ?_)))
          rw [if_neg d1, if_neg (fun c => d1 c.1)]
          exact ⟨rfl, rfl, rfl, hM.sub⟩
        intro d1
        have d1' : l[i].name = nm := Decidable.of_not_not d1
        rw [if_pos d1']
        ((with_reducible (refine mif_false ?_; refine mop_c trivial ?_; refine mm_ld hM ?_)))
        ((with_reducible (refine mop_cS trivial ?_ ?_)))
        · intro k1
          obtain ⟨e1, e2⟩ := o3 k1
          rw [d1'] at e2
          obtain ⟨y1, y2, y3, y4, y5⟩ := card_parts e2
          have hadd := hinv.add _ hmem k1
          rw [d1', y5] at hadd
          obtain ⟨j, hj, hjl, hjp⟩ := leaf_at hinv.rt hnm1.1 hadd
          have hix : (nm - 1).toNat < x.roll.length := by omega
          obtain ⟨q, hq1, CC, cc, rfl, hC, hcl⟩ := r2'.at_ (i := (nm - 1).toNat) hix
          have hpa : persAt x.roll nm = x.roll[(nm - 1).toNat] := persAt_get ⟨y1.1, y2⟩
          rw [← hpa] at hq1 hC hcl
          have hcf := c.1.2.2 (persAt x.roll nm) (by rw [hpa]; exact List.getElem_mem _)
          have hwt : wantF x (l.take i) nm = timeAt x.ti nm + addsN (l.take i) nm := rfl
          have hjp' : s.t.ls[j].pub = (persAt x.roll nm).cards[(timeAt x.ti nm).toNat].2 := by
            rw [hjp]
            show ((persAt x.roll nm).cards.getD _ _).2 = _
            rw [getD_at (by omega)]
          rw [hj]
          ((with_reducible (refine mif_true ?_; refine mop_c ?_ ?_)); (focus omega); (with_reducible (refine mop_c ?_ ?_)); (focus omega))
          refine ⟨fun v w' => v = .bool false ∧ hM.now w', ?_, ?_⟩
          · ((with_reducible (refine dp_cF trivial ?_ ?_)); (focus (first | assumption | omega | with_reducible rfl | exact fun h => Bool.noConfusion h)); (with_reducible (refine qguard_yes ?_; refine dp_c trivial ?_; refine qguard_yes ?_; refine dm_ld hM ?_; refine qguard_yes ?_; refine dp_c trivial ?_; refine qguard_yes ?_)); (with_reducible refine dp_ixs ‹_› ?_ ?_ ?_); (focus (simp only [List.length_map]; omega)); (focus (simp only [List.length_map]; first | done | omega)); (with_reducible (intro _ _ hA)); (cases hA); (with_reducible (refine qguard_yes ?_; refine dp_c trivial ?_; refine qguard_yes ?_)); (with_reducible refine dm_lds hM ‹_› (map_atI ?_) ?_); (focus omega); (with_reducible (refine qguard_yes ?_; refine dp_c trivial ?_; refine qguard_yes ?_; refine dm_ld hM ?_; refine qguard_yes ?_; refine dp_c trivial ?_; refine qguard_yes ?_; refine dp_c ?_ ?_)); (focus omega); (with_reducible (refine qguard_yes ?_)))
            refine dp_ixs r1' (by omega) hrl.symm (fun bb oo hB => ?_)
            cases hB
            ((with_reducible (refine qguard_yes ?_; refine dp_c trivial ?_; refine qguard_yes ?_)))
            refine dm_lds hM r1' hq1 ?_
            ((with_reducible (refine qguard_yes ?_; refine dp_c trivial ?_; refine qguard_yes ?_; refine dp_c ?_ ?_)); (focus omega); (with_reducible (refine qguard_yes ?_; refine dp_c trivial ?_; refine qguard_yes ?_; refine dp_c ?_ ?_)); (focus omega); (with_reducible (refine qguard_yes ?_)))
            refine dm_lda hM hta ?_
            ((with_reducible (refine qguard_yes ?_)); (with_reducible refine dp_ixs ‹_› ?_ ?_ ?_); (focus (simp only [List.length_map]; omega)); (focus (simp only [List.length_map]; first | done | omega)); (with_reducible (intro _ _ hA)); (cases hA); (with_reducible (refine qguard_yes ?_; refine dp_c trivial ?_; refine qguard_yes ?_)); (with_reducible refine dm_lds hM ‹_› (map_at ?_) ?_); (focus omega); (with_reducible (refine qguard_yes ?_)))
            ((with_reducible (refine dp_cS trivial ?_ ?_)))
            · intro d3
              exact absurd hjp' d3
            · intro d3
              ((with_reducible (refine dp_c trivial ?_; refine mm_end hM (fun _ hM2 => ?_); replace hM := hM2; clear hM2)))
              exact ⟨rfl, hM⟩
          rintro v u8 w8 ⟨rfl, hM⟩
          ((with_reducible (refine mif_false ?_)))
          rw [if_pos k1, if_pos ⟨d1', k1⟩]
          exact ⟨by rw [Value.int.injEq]; refine ⟨rfl, ?_⟩; push_cast; omega, rfl, by rw [Value.int.injEq]; refine ⟨rfl, ?_⟩; push_cast; omega, hM.sub⟩
        intro k1
        rw [if_neg k1, if_neg (fun c => k1 c.2)]
        ((with_reducible (refine mif_false ?_)))
        ((with_reducible (refine mop_cS trivial ?_ ?_)))
        · intro k3
          ((with_reducible (refine mif_true ?_)))
          rw [if_pos k3]
          exact ⟨rfl, rfl, rfl, hM.sub⟩
        intro k3
        rw [if_neg k3]
        ((with_reducible (refine mif_false ?_)))
        ((with_reducible (refine mop_cS trivial ?_ ?_)))
        · intro k2
          have hupd := hinv.upd _ hmem k2
          rw [d1'] at hupd
          obtain ⟨j, hj, hjl, hjp⟩ := leaf_at hinv.rt hnm1.1 hupd
          rw [hj]
          ((with_reducible (refine mif_true ?_)))
          refine ⟨fun v w' => v = .bool false ∧ hM.now w', ?_, ?_⟩
          · ((with_reducible (refine dp_cF trivial ?_ ?_)); (focus (first | assumption | omega | with_reducible rfl | exact fun h => Bool.noConfusion h)); (with_reducible (refine qguard_yes ?_; refine dp_c trivial ?_; refine qguard_yes ?_; refine dm_ld hM ?_; refine qguard_yes ?_; refine dp_c trivial ?_; refine qguard_yes ?_)); (with_reducible refine dp_ixs ‹_› ?_ ?_ ?_); (focus (simp only [List.length_map]; omega)); (focus (simp only [List.length_map]; first | done | omega)); (with_reducible (intro _ _ hA)); (cases hA); (with_reducible (refine qguard_yes ?_; refine dp_c trivial ?_; refine qguard_yes ?_)); (with_reducible refine dm_lds hM ‹_› (map_atI ?_) ?_); (focus omega); (with_reducible (refine qguard_yes ?_; refine dp_c trivial ?_; refine qguard_yes ?_; refine dm_ld hM ?_; refine qguard_yes ?_)))
            ((with_reducible (refine dp_cS trivial ?_ ?_)))
            · intro d3
              exact absurd hjp d3
            · intro d3
              ((with_reducible (refine dp_c trivial ?_; refine mm_end hM (fun _ hM2 => ?_); replace hM := hM2; clear hM2)))
              exact ⟨rfl, hM⟩
          rintro v u8 w8 ⟨rfl, hM⟩
          ((with_reducible (refine mif_false ?_)))
          exact ⟨rfl, rfl, rfl, hM.sub⟩
        · intro k2
          ((with_reducible (refine mif_false ?_)))
          exact ⟨rfl, rfl, rfl, hM.sub⟩
      rintro v1 v2 v3 u8 w8 ⟨rfl, rfl, rfl, hM⟩
      ((with_reducible (refine mop_c ?_ ?_)); (focus omega))
      exact ⟨⟨i + 1, rfl, rfl, rfl, rfl, by omega, hM⟩, by simp only; omega⟩
    · intro hge2
      obtain rfl : i = l.length := by omega
      rw [List.take_length]
      have hhas := hinv.has nm hnm1.1 hnm1.2
      have htim := hinv.time nm hnm1.1 hnm1.2
      have hta2 := tis_at (ti := s.ti) hnm1
      ((with_reducible (refine mif_false ?_)))
      refine ⟨fun v w' => v = .bool false ∧ hM.now w', ?_, ?_⟩
      · refine mop_c trivial ?_
        have hb : inF x l nm = decide (s.t.place nm ≥ 0) := by
          cases hc : inF x l nm
          · exact (decide_eq_false fun k => by rw [hhas.1 k] at hc; cases hc).symm
          · exact (decide_eq_true (hhas.2 hc)).symm
        rw [hb]
        refine mop_cF trivial (fun c => c rfl) ?_
        ((with_reducible (refine mguard_yes ?_; refine mop_c trivial ?_; refine mguard_yes ?_; refine mop_c ?_ ?_)); (focus omega); (with_reducible (refine mguard_yes ?_; refine mop_c ?_ ?_)); (focus omega); (with_reducible (refine mguard_yes ?_)))
        refine mm_lda hM hta2 ?_
        rw [htim]
        ((with_reducible (refine mguard_yes ?_; refine mop_c trivial ?_; refine mguard_yes ?_; refine mop_cF trivial ?_ ?_)); (focus (first | assumption | omega | with_reducible rfl | exact fun h => Bool.noConfusion h)); (with_reducible (refine mop_c trivial ?_)))
        exact ⟨rfl, hM⟩
      rintro v u8 w8 ⟨rfl, hM⟩
      ((with_reducible (refine mif_false ?_; refine mop_c ?_ ?_)); (focus omega))
      exact ⟨⟨k + 1, by rw [addsTo_succ, ← hnm]; push_cast; rfl, by rw [hnm]; push_cast; rfl, by omega, hM⟩, by simp only; omega⟩
  · intro hge
    obtain rfl : k = 64 := by omega
    ((with_reducible (refine mif_false ?_; refine mop_c trivial ?_)))
    refine ⟨?_, hM.st⟩
    rw [addsTo_all fun p hp => (hnames p hp).2, hinv.fr]
    simp
end
end Go.Proofs.Ytopcnkejobomaaa
namespace Go.Proofs.Ytopcnkejobomaaa
open Go.ChangeShapes Go.WideShapes Go.ChangeAt Go.RowKit
set_option linter.unusedVariables false
theorem fl_arr1 (n : Nat) (l : List Value) : fl [.arr n l] = l := by simp [fl, Fd.cells]
theorem own : ownKnob Try.prog.godebug = none := by kernel_rfl
theorem laidOut : laidOutB Try.prog = true := by kernel_rfl
set_option maxRecDepth 100000 in
theorem changeNames_lifted (os : Os) (started : os.Started) (H : Type) (enc : TypeId × Value → H) :
    ReturnsInHanded {} Try.checked os 11 .any (Rows.changeNamesSpec.pre6 enc Try.prog Try.f11 Rows.changeNamesRow.domain false) (Rows.changeNamesSpec.post enc Try.prog Try.f11 false true false false) := by
  refine returnsInHanded_of_change (C := Try.checked) own started (by kernel_rfl) Try.func11
    (ChangeSpec.witness6 (enc := enc) (C := Try.checked) false ⟨#[], #[.agg (fl (plfd none 0 0 none 0 0 ⟨Tr.none, Ti.zero, [], hzero, 0, 0⟩ none 0 0)).toArray, .slice none 0 0], []⟩ 8 (by kernel_rfl) (by kernel_rfl) (by kernel_rfl) (by kernel_rfl)) ?_
  intro W base args ds gs before hval0 hW hcnd _
  have hval : ∀ (j : Nat) t v, Try.f11.params[j]? = some t → args[j]? = some v → Value.okWide Try.prog W .any base t v := hval0
  have hW' := hW
  obtain ⟨p, q, hA0, hV, rfl, hfz, hnd⟩ := hW
  have hA : DataW.TrodAll enc Try.prog W 0 (fun _ => true) true Try.f11.params.toList args.toList ds p := hA0
  rw [Try.params11] at hA hval
  obtain ⟨v0, vs0, d0, ds0, p0, q0, hargs, rfl, rfl, h0, r0⟩ := trodAll_cons hA
  obtain ⟨v1, vs1, d1, ds1, p1, q1, rfl, rfl, rfl, h1, r1⟩ := trodAll_cons r0
  obtain ⟨rfl, rfl, rfl⟩ := trodAll_nil r1
  obtain rfl : args = #[v0, v1] := by cases args; simp_all
  obtain ⟨rfl, rfl⟩ := trodVars_none hV
  have k0 := h0
  have lt0 : ∀ x ∈ p0, x.block < W.heap.size := by obtain ⟨m, hm⟩ := k0; exact DataW.trod_lt m _ _ _ hm
  have k1 := h1
  have lt1 : ∀ x ∈ p1, x.block < W.heap.size := by obtain ⟨m, hm⟩ := k1; exact DataW.trod_lt m _ _ _ hm
  obtain ⟨m0, hm0⟩ := h0
  obtain ⟨fs0, x0, e0, ok0, -, hr0⟩ := (rdr_plc).read enc W 0 _ _ m0 _ _ hm0
  have hp0 := hr0
  obtain rfl := arg_agg (t := 73) (by kernel_rfl) (hval 0 73 v0 rfl rfl) e0
  obtain ⟨m1, hm1⟩ := h1
  obtain ⟨fs1, x1, e1, ok1, -, hr1⟩ := (rdr_prps).read enc W 0 _ _ m1 _ _ hm1
  obtain ⟨K, kc, rfl, hkl, hK⟩ := hr1
  obtain rfl := arg_one (t := 74) (by kernel_rfl) (hval 1 74 v1 rfl rfl) e1
  clear hA0 hval0
  have hc := changeNames_ok (kc := kc) x0 x1 hr0 hkl hK (Fz.of W)
  refine hc.mono fun e W' ⟨he, hst⟩ => ?_
  subst he
  have bel : Below W.heap.size W W' := hst.only.below (Nat.le_refl _) (fun _ _ h => by obtain ⟨_, hb, _⟩ := h; cases hb)
  exact ⟨_, rfl, _, _, _, [], _, [], hW', trodAll_mk1 (shut_bool Try.underlying4 _), (trodAll_cons_mk (Below.trod laidOut (by kernel_rfl) (of_decide_eq_true (by kernel_rfl)) k0 bel lt0) (trodAll_cons_mk (Below.trod laidOut (by kernel_rfl) (of_decide_eq_true (by kernel_rfl)) k1 bel lt1) trodAll_mk0)), rfl, bel.frame _, fun h => by cases h⟩
theorem changeNames_proved : Rows.ChangeNamesSaid :=
  OpenClaim.holds_of_wide 11 Try.f11 rfl rfl rfl rfl rfl rfl rfl ⟨rfl, rfl, rfl, rfl, rfl⟩ rfl rfl rfl rfl rfl (by kernel_rfl) Try.func11 (by kernel_rfl)
    (of_decide_eq_true (by kernel_rfl)) (by unfold Func.isWrapper; first | (rw [if_pos (by decide +kernel)]; kernel_rfl) | (rw [if_neg (by decide +kernel)]; exact ⟨rfl, rfl⟩))
    (fun os started H enc _ => changeNames_lifted os started H enc)
#print axioms changeNames_proved
end Go.Proofs.Ytopcnkejobomaaa
