/- Whatever is done to a tree makes the document's tree. -/
import Derived.Test.YtopcnkejobomaaaGpl
import Derived.Test.YtopcnkejobomaaaTrRd
namespace Go.Proofs.Ytopcnkejobomaaa
open Go.RowKit Go.Lib

theorem rdr_ac : Rdr Try.prog 53 4 (fun _ fs (x : Ac) => fs = x.fds ∧ x.good) :=
  (rdr_struct (sz := 4) Try.underlying53 (by kernel_rfl) (Rdf.cons rdr_u8 rfl rfl rfl (Rdf.cons rdr_i64 rfl rfl rfl (Rdf.cons rdr_i64 rfl rfl rfl (Rdf.cons rdr_u8 rfl rfl rfl (Rdf.nil _)))))).map fun _ fs x _ h => by
    obtain ⟨g1, h1, rfl, _, ⟨rfl, b1⟩, g2, h2, rfl, _, ⟨rfl, _⟩, g3, h3, rfl, _, ⟨rfl, _⟩, g4, h4, rfl, _, ⟨rfl, b4⟩, rfl⟩ := h
    have := bounds_u8 b1
    have := bounds_u8 b4
    exact ⟨⟨x.1, x.2.1, x.2.2.1, x.2.2.2.1⟩, rfl, ⟨by simp only; omega, by simp only; omega⟩⟩
theorem rdr_acs : Rdr Try.prog 22 1 (fun H fs (xs : List Ac) => ∃ A cap, fs = [.one (.slice A xs.length cap)] ∧ xs.length ≤ maxLen ∧ Sl H 4 A (xs.map Ac.fds) ∧ ∀ x ∈ xs, x.good) :=
  (rdr_slice Try.underlying22 (by kernel_rfl) (by omega) rdr_ac).map fun H fs xs _ ⟨A, cap, ps, h1, h2, h3, h4⟩ => by
    obtain ⟨rfl, hg⟩ := All2.eq_map h4
    exact ⟨xs, A, cap, h1, h2, h3, hg⟩
section
variable {H : Hp} {w0 w : World} {L R : List Res} {K : Option Addr} {kc : Nat}
theorem none_rt : Tr.none.Rt := Tr.rt.1 (by decide)
theorem treePlays_ok (xs : List Ac) (hl : xs.length ≤ maxLen) (hs : Sl H 4 K (xs.map Ac.fds)) (hg : ∀ x ∈ xs, x.good) (hf : Fz H w) :
    Calls Try.prog 6 #[.slice K xs.length kc] w fun en w' => en = .returned (.bool true) ∧ St w [] w' := by
  have hM := Mem.start hf
  have hl' : xs.length ≤ 9223372036854775807 := hl
  refine C_bevylaw08_TreePlays ?_
  unfold F_bevylaw08_TreePlays
  refine ⟨fun v w' => v = .bool (decide (100 < xs.length)) ∧ hM.now w', ?_, ?_⟩
  · ((with_reducible (refine mm_purC hM ?_ (fun _ hM2 => ?_))); (focus (first | exact trivial | assumption | omega)); (with_reducible (replace hM := hM2; clear hM2; refine mop_c trivial ?_; refine mguard_yes ?_; refine mop_c trivial ?_; refine mguard_yes ?_; refine mop_c trivial ?_; refine mguard_yes ?_)))
    ((with_reducible (refine mop_cS trivial ?_ ?_)))
    · intro h
      ((with_reducible (refine mop_c trivial ?_)))
      exact ⟨by rw [decide_eq_true (by omega)], hM⟩
    · intro h
      ((with_reducible (refine mop_c trivial ?_)))
      exact ⟨by rw [decide_eq_false (by omega)], hM⟩
  rintro v u w2 ⟨rfl, hM⟩
  by_cases hc : 100 < xs.length
  · rw [decide_eq_true hc]
    ((with_reducible (refine mif_true ?_; refine mm_purC hM ?_ ?_)); (focus (first | exact trivial | assumption | omega)); (with_reducible (clear hM; intro _ hM)))
    exact ⟨rfl, hM.st⟩
  rw [decide_eq_false hc]
  ((with_reducible (refine mif_false ?_; refine mop_c trivial ?_; refine mm_new hM ?_; clear hM; intro _ _ hM; refine mm_st hM ?_; clear hM; intro _ hM)))
  rename_i g3 _ _
  refine ⟨fun v w' => ∃ (i : Nat) (t : Tr) (H1 : Hp) (A : Option Addr) (a : Nat) (B : Option Addr) (b : Nat), v = .int .i64 i ∧ i ≤ xs.length ∧ t.Rt ∧ H.le H1 ∧ TrF H1 (tv A t.ls.length a B t.ps.length b) t ∧ Mem H1 w [fb g3 27 (tfd A t.ls.length a B t.ps.length b)] w', fun v _ => match v with | .int _ k => xs.length - k.toNat | _ => 0, ⟨0, Tr.none, H, none, 0, none, 0, rfl, by omega, none_rt, Hp.le.refl _, trF_none _, hM⟩, ?_⟩
  clear hM
  rintro v u w3 ⟨i, t, H1, A, a, B, b, rfl, hi, hR, l1, hT, hM⟩
  have hs1 := hs.mono l1
  ((with_reducible (refine mop_c trivial ?_)))
  ((with_reducible (refine mop_cS trivial ?_ ?_)))
  · intro hlt
    have hlt' : i < xs.length := by omega
    have hx := hg _ (List.getElem_mem hlt')
    ((with_reducible (refine mif_true ?_)))
    refine ⟨fun v u w' => ∃ (g5 : Nat) (r : Tr) (H2 : Hp) (A2 : Option Addr) (a2 : Nat) (B2 : Option Addr) (b2 : Nat), v = .pointer (some ⟨g5, 0, none⟩) ∧ u = .bool true ∧ r.Rt ∧ Le w H1 H2 ∧ TrF H2 (tv A2 r.ls.length a2 B2 r.ps.length b2) r ∧ Mem H2 w [fb g5 27 (tfd A2 r.ls.length a2 B2 r.ps.length b2), fb g3 27 (tfd A t.ls.length a B t.ps.length b)] w', ⟨?_, ?_⟩, ?_⟩
    · ((with_reducible (refine dm_ld hM ?_)); (with_reducible refine dp_ixs ‹_› ?_ ?_ ?_); (focus (simp only [List.length_map]; omega)); (focus (simp only [List.length_map]; first | done | omega)); (with_reducible (intro _ _ hA)); (cases hA); (with_reducible refine dm_lds0 hM ‹_› (map_atI ?_) ?_); (focus omega))
      refine dm_call hM (fun w hM => step_ok xs[i] hx hR hT hM.fz) ?_
      rintro H2 v w4 hx2 l2 hM ⟨v1, r, rfl, hT2, hR2⟩
      obtain ⟨A2, a2, B2, b2, q2, rfl, -⟩ := hT2.ex
      ((with_reducible (refine dp_c trivial ?_; refine dp_c trivial ?_; refine dm_new hM ?_; clear hM; intro _ _ hM; refine dS_st hM ?_; clear hM; intro _ hM; refine mm_end hM ?_; clear hM; intro _ hM)))
      exact ⟨_, r, H2, A2, a2, B2, b2, rfl, rfl, hR2, l2, hT2, hM.sub⟩
    · ((with_reducible (refine dm_ld hM ?_)); (with_reducible refine dp_ixs ‹_› ?_ ?_ ?_); (focus (simp only [List.length_map]; omega)); (focus (simp only [List.length_map]; first | done | omega)); (with_reducible (intro _ _ hA)); (cases hA); (with_reducible refine dm_lds0 hM ‹_› (map_atI ?_) ?_); (focus omega); (with_reducible (refine dm_new hM ?_; clear hM; intro _ _ hM)))
      refine dm_call hM (fun w hM => step_ok xs[i] hx hR hT hM.fz) ?_
      rintro H2 v w4 hx2 l2 hM ⟨v1, r, rfl, hT2, hR2⟩
      obtain ⟨A2, a2, B2, b2, q2, rfl, -⟩ := hT2.ex
      ((with_reducible (refine dp_c trivial ?_; refine dp_c trivial ?_; refine dS_st hM ?_; clear hM; intro _ hM; refine mm_end hM ?_; clear hM; intro _ hM)))
      exact ⟨_, r, H2, A2, a2, B2, b2, rfl, rfl, hR2, l2, hT2, hM.sub⟩
    clear hM
    rintro v u u5 w5 ⟨g5, r, H2, A2, a2, B2, b2, rfl, rfl, hR2, l2, hT2, hM⟩
    refine ⟨fun v w' => v = .bool false ∧ hM.now w', ?_, ?_⟩
    · ((with_reducible (refine mop_c trivial ?_; refine mguard_yes ?_; refine mm_ld hM ?_; refine mguard_yes ?_)))
      refine mm_pure hM (right_c hT2 hM.fz) (fun w hM => ?_)
      rw [Tr.rt.2 hR2]
      ((with_reducible (refine mguard_yes ?_; refine mop_c trivial ?_; refine mop_c trivial ?_)))
      exact ⟨rfl, hM⟩
    rintro v u6 w6 ⟨rfl, hM⟩
    ((with_reducible (refine mif_false ?_; refine mm_ld hM ?_; refine mm_st hM ?_; clear hM; intro _ hM; refine mop_c ?_ ?_)); (focus omega))
    exact ⟨⟨i + 1, r, H2, A2, a2, B2, b2, rfl, by omega, hR2, Hp.le.trans l1 l2.le, hT2, hM.sub⟩, by simp only; omega⟩
  · intro hge
    ((with_reducible (refine mif_false ?_)))
    exact ⟨rfl, hM.st⟩
end
end Go.Proofs.Ytopcnkejobomaaa
