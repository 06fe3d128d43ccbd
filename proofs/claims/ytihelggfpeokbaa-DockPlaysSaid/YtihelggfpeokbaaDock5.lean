/- Dock: the walk of DockPlays. (Printed by wip/gen_dock5.py.) -/
import Derived.Test.YtihelggfpeokbaaDock4
namespace Go.Proofs.Ytihelggfpeokbaa
open Go.RowKit

/-- A call. -/
structure DAct where
  d : Int
  a : Int
  n : Int
abbrev DAct.fds (x : DAct) : List Fd := [.one (.int .u8 x.d), .one (.int .u8 x.a), .one (.int .i64 x.n)]
def DAct.good (x : DAct) : Prop := (0 ≤ x.d ∧ x.d < 256) ∧ 0 ≤ x.a ∧ x.a < 256
/-- What holds of a box behind i calls. -/
def BInv (b : Bx) (i : Nat) : Prop := b.xs.length ≤ b.room ∧ b.room ≤ 256 ∧ b.lost ≤ i
theorem BInv.succ {b : Bx} {i : Nat} (h : BInv b i) : BInv b (i + 1) := ⟨h.1, h.2.1, by have := h.2.2; omega⟩
theorem BInv.post {b : Bx} {i : Nat} (h : BInv b i) (x : Int) : BInv (bpost b x).2 (i + 1) := by
  obtain ⟨h1, h2, h3⟩ := h
  unfold bpost BInv
  split
  · exact ⟨h1, h2, by simp only []; omega⟩
  · split
    · refine ⟨by simp; omega, h2, by simp only []; omega⟩
    · exact ⟨h1, h2, by simp only []; omega⟩
theorem BInv.pop {b : Bx} {i : Nat} (h : BInv b i) : BInv b.pop (i + 1) := by
  obtain ⟨h1, h2, h3⟩ := h
  exact ⟨by simp [Bx.pop]; omega, h2, by simp [Bx.pop]; omega⟩
theorem BInv.close {b : Bx} {i : Nat} (h : BInv b i) : BInv { b with cl := true } (i + 1) := h.succ
theorem BInv.pourF {f t : Bx} {i : Nat} (h : BInv f i) : BInv (Go.Proofs.Ytihelggfpeokbaa.pourF f t) (i + 1) := by
  obtain ⟨h1, h2, h3⟩ := h
  exact ⟨by simp [Go.Proofs.Ytihelggfpeokbaa.pourF]; omega, h2, by simp [Go.Proofs.Ytihelggfpeokbaa.pourF]; omega⟩
theorem BInv.pourT {f t : Bx} {i : Nat} (h : BInv t i) : BInv (Go.Proofs.Ytihelggfpeokbaa.pourT f t) (i + 1) := by
  obtain ⟨h1, h2, h3⟩ := h
  refine ⟨?_, h2, by simp [Go.Proofs.Ytihelggfpeokbaa.pourT]; omega⟩
  simp only [Go.Proofs.Ytihelggfpeokbaa.pourT, List.length_append, List.length_take, pourN]
  split <;> omega
section
variable {H : Hp} {w0 w : World} {L R : List Res} {g : Nat}
/-- The first that isn't empty, behind q. -/
def wantA (b0 b1 b2 : Bx) (q : Int) : Int := if q < 0 ∧ b0.xs ≠ [] then 0 else if q < 1 ∧ b1.xs ≠ [] then 1 else if q < 2 ∧ b2.xs ≠ [] then 2 else -1
theorem wantA_0 (b0 b1 b2 : Bx) : wantA b0 b1 b2 (0 - 1) = if b0.xs ≠ [] then 0 else wantA b0 b1 b2 0 := by simp [wantA]
theorem wantA_1 (b0 b1 b2 : Bx) : wantA b0 b1 b2 (1 - 1) = if b1.xs ≠ [] then 1 else wantA b0 b1 b2 1 := by simp [wantA]
theorem wantA_2 (b0 b1 b2 : Bx) : wantA b0 b1 b2 (2 - 1) = if b2.xs ≠ [] then 2 else wantA b0 b1 b2 2 := by simp [wantA]
theorem wantA_m (b0 b1 b2 : Bx) : wantA b0 b1 b2 (-1) = if b0.xs ≠ [] then 0 else if b1.xs ≠ [] then 1 else if b2.xs ≠ [] then 2 else -1 := by simp [wantA]
abbrev p3 (g0 g1 g2 : Nat) : List Fd := [.one (pv g0), .one (pv g1), .one (pv g2)]
abbrev nb (r : Nat) : Bx := ⟨1 + r, [], false, 0⟩
theorem toNat1 (r : Nat) : (1 + (r : Int)).toNat = 1 + r := by omega
set_option maxHeartbeats 4000000 in
theorem dockPlays_ok (r0 r1 r2 : Nat) (hr : r0 < 256 ∧ r1 < 256 ∧ r2 < 256) (acts : List DAct) (hg : ∀ x ∈ acts, x.good) (A : Option Addr) (cap : Nat) (hs : Sl H 3 A (acts.map DAct.fds)) (hf : Fz H w) :
    Calls Try.prog 4 #[.agg [.int .u8 r0, .int .u8 r1, .int .u8 r2].toArray, .slice A acts.length cap] w fun en w' => en = .returned (.bool true) ∧ St w [] w' := by
  have hM := Mem.start hf
  refine C_bevylaw18_DockPlays ?_
  unfold F_bevylaw18_DockPlays
  haveI : FdOk (.arr 3 [.int .u8 r0, .int .u8 r1, .int .u8 r2]) := ⟨rfl, fun u hu => by simp [Fd.cells] at hu; rcases hu with rfl | rfl | rfl <;> rfl⟩
  ((with_reducible (refine mm_box hM ?_; clear hM; intro _ _ hM)))
  rename_i b2' _
  refine ⟨fun x w' => ∃ b : Bool, x = .bool b ∧ (b = false → acts.length ≤ 500) ∧ hM.now w', ?_, ?_⟩
  · refine mm_pure hM (awake_ok hM.fz) (fun w1 hM => ?_)
    ((with_reducible (refine mop_c trivial ?_; refine mguard_yes ?_; refine mop_c trivial ?_; refine mguard_yes ?_; refine mop_c trivial ?_; refine mguard_yes ?_)))
    ((with_reducible (refine mop_cS trivial ?_ ?_))) <;>
    · intro h
      ((with_reducible (refine mop_c trivial ?_)))
      exact ⟨_, rfl, by simp; try omega, hM⟩
  rintro x u w2 ⟨c, rfl, hb, hM⟩
  cases c with
  | true =>
    ((with_reducible (refine mif_true ?_)))
    refine mm_pure hM (awake_ok hM.fz) (fun w1 hM => ?_)
    exact ⟨rfl, hM.st⟩
  | false =>
  have hlen := hb rfl
  ((with_reducible (refine mif_false ?_; refine mm_new hM ?_; clear hM; intro _ _ hM; refine mm_new hM ?_; clear hM; intro _ _ hM)))
  rename_i b5 _ b6 _
  replace hM := (hM.upB b2').refd (fs' := [.one (.int .u8 r0), .one (.int .u8 r1), .one (.int .u8 r2)]) rfl inferInstance
  replace hM := (hM.upB b5).refd (fs' := [.one (.pointer none), .one (.pointer none), .one (.pointer none)]) rfl inferInstance
  have hM := hM.upB b6
  refine ⟨fun x w' => ∃ i : Nat, x = .int .i64 i ∧ i ≤ 3 ∧ (match i with
    | 0 => Mem H w [fb b6 39 (m3 ⟨0, [], false, 0⟩ ⟨0, [], false, 0⟩ ⟨0, [], false, 0⟩ (none, 0) (none, 0) (none, 0)), fb b5 36 [.one (.pointer none), .one (.pointer none), .one (.pointer none)], fb b2' 34 [.one (.int .u8 r0), .one (.int .u8 r1), .one (.int .u8 r2)]] w'
    | 1 => ∃ g0, Mem H w [fb b6 39 (m3 (nb r0) ⟨0, [], false, 0⟩ ⟨0, [], false, 0⟩ (none, 0) (none, 0) (none, 0)), fb b5 36 [.one (pv g0), .one (.pointer none), .one (.pointer none)], fb b2' 34 [.one (.int .u8 r0), .one (.int .u8 r1), .one (.int .u8 r2)], boxR g0 (nb r0)] w'
    | 2 => ∃ g0 g1, Mem H w [fb b6 39 (m3 (nb r0) (nb r1) ⟨0, [], false, 0⟩ (none, 0) (none, 0) (none, 0)), fb b5 36 [.one (pv g0), .one (pv g1), .one (.pointer none)], fb b2' 34 [.one (.int .u8 r0), .one (.int .u8 r1), .one (.int .u8 r2)], boxR g0 (nb r0), boxR g1 (nb r1)] w'
    | _ => ∃ g0 g1 g2, Mem H w [fb b6 39 (m3 (nb r0) (nb r1) (nb r2) (none, 0) (none, 0) (none, 0)), fb b5 36 (p3 g0 g1 g2), fb b2' 34 [.one (.int .u8 r0), .one (.int .u8 r1), .one (.int .u8 r2)], boxR g0 (nb r0), boxR g1 (nb r1), boxR g2 (nb r2)] w'),
    fun x _ => match x with | .int _ i => 3 - i.toNat | _ => 0, ⟨0, rfl, by omega, hM⟩, ?_⟩
  clear hM
  rintro x u w3 ⟨i, rfl, hi, hM⟩
  obtain rfl | rfl | rfl | rfl : i = 0 ∨ i = 1 ∨ i = 2 ∨ i = 3 := by omega

  · have hM : Mem H w _ w3 := hM
    have e0 : (((0 : Nat) : Int)) = 0 := rfl
    simp only [e0]
    ((with_reducible (refine mop_cT trivial ?_ ?_)); (focus (first | assumption | omega | with_reducible rfl | exact fun h => Bool.noConfusion h)); (with_reducible (refine mif_true ?_; refine mop_c trivial ?_; refine mm_ld hM ?_; refine mop_c ?_ ?_)); (focus omega); (with_reducible (refine mop_c ?_ ?_)); (focus omega))
    refine mm_own (new_ok (1 + r0) (by omega) hM) ?_
    rintro v w4 ⟨g0, rfl, hM⟩
    rw [toNat1] at hM
    ((with_reducible ((iterate 3 refine mop_c trivial ?_); refine mm_st hM ?_; clear hM; intro _ hM; refine mop_c trivial ?_; refine mm_ld hM ?_; refine mop_c ?_ ?_)); (focus omega); (with_reducible (refine mop_c ?_ ?_)); (focus omega); (with_reducible (refine mop_c trivial ?_; refine mop_c trivial ?_; refine mm_st hM ?_; clear hM; intro _ hM; refine mop_c ?_ ?_)); (focus omega))
    refine ⟨⟨1, rfl, by omega, g0, ?_⟩, by simp⟩
    simp only [m3, Int.natCast_add, Int.cast_ofNat_Int] at hM ⊢
    exact hM.sub
  · obtain ⟨g0, hM⟩ := hM
    have e0 : (((1 : Nat) : Int)) = 1 := rfl
    simp only [e0]
    ((with_reducible (refine mop_cT trivial ?_ ?_)); (focus (first | assumption | omega | with_reducible rfl | exact fun h => Bool.noConfusion h)); (with_reducible (refine mif_true ?_; refine mop_c trivial ?_; refine mm_ld hM ?_; refine mop_c ?_ ?_)); (focus omega); (with_reducible (refine mop_c ?_ ?_)); (focus omega))
    refine mm_own (new_ok (1 + r1) (by omega) hM) ?_
    rintro v w4 ⟨g1, rfl, hM⟩
    rw [toNat1] at hM
    ((with_reducible ((iterate 3 refine mop_c trivial ?_); refine mm_st hM ?_; clear hM; intro _ hM; refine mop_c trivial ?_; refine mm_ld hM ?_; refine mop_c ?_ ?_)); (focus omega); (with_reducible (refine mop_c ?_ ?_)); (focus omega); (with_reducible (refine mop_c trivial ?_; refine mop_c trivial ?_; refine mm_st hM ?_; clear hM; intro _ hM; refine mop_c ?_ ?_)); (focus omega))
    refine ⟨⟨2, rfl, by omega, g0, g1, ?_⟩, by simp⟩
    simp only [m3, Int.natCast_add, Int.cast_ofNat_Int] at hM ⊢
    exact hM.sub
  · obtain ⟨g0, g1, hM⟩ := hM
    have e0 : (((2 : Nat) : Int)) = 2 := rfl
    simp only [e0]
    ((with_reducible (refine mop_cT trivial ?_ ?_)); (focus (first | assumption | omega | with_reducible rfl | exact fun h => Bool.noConfusion h)); (with_reducible (refine mif_true ?_; refine mop_c trivial ?_; refine mm_ld hM ?_; refine mop_c ?_ ?_)); (focus omega); (with_reducible (refine mop_c ?_ ?_)); (focus omega))
    refine mm_own (new_ok (1 + r2) (by omega) hM) ?_
    rintro v w4 ⟨g2, rfl, hM⟩
    rw [toNat1] at hM
    ((with_reducible ((iterate 3 refine mop_c trivial ?_); refine mm_st hM ?_; clear hM; intro _ hM; refine mop_c trivial ?_; refine mm_ld hM ?_; refine mop_c ?_ ?_)); (focus omega); (with_reducible (refine mop_c ?_ ?_)); (focus omega); (with_reducible (refine mop_c trivial ?_; refine mop_c trivial ?_; refine mm_st hM ?_; clear hM; intro _ hM; refine mop_c ?_ ?_)); (focus omega))
    refine ⟨⟨3, rfl, by omega, g0, g1, g2, ?_⟩, by simp⟩
    simp only [m3, Int.natCast_add, Int.cast_ofNat_Int] at hM ⊢
    exact hM.sub
  obtain ⟨g0, g1, g2, hM⟩ := hM
  ((with_reducible (refine mop_cF trivial ?_ ?_)); (focus (first | assumption | omega | with_reducible rfl | exact fun h => Bool.noConfusion h)); (with_reducible (refine mif_false ?_)))
  have hM : Mem H w [fb b5 36 (p3 g0 g1 g2), refR b6 (nb r0) (nb r1) (nb r2), boxR g0 (nb r0), boxR g1 (nb r1), boxR g2 (nb r2)] w3 := by
    have h1 := (hM.rowO0 3 1)
    have h2 := (h1.rowO0 3 1)
    have h3 := (h2.rowO0 3 1)
    have h4 : Mem H w (fb b6 39 (m3 (nb r0) (nb r1) (nb r2) (none, 0) (none, 0) (none, 0)) :: rowO 3 1 none 0 0 [] :: rowO 3 1 none 0 0 [] :: rowO 3 1 none 0 0 [] :: [fb b5 36 (p3 g0 g1 g2), boxR g0 (nb r0), boxR g1 (nb r1), boxR g2 (nb r2)]) w3 := h3.sub
    exact (Mem.unref (b0 := nb r0) (b1 := nb r1) (b2 := nb r2) h4).sub
  refine ⟨fun x w' => ∃ (i : Nat) (b0 b1 b2 : Bx), x = .int .i64 i ∧ i ≤ acts.length ∧ BInv b0 i ∧ BInv b1 i ∧ BInv b2 i ∧ Mem H w [fb b5 36 (p3 g0 g1 g2), refR b6 b0 b1 b2, boxR g0 b0, boxR g1 b1, boxR g2 b2] w', fun x _ => match x with | .int _ i => acts.length - i.toNat | _ => 0,
    ⟨0, _, _, _, rfl, by omega, by simp [BInv]; omega, by simp [BInv]; omega, by simp [BInv]; omega, hM⟩, ?_⟩
  clear hM
  rintro x u w4 ⟨i, b0, b1, b2, rfl, hi, i0, i1, i2, hM⟩
  ((with_reducible (refine mop_c trivial ?_)))
  ((with_reducible (refine mop_cS trivial ?_ ?_)))
  · intro hlt
    have hlt' : i < acts.length := by omega
    obtain ⟨hd, ha⟩ := hg acts[i] (List.getElem_mem _)
    ((with_reducible (refine mif_true ?_)); (with_reducible refine mm_ixs ‹_› ?_ ?_ ?_); (focus (simp only [List.length_map]; omega)); (focus (simp only [List.length_map]; first | done | omega)); (with_reducible (intro _ _ hA)); (cases hA); (with_reducible refine mm_lds0 hM ‹_› (map_atI ?_) ?_); (focus omega); (with_reducible (refine mm_new hM ?_; clear hM; intro _ _ hM; refine mm_st hM ?_; clear hM; intro _ hM; refine mop_c trivial ?_; refine mm_ld hM ?_; refine mop_c ?_ ?_)); (focus omega); (with_reducible (refine mop_c ?_ ?_)); (focus omega))
    rename_i g11 _ _
    refine ⟨fun x w' => x = .bool true ∧ ∃ c0 c1 c2 : Bx, BInv c0 (i + 1) ∧ BInv c1 (i + 1) ∧ BInv c2 (i + 1) ∧ Mem H w [fb b5 36 (p3 g0 g1 g2), refR b6 c0 c1 c2, boxR g0 c0, boxR g1 c1, boxR g2 c2] w', ?_, ?_⟩
    rotate_left
    · clear hM
      rintro x u w5 ⟨rfl, b0, b1, b2, i0, i1, i2, hM⟩
      refine ⟨fun x y w' => ∃ k : Nat, x = .bool true ∧ y = .int .i64 k ∧ k ≤ 3 ∧ hM.now w', fun _ y _ => match y with | .int _ q => 3 - q.toNat | _ => 0, ⟨0, rfl, rfl, by omega, hM⟩, ?_⟩
      rintro x y u w6 ⟨k, rfl, rfl, hk, hM⟩
      ((with_reducible (refine mop_cS trivial ?_ ?_)))
      · intro hk2
        obtain rfl | rfl | rfl : k = 0 ∨ k = 1 ∨ k = 2 := by omega
        · have e0 : (((0 : Nat) : Int)) = 0 := rfl
          simp only [e0]
          ((with_reducible (refine mif_true ?_)))
          refine ⟨fun x w' => x = .bool true ∧ hM.now w', ?_, ?_⟩
          · obtain ⟨A0, c0, A1, c1, A2, c2, hM⟩ := (hM.at_ (refR b6 b0 b1 b2)).ref
            obtain ⟨hA, hB, _⟩ := hM.fb2 b5 b6
            have hF := hM.fz2 (Hp.le.refl H) b5 b6
            refine ⟨Rl.fz (K2 H b5 (p3 g0 g1 g2) b6 (m3 b0 b1 b2 (A0, c0) (A1, c1) (A2, c2))), ?_⟩
            ((with_reducible (refine qguard_yes ?_; refine dp_c trivial ?_; refine qguard_yes ?_; refine dp_c trivial ?_; refine qguard_yes ?_)); (with_reducible refine dK_ldf ‹_› ‹_› ?_); (with_reducible (refine mguard_yes ?_)))
            refine dK_same hM (fun w hM => len_ok (b := b0) (hM.at_ (boxR g0 b0))) hF (fun w7 hM hF => ?_)
            ((with_reducible (refine qguard_yes ?_; refine dp_c trivial ?_; refine qguard_yes ?_; refine dp_c trivial ?_; refine qguard_yes ?_; refine dp_c trivial ?_; refine qguard_yes ?_)); (with_reducible refine dK_ldf ‹_› ‹_› ?_); (with_reducible (refine qguard_yes ?_; refine dp_c trivial ?_; refine qguard_yes ?_; refine dp_cT trivial ?_ ?_)); (focus (first | assumption | omega | with_reducible rfl | exact fun h => Bool.noConfusion h)); (with_reducible (refine dp_c trivial ?_; refine qguard_yes ?_; refine dp_c trivial ?_; refine qguard_yes ?_; refine dp_c trivial ?_; refine qguard_yes ?_)); (with_reducible refine dK_ldf ‹_› ‹_› ?_); (with_reducible (refine mguard_yes ?_)))
            refine dK_same hM (fun w hM => lost_ok (b := b0) (hM.at_ (boxR g0 b0))) hF (fun w8 hM hF => ?_)
            ((with_reducible (refine qguard_yes ?_; refine dp_c trivial ?_; refine qguard_yes ?_; refine dp_c trivial ?_; refine qguard_yes ?_; refine dp_c trivial ?_; refine qguard_yes ?_)); (with_reducible refine dK_ldf ‹_› ‹_› ?_); (with_reducible (refine qguard_yes ?_; refine dp_cT trivial ?_ ?_)); (focus (first | assumption | omega | with_reducible rfl | exact fun h => Bool.noConfusion h)); (with_reducible (refine dp_c trivial ?_; refine mm_end hM ?_; clear hM; intro _ hM)))
            exact ⟨rfl, hM.unref.same⟩
          · rintro x u w7 ⟨rfl, hM⟩
            ((with_reducible (refine mop_c ?_ ?_)); (focus omega))
            exact ⟨⟨1, rfl, rfl, by omega, hM⟩, by simp⟩
        · have e0 : (((1 : Nat) : Int)) = 1 := rfl
          simp only [e0]
          ((with_reducible (refine mif_true ?_)))
          refine ⟨fun x w' => x = .bool true ∧ hM.now w', ?_, ?_⟩
          · obtain ⟨A0, c0, A1, c1, A2, c2, hM⟩ := (hM.at_ (refR b6 b0 b1 b2)).ref
            obtain ⟨hA, hB, _⟩ := hM.fb2 b5 b6
            have hF := hM.fz2 (Hp.le.refl H) b5 b6
            refine ⟨Rl.fz (K2 H b5 (p3 g0 g1 g2) b6 (m3 b0 b1 b2 (A0, c0) (A1, c1) (A2, c2))), ?_⟩
            ((with_reducible (refine qguard_yes ?_; refine dp_c trivial ?_; refine qguard_yes ?_; refine dp_c trivial ?_; refine qguard_yes ?_)); (with_reducible refine dK_ldf ‹_› ‹_› ?_); (with_reducible (refine mguard_yes ?_)))
            refine dK_same hM (fun w hM => len_ok (b := b1) (hM.at_ (boxR g1 b1))) hF (fun w7 hM hF => ?_)
            ((with_reducible (refine qguard_yes ?_; refine dp_c trivial ?_; refine qguard_yes ?_; refine dp_c trivial ?_; refine qguard_yes ?_; refine dp_c trivial ?_; refine qguard_yes ?_)); (with_reducible refine dK_ldf ‹_› ‹_› ?_); (with_reducible (refine qguard_yes ?_; refine dp_c trivial ?_; refine qguard_yes ?_; refine dp_cT trivial ?_ ?_)); (focus (first | assumption | omega | with_reducible rfl | exact fun h => Bool.noConfusion h)); (with_reducible (refine dp_c trivial ?_; refine qguard_yes ?_; refine dp_c trivial ?_; refine qguard_yes ?_; refine dp_c trivial ?_; refine qguard_yes ?_)); (with_reducible refine dK_ldf ‹_› ‹_› ?_); (with_reducible (refine mguard_yes ?_)))
            refine dK_same hM (fun w hM => lost_ok (b := b1) (hM.at_ (boxR g1 b1))) hF (fun w8 hM hF => ?_)
            ((with_reducible (refine qguard_yes ?_; refine dp_c trivial ?_; refine qguard_yes ?_; refine dp_c trivial ?_; refine qguard_yes ?_; refine dp_c trivial ?_; refine qguard_yes ?_)); (with_reducible refine dK_ldf ‹_› ‹_› ?_); (with_reducible (refine qguard_yes ?_; refine dp_cT trivial ?_ ?_)); (focus (first | assumption | omega | with_reducible rfl | exact fun h => Bool.noConfusion h)); (with_reducible (refine dp_c trivial ?_; refine mm_end hM ?_; clear hM; intro _ hM)))
            exact ⟨rfl, hM.unref.same⟩
          · rintro x u w7 ⟨rfl, hM⟩
            ((with_reducible (refine mop_c ?_ ?_)); (focus omega))
            exact ⟨⟨2, rfl, rfl, by omega, hM⟩, by simp⟩
        · have e0 : (((2 : Nat) : Int)) = 2 := rfl
          simp only [e0]
          ((with_reducible (refine mif_true ?_)))
          refine ⟨fun x w' => x = .bool true ∧ hM.now w', ?_, ?_⟩
          · obtain ⟨A0, c0, A1, c1, A2, c2, hM⟩ := (hM.at_ (refR b6 b0 b1 b2)).ref
            obtain ⟨hA, hB, _⟩ := hM.fb2 b5 b6
            have hF := hM.fz2 (Hp.le.refl H) b5 b6
            refine ⟨Rl.fz (K2 H b5 (p3 g0 g1 g2) b6 (m3 b0 b1 b2 (A0, c0) (A1, c1) (A2, c2))), ?_⟩
            ((with_reducible (refine qguard_yes ?_; refine dp_c trivial ?_; refine qguard_yes ?_; refine dp_c trivial ?_; refine qguard_yes ?_)); (with_reducible refine dK_ldf ‹_› ‹_› ?_); (with_reducible (refine mguard_yes ?_)))
            refine dK_same hM (fun w hM => len_ok (b := b2) (hM.at_ (boxR g2 b2))) hF (fun w7 hM hF => ?_)
            ((with_reducible (refine qguard_yes ?_; refine dp_c trivial ?_; refine qguard_yes ?_; refine dp_c trivial ?_; refine qguard_yes ?_; refine dp_c trivial ?_; refine qguard_yes ?_)); (with_reducible refine dK_ldf ‹_› ‹_› ?_); (with_reducible (refine qguard_yes ?_; refine dp_c trivial ?_; refine qguard_yes ?_; refine dp_cT trivial ?_ ?_)); (focus (first | assumption | omega | with_reducible rfl | exact fun h => Bool.noConfusion h)); (with_reducible (refine dp_c trivial ?_; refine qguard_yes ?_; refine dp_c trivial ?_; refine qguard_yes ?_; refine dp_c trivial ?_; refine qguard_yes ?_)); (with_reducible refine dK_ldf ‹_› ‹_› ?_); (with_reducible (refine mguard_yes ?_)))
            refine dK_same hM (fun w hM => lost_ok (b := b2) (hM.at_ (boxR g2 b2))) hF (fun w8 hM hF => ?_)
            ((with_reducible (refine qguard_yes ?_; refine dp_c trivial ?_; refine qguard_yes ?_; refine dp_c trivial ?_; refine qguard_yes ?_; refine dp_c trivial ?_; refine qguard_yes ?_)); (with_reducible refine dK_ldf ‹_› ‹_› ?_); (with_reducible (refine qguard_yes ?_; refine dp_cT trivial ?_ ?_)); (focus (first | assumption | omega | with_reducible rfl | exact fun h => Bool.noConfusion h)); (with_reducible (refine dp_c trivial ?_; refine mm_end hM ?_; clear hM; intro _ hM)))
            exact ⟨rfl, hM.unref.same⟩
          · rintro x u w7 ⟨rfl, hM⟩
            ((with_reducible (refine mop_c ?_ ?_)); (focus omega))
            exact ⟨⟨3, rfl, rfl, by omega, hM⟩, by simp⟩
      · intro hk2
        ((with_reducible (refine mif_false ?_; refine mop_c trivial ?_; refine mif_false ?_; refine mop_c ?_ ?_)); (focus omega))
        exact ⟨⟨i + 1, b0, b1, b2, by simp, by omega, i0, i1, i2, hM⟩, by simp; omega⟩
    obtain hat | hat | hat : acts[i].a % 3 = 0 ∨ acts[i].a % 3 = 1 ∨ acts[i].a % 3 = 2 := by omega
    -- at 0
    · simp only [hat]
      ((with_reducible (refine mop_c trivial ?_; refine mm_ld hM ?_; refine mop_c ?_ ?_)); (focus omega))
      ((with_reducible (refine mop_cS trivial ?_ ?_)))
      · intro h0
        ((with_reducible (refine mif_true ?_)))
        obtain ⟨hA, hB, _⟩ := hM.fb2 b5 g11
        have hF := hM.fz2 (Hp.le.refl H) b5 g11
        refine ⟨Rl.fz (K2 H b5 (p3 g0 g1 g2) g11 acts[i].fds), ?_⟩
        ((with_reducible (refine dp_c trivial ?_)); (with_reducible refine dK_ldf ‹_› ‹_› ?_); (with_reducible (refine dp_c trivial ?_)); (with_reducible refine dK_ldf ‹_› ‹_› ?_))
        refine dK_own hM (fun w hM => post_ok (b := b0) acts[i].n (by have := i0.2.2; omega) (hM.at_ (boxR g0 b0))) ?_
        rintro v w5 ⟨rfl, hM⟩
        refine ⟨hM.fz2 (Hp.le.refl H) b5 g11, ?_⟩
        ((with_reducible (refine dp_c trivial ?_; refine dp_c trivial ?_)); (with_reducible refine dK_ldf ‹_› ‹_› ?_))
        refine dK_own hM (fun w hM => rpost0_ok (b0 := b0) acts[i].n (by have := i0; unfold BInv at this; omega) (hM.at_ (refR b6 b0 b1 b2))) ?_
        rintro v w6 ⟨rfl, hM⟩
        refine ⟨hM.fz2 (Hp.le.refl H) b5 g11, ?_⟩
        ((with_reducible (refine dp_cT trivial ?_ ?_)); (focus (first | assumption | omega | with_reducible rfl | exact fun h => Bool.noConfusion h)); (with_reducible (refine mm_end hM ?_; clear hM; intro _ hM)))
        refine ⟨by trivial, (bpost b0 acts[i].n).2, b1, b2, i0.post _, i1.succ, i2.succ, ?_⟩
        exact hM.sub
      · intro h0
        ((with_reducible (refine mif_false ?_)))
        ((with_reducible (refine mop_cS trivial ?_ ?_)))
        · intro h1
          ((with_reducible (refine mif_true ?_; refine mop_c trivial ?_; refine mm_ld hM ?_)))
          refine mm_own (takep_ok (b := b0) (hM.at_ (boxR g0 b0))) ?_
          rintro v w5 ⟨rfl, hM⟩
          ((with_reducible ((iterate 3 refine mop_c trivial ?_))))
          refine mm_own (rtake0_ok (hM.at_ (refR b6 b0 b1 b2))) ?_
          rintro v w6 ⟨rfl, hM⟩
          ((with_reducible (refine mop_c trivial ?_; refine mop_c trivial ?_; refine mop_cT trivial ?_ ?_)); (focus (first | assumption | omega | with_reducible rfl | exact fun h => Bool.noConfusion h)); (with_reducible (refine mguard_yes ?_; refine mop_c trivial ?_; refine mguard_yes ?_; refine mop_c trivial ?_; refine mguard_yes ?_; refine mop_cT trivial ?_ ?_)); (focus (first | assumption | omega | with_reducible rfl | exact fun h => Bool.noConfusion h)); (with_reducible (refine mop_c trivial ?_)))
          cases b0.xs.isEmpty <;>
          · simp only [Bool.not_true, Bool.not_false]
            skip
            refine ⟨by trivial, b0.pop, b1, b2, i0.pop, i1.succ, i2.succ, ?_⟩
            exact hM.sub
        · intro h1
          ((with_reducible (refine mif_false ?_)))
          ((with_reducible (refine mop_cS trivial ?_ ?_)))
          · intro h2
            ((with_reducible (refine mif_true ?_; refine mop_c trivial ?_; refine mm_ld hM ?_)))
            refine mm_own (close_ok (b := b0) (hM.at_ (boxR g0 b0))) ?_
            rintro v w5 ⟨rfl, hM⟩
            obtain ⟨A0, c0, A1, c1, A2, c2, hM⟩ := (hM.at_ (refR b6 b0 b1 b2)).ref
            ((with_reducible (refine mop_c trivial ?_; refine mop_c trivial ?_; refine mm_st hM ?_; clear hM; intro _ hM)))
            have hM := Mem.unref (b0 := { b0 with cl := true }) (b1 := b1) (b2 := b2) (A0 := A0) (c0 := c0) (A1 := A1) (c1 := c1) (A2 := A2) (c2 := c2) hM
            refine ⟨by trivial, { b0 with cl := true }, b1, b2, i0.close, i1.succ, i2.succ, ?_⟩
            exact hM.sub
          · intro h2
            ((with_reducible (refine mif_false ?_)))
            ((with_reducible (refine mop_cS trivial ?_ ?_)))
            · intro h3
              ((with_reducible (refine mif_true ?_; refine mop_c trivial ?_; refine mm_ld hM ?_; refine mop_c trivial ?_; refine mm_ld hM ?_; refine mop_c trivial ?_; refine mm_ld hM ?_; refine mm_bsl hM ?_ ?_ ?_)); (focus rfl); (focus (constructor <;> simp)); (with_reducible (clear hM; intro _ _ hM)))
              rename_i gs _
              refine mm_own (first_ok (b0 := b0) (b1 := b1) (b2 := b2) ((((hM.at_ (boxR g2 b2)).at_ (boxR g1 b1)).at_ (boxR g0 b0)).up (some ⟨gs, 0, none⟩))) ?_
              rintro v w5 ⟨rfl, hM⟩
              ((with_reducible ((iterate 3 refine mop_c trivial ?_))))
              obtain ⟨A0, c0, A1, c1, A2, c2, hM⟩ := (hM.at_ (refR b6 b0 b1 b2)).ref
              refine ⟨fun x y w' => ∃ k : Int, y = .int .i64 k ∧ -1 ≤ k ∧ k ≤ 2 ∧ x = .int .i64 (wantA b0 b1 b2 k) ∧ hM.now w', fun _ y _ => match y with | .int _ k => (k + 1).toNat | _ => 0, ⟨2, rfl, by omega, by omega, by simp [wantA], hM⟩, ?_⟩
              rintro x y u w6 ⟨q, rfl, hq1, hq2, rfl, hM⟩
              skip
              ((with_reducible (refine mop_cS trivial ?_ ?_)))
              · intro hq
                obtain rfl | rfl | rfl : q = 0 ∨ q = 1 ∨ q = 2 := by omega
                · ((with_reducible (refine mif_true ?_)))
                  refine ⟨fun x w' => x = .int .i64 (wantA b0 b1 b2 (0 - 1)) ∧ hM.now w', ?_, ?_⟩
                  · ((with_reducible (refine mop_c trivial ?_; refine mop_c trivial ?_; refine mm_ld hM ?_; refine mop_c trivial ?_)))
                    ((with_reducible (refine mop_cS trivial ?_ ?_)))
                    · intro hl
                      ((with_reducible (refine mif_true ?_)))
                      exact ⟨by rw [wantA_0, if_pos (fun e => by rw [e] at hl; simp at hl)], hM⟩
                    · intro hl
                      ((with_reducible (refine mif_false ?_)))
                      exact ⟨by rw [wantA_0, if_neg (fun e => e (List.eq_nil_of_length_eq_zero (by omega)))], hM⟩
                  · rintro x u w7 ⟨rfl, hM⟩
                    ((with_reducible (refine mop_c ?_ ?_)); (focus omega))
                    exact ⟨⟨0 - 1, rfl, by omega, by omega, rfl, hM⟩, by simp⟩
                · ((with_reducible (refine mif_true ?_)))
                  refine ⟨fun x w' => x = .int .i64 (wantA b0 b1 b2 (1 - 1)) ∧ hM.now w', ?_, ?_⟩
                  · ((with_reducible (refine mop_c trivial ?_; refine mop_c trivial ?_; refine mm_ld hM ?_; refine mop_c trivial ?_)))
                    ((with_reducible (refine mop_cS trivial ?_ ?_)))
                    · intro hl
                      ((with_reducible (refine mif_true ?_)))
                      exact ⟨by rw [wantA_1, if_pos (fun e => by rw [e] at hl; simp at hl)], hM⟩
                    · intro hl
                      ((with_reducible (refine mif_false ?_)))
                      exact ⟨by rw [wantA_1, if_neg (fun e => e (List.eq_nil_of_length_eq_zero (by omega)))], hM⟩
                  · rintro x u w7 ⟨rfl, hM⟩
                    ((with_reducible (refine mop_c ?_ ?_)); (focus omega))
                    exact ⟨⟨1 - 1, rfl, by omega, by omega, rfl, hM⟩, by simp⟩
                · ((with_reducible (refine mif_true ?_)))
                  refine ⟨fun x w' => x = .int .i64 (wantA b0 b1 b2 (2 - 1)) ∧ hM.now w', ?_, ?_⟩
                  · ((with_reducible (refine mop_c trivial ?_; refine mop_c trivial ?_; refine mm_ld hM ?_; refine mop_c trivial ?_)))
                    ((with_reducible (refine mop_cS trivial ?_ ?_)))
                    · intro hl
                      ((with_reducible (refine mif_true ?_)))
                      exact ⟨by rw [wantA_2, if_pos (fun e => by rw [e] at hl; simp at hl)], hM⟩
                    · intro hl
                      ((with_reducible (refine mif_false ?_)))
                      exact ⟨by rw [wantA_2, if_neg (fun e => e (List.eq_nil_of_length_eq_zero (by omega)))], hM⟩
                  · rintro x u w7 ⟨rfl, hM⟩
                    ((with_reducible (refine mop_c ?_ ?_)); (focus omega))
                    exact ⟨⟨2 - 1, rfl, by omega, by omega, rfl, hM⟩, by simp⟩
              · intro hq
                obtain rfl : q = -1 := by omega
                ((with_reducible (refine mif_false ?_)))
                have hM := hM.unref
                by_cases n0 : b0.xs ≠ []
                · have e : bfirst b0 b1 b2 = ((b0.xs.headD 0, 0, true), b0.pop, b1, b2) := by unfold bfirst; rw [if_pos n0]
                  have e2 : wantA b0 b1 b2 (-1) = 0 := by rw [wantA_m]; rw [if_pos n0]
                  rw [e] at hM ⊢
                  rw [e2]
                  dsimp only at hM ⊢
                  refine ⟨fun x w' => x = .int .i64 (b0.xs.headD 0) ∧ Mem H w [fb b5 36 (p3 g0 g1 g2), refR b6 b0.pop b1 b2, boxR g0 b0.pop, boxR g1 b1, boxR g2 b2] w', ?_, ?_⟩
                  · ((with_reducible (refine mop_cT trivial ?_ ?_)); (focus (first | assumption | omega | with_reducible rfl | exact fun h => Bool.noConfusion h)); (with_reducible (refine mif_true ?_; refine mop_c trivial ?_)))
                    refine mm_own (rtake0_ok hM) ?_
                    rintro v w7 ⟨rfl, hM⟩
                    ((with_reducible (refine mop_c trivial ?_; refine mop_c trivial ?_)))
                    exact ⟨rfl, hM.sub⟩
                  · rintro x u w7 ⟨rfl, hM⟩
                    ((with_reducible (refine mop_cT trivial ?_ ?_)); (focus (first | assumption | omega | with_reducible rfl | exact fun h => Bool.noConfusion h)); (with_reducible (refine mguard_yes ?_; refine mop_c trivial ?_; refine mguard_yes ?_; refine mop_c trivial ?_; refine mguard_yes ?_; refine mop_cT trivial ?_ ?_)); (focus (first | assumption | omega | with_reducible rfl | exact fun h => Bool.noConfusion h)); (with_reducible (refine mguard_yes ?_; refine mop_cT trivial ?_ ?_)); (focus (first | assumption | omega | with_reducible rfl | exact fun h => Bool.noConfusion h)); (with_reducible (refine mop_c trivial ?_; refine mguard_yes ?_; refine mop_c trivial ?_; refine mguard_yes ?_; refine mop_c trivial ?_; refine mguard_yes ?_; refine mop_cT trivial ?_ ?_)); (focus (first | assumption | omega | with_reducible rfl | exact fun h => Bool.noConfusion h)); (with_reducible (refine mop_c trivial ?_)))
                    refine ⟨by trivial, b0.pop, b1, b2, i0.pop, i1.succ, i2.succ, hM⟩
                replace n0 : b0.xs = [] := Decidable.not_not.1 n0
                by_cases n1 : b1.xs ≠ []
                · have e : bfirst b0 b1 b2 = ((b1.xs.headD 0, 1, true), b0, b1.pop, b2) := by unfold bfirst; rw [if_neg (fun h => h n0), if_pos n1]
                  have e2 : wantA b0 b1 b2 (-1) = 1 := by rw [wantA_m]; rw [if_neg (fun h => h n0), if_pos n1]
                  rw [e] at hM ⊢
                  rw [e2]
                  dsimp only at hM ⊢
                  refine ⟨fun x w' => x = .int .i64 (b1.xs.headD 0) ∧ Mem H w [fb b5 36 (p3 g0 g1 g2), refR b6 b0 b1.pop b2, boxR g0 b0, boxR g1 b1.pop, boxR g2 b2] w', ?_, ?_⟩
                  · ((with_reducible (refine mop_cT trivial ?_ ?_)); (focus (first | assumption | omega | with_reducible rfl | exact fun h => Bool.noConfusion h)); (with_reducible (refine mif_true ?_; refine mop_c trivial ?_)))
                    refine mm_own (rtake1_ok hM) ?_
                    rintro v w7 ⟨rfl, hM⟩
                    ((with_reducible (refine mop_c trivial ?_; refine mop_c trivial ?_)))
                    exact ⟨rfl, hM.sub⟩
                  · rintro x u w7 ⟨rfl, hM⟩
                    ((with_reducible (refine mop_cT trivial ?_ ?_)); (focus (first | assumption | omega | with_reducible rfl | exact fun h => Bool.noConfusion h)); (with_reducible (refine mguard_yes ?_; refine mop_c trivial ?_; refine mguard_yes ?_; refine mop_c trivial ?_; refine mguard_yes ?_; refine mop_cT trivial ?_ ?_)); (focus (first | assumption | omega | with_reducible rfl | exact fun h => Bool.noConfusion h)); (with_reducible (refine mguard_yes ?_; refine mop_cT trivial ?_ ?_)); (focus (first | assumption | omega | with_reducible rfl | exact fun h => Bool.noConfusion h)); (with_reducible (refine mop_c trivial ?_; refine mguard_yes ?_; refine mop_c trivial ?_; refine mguard_yes ?_; refine mop_c trivial ?_; refine mguard_yes ?_; refine mop_cT trivial ?_ ?_)); (focus (first | assumption | omega | with_reducible rfl | exact fun h => Bool.noConfusion h)); (with_reducible (refine mop_c trivial ?_)))
                    refine ⟨by trivial, b0, b1.pop, b2, i0.succ, i1.pop, i2.succ, hM⟩
                replace n1 : b1.xs = [] := Decidable.not_not.1 n1
                by_cases n2 : b2.xs ≠ []
                · have e : bfirst b0 b1 b2 = ((b2.xs.headD 0, 2, true), b0, b1, b2.pop) := by unfold bfirst; rw [if_neg (fun h => h n0), if_neg (fun h => h n1), if_pos n2]
                  have e2 : wantA b0 b1 b2 (-1) = 2 := by rw [wantA_m]; rw [if_neg (fun h => h n0), if_neg (fun h => h n1), if_pos n2]
                  rw [e] at hM ⊢
                  rw [e2]
                  dsimp only at hM ⊢
                  refine ⟨fun x w' => x = .int .i64 (b2.xs.headD 0) ∧ Mem H w [fb b5 36 (p3 g0 g1 g2), refR b6 b0 b1 b2.pop, boxR g0 b0, boxR g1 b1, boxR g2 b2.pop] w', ?_, ?_⟩
                  · ((with_reducible (refine mop_cT trivial ?_ ?_)); (focus (first | assumption | omega | with_reducible rfl | exact fun h => Bool.noConfusion h)); (with_reducible (refine mif_true ?_; refine mop_c trivial ?_)))
                    refine mm_own (rtake2_ok hM) ?_
                    rintro v w7 ⟨rfl, hM⟩
                    ((with_reducible (refine mop_c trivial ?_; refine mop_c trivial ?_)))
                    exact ⟨rfl, hM.sub⟩
                  · rintro x u w7 ⟨rfl, hM⟩
                    ((with_reducible (refine mop_cT trivial ?_ ?_)); (focus (first | assumption | omega | with_reducible rfl | exact fun h => Bool.noConfusion h)); (with_reducible (refine mguard_yes ?_; refine mop_c trivial ?_; refine mguard_yes ?_; refine mop_c trivial ?_; refine mguard_yes ?_; refine mop_cT trivial ?_ ?_)); (focus (first | assumption | omega | with_reducible rfl | exact fun h => Bool.noConfusion h)); (with_reducible (refine mguard_yes ?_; refine mop_cT trivial ?_ ?_)); (focus (first | assumption | omega | with_reducible rfl | exact fun h => Bool.noConfusion h)); (with_reducible (refine mop_c trivial ?_; refine mguard_yes ?_; refine mop_c trivial ?_; refine mguard_yes ?_; refine mop_c trivial ?_; refine mguard_yes ?_; refine mop_cT trivial ?_ ?_)); (focus (first | assumption | omega | with_reducible rfl | exact fun h => Bool.noConfusion h)); (with_reducible (refine mop_c trivial ?_)))
                    refine ⟨by trivial, b0, b1, b2.pop, i0.succ, i1.succ, i2.pop, hM⟩
                replace n2 : b2.xs = [] := Decidable.not_not.1 n2
                have e : bfirst b0 b1 b2 = ((0, -1, false), b0, b1, b2) := by unfold bfirst; rw [if_neg (fun h => h n0), if_neg (fun h => h n1), if_neg (fun h => h n2)]
                have e2 : wantA b0 b1 b2 (-1) = -1 := by rw [wantA_m]; rw [if_neg (fun h => h n0), if_neg (fun h => h n1), if_neg (fun h => h n2)]
                rw [e] at hM ⊢
                rw [e2]
                dsimp only at hM ⊢
                refine ⟨fun x w' => x = .int .i64 0 ∧ Mem H w [fb b5 36 (p3 g0 g1 g2), refR b6 b0 b1 b2, boxR g0 b0, boxR g1 b1, boxR g2 b2] w', ?_, ?_⟩
                · ((with_reducible (refine mop_cF trivial ?_ ?_)); (focus (first | assumption | omega | with_reducible rfl | exact fun h => Bool.noConfusion h)); (with_reducible (refine mif_false ?_)))
                  exact ⟨rfl, hM.sub⟩
                · rintro x u w7 ⟨rfl, hM⟩
                  ((with_reducible (refine mop_cT trivial ?_ ?_)); (focus (first | assumption | omega | with_reducible rfl | exact fun h => Bool.noConfusion h)); (with_reducible (refine mguard_yes ?_; refine mop_c trivial ?_; refine mguard_yes ?_; refine mop_c trivial ?_; refine mguard_yes ?_; refine mop_cF trivial ?_ ?_)); (focus (first | assumption | omega | with_reducible rfl | exact fun h => Bool.noConfusion h)); (with_reducible (refine mguard_yes ?_; refine mop_cT trivial ?_ ?_)); (focus (first | assumption | omega | with_reducible rfl | exact fun h => Bool.noConfusion h)); (with_reducible (refine mop_c trivial ?_; refine mguard_yes ?_; refine mop_c trivial ?_; refine mguard_yes ?_; refine mop_c trivial ?_; refine mguard_yes ?_; refine mop_cT trivial ?_ ?_)); (focus (first | assumption | omega | with_reducible rfl | exact fun h => Bool.noConfusion h)); (with_reducible (refine mop_c trivial ?_)))
                  refine ⟨by trivial, b0, b1, b2, i0.succ, i1.succ, i2.succ, hM⟩
            · intro h3
              ((with_reducible (refine mif_false ?_; refine mop_cT trivial ?_ ?_)); (focus (first | assumption | omega | with_reducible rfl | exact fun h => Bool.noConfusion h)); (with_reducible (refine mif_true ?_; refine mop_c ?_ ?_)); (focus omega); (with_reducible (refine mop_c ?_ ?_)); (focus omega))
              have e7 : ((0 : Int) + 1) % 3 = 1 := by decide
              simp only [e7]
              refine ⟨fun x w' => ∃ (n : Nat) (f1 t1 : Bx), x = .int .i64 n ∧ n ≤ pourN b0 b1 ∧ f1 = { b0 with xs := b0.xs.drop n } ∧ t1 = { b1 with xs := b1.xs ++ b0.xs.take n } ∧ Mem H w (refR b6 f1 t1 b2 :: fb b5 36 (p3 g0 g1 g2) :: [boxR g0 b0, boxR g1 b1, boxR g2 b2]) w', fun x _ => match x with | .int _ n => pourN b0 b1 - n.toNat | _ => 0, ⟨0, b0, b1, rfl, by omega, by simp, by simp, hM.sub⟩, ?_⟩
              clear hM
              rintro x u w5 ⟨n, f1, t1, rfl, hn, hf1, ht1, hM⟩
              have hif : n ≤ b0.xs.length := by unfold pourN at hn; split at hn <;> omega
              have htl : t1.xs.length = b1.xs.length + n := by subst ht1; simp; omega
              have hfl : f1.xs.length = b0.xs.length - n := by subst hf1; simp
              have hcl : t1.cl = b1.cl := by subst ht1; rfl
              have hrm : t1.room = b1.room := by subst ht1; rfl
              have hls : t1.lost = b1.lost := by subst ht1; rfl
              have hI1 := i0
              have hI2 := i1
              unfold BInv at hI1 hI2
              refine ⟨fun w' => b1.xs.length + n < b1.room ∧ b1.cl = false ∧ n < b0.xs.length ∧ hM.now w', ?_, ?_⟩
              · have hfin : n = pourN b0 b1 → ∀ w6, Mem H w (refR b6 f1 t1 b2 :: fb b5 36 (p3 g0 g1 g2) :: [boxR g0 b0, boxR g1 b1, boxR g2 b2]) w6 → Mem H w (refR b6 (pourF b0 b1) (pourT b0 b1) b2 :: fb b5 36 (p3 g0 g1 g2) :: [boxR g0 b0, boxR g1 b1, boxR g2 b2]) w6 := fun e w6 h => by
                  subst e
                  rw [hf1, ht1] at h
                  exact h
                have hout : ∀ w6, n = pourN b0 b1 → Mem H w (refR b6 f1 t1 b2 :: fb b5 36 (p3 g0 g1 g2) :: [boxR g0 b0, boxR g1 b1, boxR g2 b2]) w6 → Mem H w (boxR g0 b0 :: boxR g1 b1 :: boxR g2 b2 :: refR b6 (pourF b0 b1) (pourT b0 b1) b2 :: fb b5 36 (p3 g0 g1 g2) :: []) w6 := fun w6 e h => (hfin e w6 h).same
                have hMr := hM
                obtain ⟨A0, c0, A1, c1, A2, c2, hM⟩ := hM.ref
                ((with_reducible (refine dp_c trivial ?_; refine dp_c trivial ?_; refine dm_ld hM ?_; refine dp_c trivial ?_)))
                cases hc : t1.cl
                · simp only [hc, Bool.not_false]
                  have hc2 : b1.cl = false := hcl.symm.trans hc
                  ((with_reducible (refine qguard_yes ?_; refine dp_c trivial ?_; refine qguard_yes ?_; refine dp_c trivial ?_; refine qguard_yes ?_; refine dp_c trivial ?_; refine qguard_yes ?_; refine dm_ld hM ?_; refine qguard_yes ?_; refine dp_c trivial ?_; refine qguard_yes ?_; refine dp_c trivial ?_; refine qguard_yes ?_; refine dp_c trivial ?_; refine qguard_yes ?_; refine dp_c trivial ?_; refine qguard_yes ?_; refine dm_ld hM ?_; refine qguard_yes ?_)))
                  refine dp_cS trivial (fun hlt1 => ?_) (fun hlt1 => ?_)
                  · ((with_reducible (refine dp_c trivial ?_; refine qguard_yes ?_; refine dp_c trivial ?_; refine qguard_yes ?_; refine dp_c trivial ?_; refine qguard_yes ?_; refine dp_c trivial ?_; refine qguard_yes ?_; refine dm_ld hM ?_; refine qguard_yes ?_; refine dp_c trivial ?_; refine qguard_yes ?_)))
                    refine dp_cS trivial (fun hlt2 => ?_) (fun hlt2 => ?_)
                    · ((with_reducible (refine dp_c trivial ?_; refine mm_end hM ?_; clear hM; intro _ hM; refine mif_true ?_)))
                      exact ⟨by omega, hc2, by omega, hM.unref⟩
                    · ((with_reducible (refine dp_c trivial ?_; refine mm_end hM ?_; clear hM; intro _ hM; refine mif_false ?_; refine dp_c trivial ?_; refine dm_ld hM ?_; refine dp_c trivial ?_; refine dm_ld hM ?_)))
                      have e : n = pourN b0 b1 := by
                        unfold pourN at hn ⊢
                        rw [if_neg (by simp [hc2])] at hn ⊢
                        omega
                      have hM := hout _ e hM.unref
                      skip
                      refine dm_own hM (fun w hM => pour_ok (f := b0) (t := b1) (by omega) hM) ?_
                      rintro v w7 ⟨rfl, hM⟩
                      ((with_reducible (refine dp_cT trivial ?_ ?_)); (focus (first | assumption | omega | with_reducible rfl | exact fun h => Bool.noConfusion h)); (with_reducible (refine mm_end hM ?_; clear hM; intro _ hM)))
                      refine ⟨by trivial, (pourF b0 b1), (pourT b0 b1), b2, i0.pourF, i1.pourT, i2.succ, ?_⟩
                      exact hM.sub
                  · ((with_reducible (refine dp_c trivial ?_; (iterate 6 refine qguard_n2 ?_); refine dp_c trivial ?_; refine mm_end hM ?_; clear hM; intro _ hM; refine mif_false ?_; refine dp_c trivial ?_; refine dm_ld hM ?_; refine dp_c trivial ?_; refine dm_ld hM ?_)))
                    have e : n = pourN b0 b1 := by
                      unfold pourN at hn ⊢
                      rw [if_neg (by simp [hc2])] at hn ⊢
                      omega
                    have hM := hout _ e hM.unref
                    skip
                    refine dm_own hM (fun w hM => pour_ok (f := b0) (t := b1) (by omega) hM) ?_
                    rintro v w7 ⟨rfl, hM⟩
                    ((with_reducible (refine dp_cT trivial ?_ ?_)); (focus (first | assumption | omega | with_reducible rfl | exact fun h => Bool.noConfusion h)); (with_reducible (refine mm_end hM ?_; clear hM; intro _ hM)))
                    refine ⟨by trivial, (pourF b0 b1), (pourT b0 b1), b2, i0.pourF, i1.pourT, i2.succ, ?_⟩
                    exact hM.sub
                · simp only [hc, Bool.not_true]
                  have hc2 : b1.cl = true := hcl.symm.trans hc
                  ((with_reducible ((iterate 10 refine qguard_n2 ?_); refine dp_c trivial ?_; (iterate 6 refine qguard_n2 ?_); refine dp_c trivial ?_; refine mm_end hM ?_; clear hM; intro _ hM; refine mif_false ?_; refine dp_c trivial ?_; refine dm_ld hM ?_; refine dp_c trivial ?_; refine dm_ld hM ?_)))
                  have e : n = pourN b0 b1 := by
                    unfold pourN at hn ⊢
                    rw [if_pos hc2] at hn ⊢
                    omega
                  have hM := hout _ e hM.unref
                  skip
                  refine dm_own hM (fun w hM => pour_ok (f := b0) (t := b1) (by omega) hM) ?_
                  rintro v w7 ⟨rfl, hM⟩
                  ((with_reducible (refine dp_cT trivial ?_ ?_)); (focus (first | assumption | omega | with_reducible rfl | exact fun h => Bool.noConfusion h)); (with_reducible (refine mm_end hM ?_; clear hM; intro _ hM)))
                  refine ⟨by trivial, (pourF b0 b1), (pourT b0 b1), b2, i0.pourF, i1.pourT, i2.succ, ?_⟩
                  exact hM.sub
              · rintro u w6 ⟨hroom, hc, hn2, hM⟩
                ((with_reducible (refine mop_c trivial ?_)))
                refine mm_own (rtake0_ok hM) ?_
                rintro v w7 ⟨rfl, hM⟩
                ((with_reducible ((iterate 3 refine mop_c trivial ?_))))
                refine mm_own (rpost1_ok (f1.xs.headD 0) (by omega) hM) ?_
                rintro v w8 ⟨rfl, hM⟩
                ((with_reducible (refine mop_c ?_ ?_)); (focus omega))
                have e2 : (bpost t1 (f1.xs.headD 0)).2 = { b1 with xs := b1.xs ++ b0.xs.take (n + 1) } := by
                  unfold bpost
                  rw [if_neg (by rw [hcl, hc]; simp), if_pos (by omega)]
                  subst hf1 ht1
                  simp only [List.append_assoc]
                  congr 2
                  rw [List.take_succ_eq_append_getElem hn2]
                  congr 1
                  rw [List.drop_eq_getElem_cons hn2]
                  rfl
                have e3 : f1.pop = { b0 with xs := b0.xs.drop (n + 1) } := by
                  subst hf1
                  simp [Bx.pop, List.tail_drop]
                rw [e2, e3] at hM
                have hlt : n + 1 ≤ pourN b0 b1 := by
                  unfold pourN
                  rw [if_neg (by simp [hc])]
                  omega
                exact ⟨⟨n + 1, _, _, by simp, hlt, rfl, rfl, hM⟩, by simp; omega⟩

    -- at 1
    · simp only [hat]
      ((with_reducible (refine mop_c trivial ?_; refine mm_ld hM ?_; refine mop_c ?_ ?_)); (focus omega))
      ((with_reducible (refine mop_cS trivial ?_ ?_)))
      · intro h0
        ((with_reducible (refine mif_true ?_)))
        obtain ⟨hA, hB, _⟩ := hM.fb2 b5 g11
        have hF := hM.fz2 (Hp.le.refl H) b5 g11
        refine ⟨Rl.fz (K2 H b5 (p3 g0 g1 g2) g11 acts[i].fds), ?_⟩
        ((with_reducible (refine dp_c trivial ?_)); (with_reducible refine dK_ldf ‹_› ‹_› ?_); (with_reducible (refine dp_c trivial ?_)); (with_reducible refine dK_ldf ‹_› ‹_› ?_))
        refine dK_own hM (fun w hM => post_ok (b := b1) acts[i].n (by have := i1.2.2; omega) (hM.at_ (boxR g1 b1))) ?_
        rintro v w5 ⟨rfl, hM⟩
        refine ⟨hM.fz2 (Hp.le.refl H) b5 g11, ?_⟩
        ((with_reducible (refine dp_c trivial ?_; refine dp_c trivial ?_)); (with_reducible refine dK_ldf ‹_› ‹_› ?_))
        refine dK_own hM (fun w hM => rpost1_ok (b1 := b1) acts[i].n (by have := i1; unfold BInv at this; omega) (hM.at_ (refR b6 b0 b1 b2))) ?_
        rintro v w6 ⟨rfl, hM⟩
        refine ⟨hM.fz2 (Hp.le.refl H) b5 g11, ?_⟩
        ((with_reducible (refine dp_cT trivial ?_ ?_)); (focus (first | assumption | omega | with_reducible rfl | exact fun h => Bool.noConfusion h)); (with_reducible (refine mm_end hM ?_; clear hM; intro _ hM)))
        refine ⟨by trivial, b0, (bpost b1 acts[i].n).2, b2, i0.succ, i1.post _, i2.succ, ?_⟩
        exact hM.sub
      · intro h0
        ((with_reducible (refine mif_false ?_)))
        ((with_reducible (refine mop_cS trivial ?_ ?_)))
        · intro h1
          ((with_reducible (refine mif_true ?_; refine mop_c trivial ?_; refine mm_ld hM ?_)))
          refine mm_own (takep_ok (b := b1) (hM.at_ (boxR g1 b1))) ?_
          rintro v w5 ⟨rfl, hM⟩
          ((with_reducible ((iterate 3 refine mop_c trivial ?_))))
          refine mm_own (rtake1_ok (hM.at_ (refR b6 b0 b1 b2))) ?_
          rintro v w6 ⟨rfl, hM⟩
          ((with_reducible (refine mop_c trivial ?_; refine mop_c trivial ?_; refine mop_cT trivial ?_ ?_)); (focus (first | assumption | omega | with_reducible rfl | exact fun h => Bool.noConfusion h)); (with_reducible (refine mguard_yes ?_; refine mop_c trivial ?_; refine mguard_yes ?_; refine mop_c trivial ?_; refine mguard_yes ?_; refine mop_cT trivial ?_ ?_)); (focus (first | assumption | omega | with_reducible rfl | exact fun h => Bool.noConfusion h)); (with_reducible (refine mop_c trivial ?_)))
          cases b1.xs.isEmpty <;>
          · simp only [Bool.not_true, Bool.not_false]
            skip
            refine ⟨by trivial, b0, b1.pop, b2, i0.succ, i1.pop, i2.succ, ?_⟩
            exact hM.sub
        · intro h1
          ((with_reducible (refine mif_false ?_)))
          ((with_reducible (refine mop_cS trivial ?_ ?_)))
          · intro h2
            ((with_reducible (refine mif_true ?_; refine mop_c trivial ?_; refine mm_ld hM ?_)))
            refine mm_own (close_ok (b := b1) (hM.at_ (boxR g1 b1))) ?_
            rintro v w5 ⟨rfl, hM⟩
            obtain ⟨A0, c0, A1, c1, A2, c2, hM⟩ := (hM.at_ (refR b6 b0 b1 b2)).ref
            ((with_reducible (refine mop_c trivial ?_; refine mop_c trivial ?_; refine mm_st hM ?_; clear hM; intro _ hM)))
            have hM := Mem.unref (b0 := b0) (b1 := { b1 with cl := true }) (b2 := b2) (A0 := A0) (c0 := c0) (A1 := A1) (c1 := c1) (A2 := A2) (c2 := c2) hM
            refine ⟨by trivial, b0, { b1 with cl := true }, b2, i0.succ, i1.close, i2.succ, ?_⟩
            exact hM.sub
          · intro h2
            ((with_reducible (refine mif_false ?_)))
            ((with_reducible (refine mop_cS trivial ?_ ?_)))
            · intro h3
              ((with_reducible (refine mif_true ?_; refine mop_c trivial ?_; refine mm_ld hM ?_; refine mop_c trivial ?_; refine mm_ld hM ?_; refine mop_c trivial ?_; refine mm_ld hM ?_; refine mm_bsl hM ?_ ?_ ?_)); (focus rfl); (focus (constructor <;> simp)); (with_reducible (clear hM; intro _ _ hM)))
              rename_i gs _
              refine mm_own (first_ok (b0 := b0) (b1 := b1) (b2 := b2) ((((hM.at_ (boxR g2 b2)).at_ (boxR g1 b1)).at_ (boxR g0 b0)).up (some ⟨gs, 0, none⟩))) ?_
              rintro v w5 ⟨rfl, hM⟩
              ((with_reducible ((iterate 3 refine mop_c trivial ?_))))
              obtain ⟨A0, c0, A1, c1, A2, c2, hM⟩ := (hM.at_ (refR b6 b0 b1 b2)).ref
              refine ⟨fun x y w' => ∃ k : Int, y = .int .i64 k ∧ -1 ≤ k ∧ k ≤ 2 ∧ x = .int .i64 (wantA b0 b1 b2 k) ∧ hM.now w', fun _ y _ => match y with | .int _ k => (k + 1).toNat | _ => 0, ⟨2, rfl, by omega, by omega, by simp [wantA], hM⟩, ?_⟩
              rintro x y u w6 ⟨q, rfl, hq1, hq2, rfl, hM⟩
              skip
              ((with_reducible (refine mop_cS trivial ?_ ?_)))
              · intro hq
                obtain rfl | rfl | rfl : q = 0 ∨ q = 1 ∨ q = 2 := by omega
                · ((with_reducible (refine mif_true ?_)))
                  refine ⟨fun x w' => x = .int .i64 (wantA b0 b1 b2 (0 - 1)) ∧ hM.now w', ?_, ?_⟩
                  · ((with_reducible (refine mop_c trivial ?_; refine mop_c trivial ?_; refine mm_ld hM ?_; refine mop_c trivial ?_)))
                    ((with_reducible (refine mop_cS trivial ?_ ?_)))
                    · intro hl
                      ((with_reducible (refine mif_true ?_)))
                      exact ⟨by rw [wantA_0, if_pos (fun e => by rw [e] at hl; simp at hl)], hM⟩
                    · intro hl
                      ((with_reducible (refine mif_false ?_)))
                      exact ⟨by rw [wantA_0, if_neg (fun e => e (List.eq_nil_of_length_eq_zero (by omega)))], hM⟩
                  · rintro x u w7 ⟨rfl, hM⟩
                    ((with_reducible (refine mop_c ?_ ?_)); (focus omega))
                    exact ⟨⟨0 - 1, rfl, by omega, by omega, rfl, hM⟩, by simp⟩
                · ((with_reducible (refine mif_true ?_)))
                  refine ⟨fun x w' => x = .int .i64 (wantA b0 b1 b2 (1 - 1)) ∧ hM.now w', ?_, ?_⟩
                  · ((with_reducible (refine mop_c trivial ?_; refine mop_c trivial ?_; refine mm_ld hM ?_; refine mop_c trivial ?_)))
                    ((with_reducible (refine mop_cS trivial ?_ ?_)))
                    · intro hl
                      ((with_reducible (refine mif_true ?_)))
                      exact ⟨by rw [wantA_1, if_pos (fun e => by rw [e] at hl; simp at hl)], hM⟩
                    · intro hl
                      ((with_reducible (refine mif_false ?_)))
                      exact ⟨by rw [wantA_1, if_neg (fun e => e (List.eq_nil_of_length_eq_zero (by omega)))], hM⟩
                  · rintro x u w7 ⟨rfl, hM⟩
                    ((with_reducible (refine mop_c ?_ ?_)); (focus omega))
                    exact ⟨⟨1 - 1, rfl, by omega, by omega, rfl, hM⟩, by simp⟩
                · ((with_reducible (refine mif_true ?_)))
                  refine ⟨fun x w' => x = .int .i64 (wantA b0 b1 b2 (2 - 1)) ∧ hM.now w', ?_, ?_⟩
                  · ((with_reducible (refine mop_c trivial ?_; refine mop_c trivial ?_; refine mm_ld hM ?_; refine mop_c trivial ?_)))
                    ((with_reducible (refine mop_cS trivial ?_ ?_)))
                    · intro hl
                      ((with_reducible (refine mif_true ?_)))
                      exact ⟨by rw [wantA_2, if_pos (fun e => by rw [e] at hl; simp at hl)], hM⟩
                    · intro hl
                      ((with_reducible (refine mif_false ?_)))
                      exact ⟨by rw [wantA_2, if_neg (fun e => e (List.eq_nil_of_length_eq_zero (by omega)))], hM⟩
                  · rintro x u w7 ⟨rfl, hM⟩
                    ((with_reducible (refine mop_c ?_ ?_)); (focus omega))
                    exact ⟨⟨2 - 1, rfl, by omega, by omega, rfl, hM⟩, by simp⟩
              · intro hq
                obtain rfl : q = -1 := by omega
                ((with_reducible (refine mif_false ?_)))
                have hM := hM.unref
                by_cases n0 : b0.xs ≠ []
                · have e : bfirst b0 b1 b2 = ((b0.xs.headD 0, 0, true), b0.pop, b1, b2) := by unfold bfirst; rw [if_pos n0]
                  have e2 : wantA b0 b1 b2 (-1) = 0 := by rw [wantA_m]; rw [if_pos n0]
                  rw [e] at hM ⊢
                  rw [e2]
                  dsimp only at hM ⊢
                  refine ⟨fun x w' => x = .int .i64 (b0.xs.headD 0) ∧ Mem H w [fb b5 36 (p3 g0 g1 g2), refR b6 b0.pop b1 b2, boxR g0 b0.pop, boxR g1 b1, boxR g2 b2] w', ?_, ?_⟩
                  · ((with_reducible (refine mop_cT trivial ?_ ?_)); (focus (first | assumption | omega | with_reducible rfl | exact fun h => Bool.noConfusion h)); (with_reducible (refine mif_true ?_; refine mop_c trivial ?_)))
                    refine mm_own (rtake0_ok hM) ?_
                    rintro v w7 ⟨rfl, hM⟩
                    ((with_reducible (refine mop_c trivial ?_; refine mop_c trivial ?_)))
                    exact ⟨rfl, hM.sub⟩
                  · rintro x u w7 ⟨rfl, hM⟩
                    ((with_reducible (refine mop_cT trivial ?_ ?_)); (focus (first | assumption | omega | with_reducible rfl | exact fun h => Bool.noConfusion h)); (with_reducible (refine mguard_yes ?_; refine mop_c trivial ?_; refine mguard_yes ?_; refine mop_c trivial ?_; refine mguard_yes ?_; refine mop_cT trivial ?_ ?_)); (focus (first | assumption | omega | with_reducible rfl | exact fun h => Bool.noConfusion h)); (with_reducible (refine mguard_yes ?_; refine mop_cT trivial ?_ ?_)); (focus (first | assumption | omega | with_reducible rfl | exact fun h => Bool.noConfusion h)); (with_reducible (refine mop_c trivial ?_; refine mguard_yes ?_; refine mop_c trivial ?_; refine mguard_yes ?_; refine mop_c trivial ?_; refine mguard_yes ?_; refine mop_cT trivial ?_ ?_)); (focus (first | assumption | omega | with_reducible rfl | exact fun h => Bool.noConfusion h)); (with_reducible (refine mop_c trivial ?_)))
                    refine ⟨by trivial, b0.pop, b1, b2, i0.pop, i1.succ, i2.succ, hM⟩
                replace n0 : b0.xs = [] := Decidable.not_not.1 n0
                by_cases n1 : b1.xs ≠ []
                · have e : bfirst b0 b1 b2 = ((b1.xs.headD 0, 1, true), b0, b1.pop, b2) := by unfold bfirst; rw [if_neg (fun h => h n0), if_pos n1]
                  have e2 : wantA b0 b1 b2 (-1) = 1 := by rw [wantA_m]; rw [if_neg (fun h => h n0), if_pos n1]
                  rw [e] at hM ⊢
                  rw [e2]
                  dsimp only at hM ⊢
                  refine ⟨fun x w' => x = .int .i64 (b1.xs.headD 0) ∧ Mem H w [fb b5 36 (p3 g0 g1 g2), refR b6 b0 b1.pop b2, boxR g0 b0, boxR g1 b1.pop, boxR g2 b2] w', ?_, ?_⟩
                  · ((with_reducible (refine mop_cT trivial ?_ ?_)); (focus (first | assumption | omega | with_reducible rfl | exact fun h => Bool.noConfusion h)); (with_reducible (refine mif_true ?_; refine mop_c trivial ?_)))
                    refine mm_own (rtake1_ok hM) ?_
                    rintro v w7 ⟨rfl, hM⟩
                    ((with_reducible (refine mop_c trivial ?_; refine mop_c trivial ?_)))
                    exact ⟨rfl, hM.sub⟩
                  · rintro x u w7 ⟨rfl, hM⟩
                    ((with_reducible (refine mop_cT trivial ?_ ?_)); (focus (first | assumption | omega | with_reducible rfl | exact fun h => Bool.noConfusion h)); (with_reducible (refine mguard_yes ?_; refine mop_c trivial ?_; refine mguard_yes ?_; refine mop_c trivial ?_; refine mguard_yes ?_; refine mop_cT trivial ?_ ?_)); (focus (first | assumption | omega | with_reducible rfl | exact fun h => Bool.noConfusion h)); (with_reducible (refine mguard_yes ?_; refine mop_cT trivial ?_ ?_)); (focus (first | assumption | omega | with_reducible rfl | exact fun h => Bool.noConfusion h)); (with_reducible (refine mop_c trivial ?_; refine mguard_yes ?_; refine mop_c trivial ?_; refine mguard_yes ?_; refine mop_c trivial ?_; refine mguard_yes ?_; refine mop_cT trivial ?_ ?_)); (focus (first | assumption | omega | with_reducible rfl | exact fun h => Bool.noConfusion h)); (with_reducible (refine mop_c trivial ?_)))
                    refine ⟨by trivial, b0, b1.pop, b2, i0.succ, i1.pop, i2.succ, hM⟩
                replace n1 : b1.xs = [] := Decidable.not_not.1 n1
                by_cases n2 : b2.xs ≠ []
                · have e : bfirst b0 b1 b2 = ((b2.xs.headD 0, 2, true), b0, b1, b2.pop) := by unfold bfirst; rw [if_neg (fun h => h n0), if_neg (fun h => h n1), if_pos n2]
                  have e2 : wantA b0 b1 b2 (-1) = 2 := by rw [wantA_m]; rw [if_neg (fun h => h n0), if_neg (fun h => h n1), if_pos n2]
                  rw [e] at hM ⊢
                  rw [e2]
                  dsimp only at hM ⊢
                  refine ⟨fun x w' => x = .int .i64 (b2.xs.headD 0) ∧ Mem H w [fb b5 36 (p3 g0 g1 g2), refR b6 b0 b1 b2.pop, boxR g0 b0, boxR g1 b1, boxR g2 b2.pop] w', ?_, ?_⟩
                  · ((with_reducible (refine mop_cT trivial ?_ ?_)); (focus (first | assumption | omega | with_reducible rfl | exact fun h => Bool.noConfusion h)); (with_reducible (refine mif_true ?_; refine mop_c trivial ?_)))
                    refine mm_own (rtake2_ok hM) ?_
                    rintro v w7 ⟨rfl, hM⟩
                    ((with_reducible (refine mop_c trivial ?_; refine mop_c trivial ?_)))
                    exact ⟨rfl, hM.sub⟩
                  · rintro x u w7 ⟨rfl, hM⟩
                    ((with_reducible (refine mop_cT trivial ?_ ?_)); (focus (first | assumption | omega | with_reducible rfl | exact fun h => Bool.noConfusion h)); (with_reducible (refine mguard_yes ?_; refine mop_c trivial ?_; refine mguard_yes ?_; refine mop_c trivial ?_; refine mguard_yes ?_; refine mop_cT trivial ?_ ?_)); (focus (first | assumption | omega | with_reducible rfl | exact fun h => Bool.noConfusion h)); (with_reducible (refine mguard_yes ?_; refine mop_cT trivial ?_ ?_)); (focus (first | assumption | omega | with_reducible rfl | exact fun h => Bool.noConfusion h)); (with_reducible (refine mop_c trivial ?_; refine mguard_yes ?_; refine mop_c trivial ?_; refine mguard_yes ?_; refine mop_c trivial ?_; refine mguard_yes ?_; refine mop_cT trivial ?_ ?_)); (focus (first | assumption | omega | with_reducible rfl | exact fun h => Bool.noConfusion h)); (with_reducible (refine mop_c trivial ?_)))
                    refine ⟨by trivial, b0, b1, b2.pop, i0.succ, i1.succ, i2.pop, hM⟩
                replace n2 : b2.xs = [] := Decidable.not_not.1 n2
                have e : bfirst b0 b1 b2 = ((0, -1, false), b0, b1, b2) := by unfold bfirst; rw [if_neg (fun h => h n0), if_neg (fun h => h n1), if_neg (fun h => h n2)]
                have e2 : wantA b0 b1 b2 (-1) = -1 := by rw [wantA_m]; rw [if_neg (fun h => h n0), if_neg (fun h => h n1), if_neg (fun h => h n2)]
                rw [e] at hM ⊢
                rw [e2]
                dsimp only at hM ⊢
                refine ⟨fun x w' => x = .int .i64 0 ∧ Mem H w [fb b5 36 (p3 g0 g1 g2), refR b6 b0 b1 b2, boxR g0 b0, boxR g1 b1, boxR g2 b2] w', ?_, ?_⟩
                · ((with_reducible (refine mop_cF trivial ?_ ?_)); (focus (first | assumption | omega | with_reducible rfl | exact fun h => Bool.noConfusion h)); (with_reducible (refine mif_false ?_)))
                  exact ⟨rfl, hM.sub⟩
                · rintro x u w7 ⟨rfl, hM⟩
                  ((with_reducible (refine mop_cT trivial ?_ ?_)); (focus (first | assumption | omega | with_reducible rfl | exact fun h => Bool.noConfusion h)); (with_reducible (refine mguard_yes ?_; refine mop_c trivial ?_; refine mguard_yes ?_; refine mop_c trivial ?_; refine mguard_yes ?_; refine mop_cF trivial ?_ ?_)); (focus (first | assumption | omega | with_reducible rfl | exact fun h => Bool.noConfusion h)); (with_reducible (refine mguard_yes ?_; refine mop_cT trivial ?_ ?_)); (focus (first | assumption | omega | with_reducible rfl | exact fun h => Bool.noConfusion h)); (with_reducible (refine mop_c trivial ?_; refine mguard_yes ?_; refine mop_c trivial ?_; refine mguard_yes ?_; refine mop_c trivial ?_; refine mguard_yes ?_; refine mop_cT trivial ?_ ?_)); (focus (first | assumption | omega | with_reducible rfl | exact fun h => Bool.noConfusion h)); (with_reducible (refine mop_c trivial ?_)))
                  refine ⟨by trivial, b0, b1, b2, i0.succ, i1.succ, i2.succ, hM⟩
            · intro h3
              ((with_reducible (refine mif_false ?_; refine mop_cT trivial ?_ ?_)); (focus (first | assumption | omega | with_reducible rfl | exact fun h => Bool.noConfusion h)); (with_reducible (refine mif_true ?_; refine mop_c ?_ ?_)); (focus omega); (with_reducible (refine mop_c ?_ ?_)); (focus omega))
              have e7 : ((1 : Int) + 1) % 3 = 2 := by decide
              simp only [e7]
              refine ⟨fun x w' => ∃ (n : Nat) (f1 t1 : Bx), x = .int .i64 n ∧ n ≤ pourN b1 b2 ∧ f1 = { b1 with xs := b1.xs.drop n } ∧ t1 = { b2 with xs := b2.xs ++ b1.xs.take n } ∧ Mem H w (refR b6 b0 f1 t1 :: fb b5 36 (p3 g0 g1 g2) :: [boxR g0 b0, boxR g1 b1, boxR g2 b2]) w', fun x _ => match x with | .int _ n => pourN b1 b2 - n.toNat | _ => 0, ⟨0, b1, b2, rfl, by omega, by simp, by simp, hM.sub⟩, ?_⟩
              clear hM
              rintro x u w5 ⟨n, f1, t1, rfl, hn, hf1, ht1, hM⟩
              have hif : n ≤ b1.xs.length := by unfold pourN at hn; split at hn <;> omega
              have htl : t1.xs.length = b2.xs.length + n := by subst ht1; simp; omega
              have hfl : f1.xs.length = b1.xs.length - n := by subst hf1; simp
              have hcl : t1.cl = b2.cl := by subst ht1; rfl
              have hrm : t1.room = b2.room := by subst ht1; rfl
              have hls : t1.lost = b2.lost := by subst ht1; rfl
              have hI1 := i1
              have hI2 := i2
              unfold BInv at hI1 hI2
              refine ⟨fun w' => b2.xs.length + n < b2.room ∧ b2.cl = false ∧ n < b1.xs.length ∧ hM.now w', ?_, ?_⟩
              · have hfin : n = pourN b1 b2 → ∀ w6, Mem H w (refR b6 b0 f1 t1 :: fb b5 36 (p3 g0 g1 g2) :: [boxR g0 b0, boxR g1 b1, boxR g2 b2]) w6 → Mem H w (refR b6 b0 (pourF b1 b2) (pourT b1 b2) :: fb b5 36 (p3 g0 g1 g2) :: [boxR g0 b0, boxR g1 b1, boxR g2 b2]) w6 := fun e w6 h => by
                  subst e
                  rw [hf1, ht1] at h
                  exact h
                have hout : ∀ w6, n = pourN b1 b2 → Mem H w (refR b6 b0 f1 t1 :: fb b5 36 (p3 g0 g1 g2) :: [boxR g0 b0, boxR g1 b1, boxR g2 b2]) w6 → Mem H w (boxR g1 b1 :: boxR g2 b2 :: boxR g0 b0 :: refR b6 b0 (pourF b1 b2) (pourT b1 b2) :: fb b5 36 (p3 g0 g1 g2) :: []) w6 := fun w6 e h => (hfin e w6 h).same
                have hMr := hM
                obtain ⟨A0, c0, A1, c1, A2, c2, hM⟩ := hM.ref
                ((with_reducible (refine dp_c trivial ?_; refine dp_c trivial ?_; refine dm_ld hM ?_; refine dp_c trivial ?_)))
                cases hc : t1.cl
                · simp only [hc, Bool.not_false]
                  have hc2 : b2.cl = false := hcl.symm.trans hc
                  ((with_reducible (refine qguard_yes ?_; refine dp_c trivial ?_; refine qguard_yes ?_; refine dp_c trivial ?_; refine qguard_yes ?_; refine dp_c trivial ?_; refine qguard_yes ?_; refine dm_ld hM ?_; refine qguard_yes ?_; refine dp_c trivial ?_; refine qguard_yes ?_; refine dp_c trivial ?_; refine qguard_yes ?_; refine dp_c trivial ?_; refine qguard_yes ?_; refine dp_c trivial ?_; refine qguard_yes ?_; refine dm_ld hM ?_; refine qguard_yes ?_)))
                  refine dp_cS trivial (fun hlt1 => ?_) (fun hlt1 => ?_)
                  · ((with_reducible (refine dp_c trivial ?_; refine qguard_yes ?_; refine dp_c trivial ?_; refine qguard_yes ?_; refine dp_c trivial ?_; refine qguard_yes ?_; refine dp_c trivial ?_; refine qguard_yes ?_; refine dm_ld hM ?_; refine qguard_yes ?_; refine dp_c trivial ?_; refine qguard_yes ?_)))
                    refine dp_cS trivial (fun hlt2 => ?_) (fun hlt2 => ?_)
                    · ((with_reducible (refine dp_c trivial ?_; refine mm_end hM ?_; clear hM; intro _ hM; refine mif_true ?_)))
                      exact ⟨by omega, hc2, by omega, hM.unref⟩
                    · ((with_reducible (refine dp_c trivial ?_; refine mm_end hM ?_; clear hM; intro _ hM; refine mif_false ?_; refine dp_c trivial ?_; refine dm_ld hM ?_; refine dp_c trivial ?_; refine dm_ld hM ?_)))
                      have e : n = pourN b1 b2 := by
                        unfold pourN at hn ⊢
                        rw [if_neg (by simp [hc2])] at hn ⊢
                        omega
                      have hM := hout _ e hM.unref
                      skip
                      refine dm_own hM (fun w hM => pour_ok (f := b1) (t := b2) (by omega) hM) ?_
                      rintro v w7 ⟨rfl, hM⟩
                      ((with_reducible (refine dp_cT trivial ?_ ?_)); (focus (first | assumption | omega | with_reducible rfl | exact fun h => Bool.noConfusion h)); (with_reducible (refine mm_end hM ?_; clear hM; intro _ hM)))
                      refine ⟨by trivial, b0, (pourF b1 b2), (pourT b1 b2), i0.succ, i1.pourF, i2.pourT, ?_⟩
                      exact hM.sub
                  · ((with_reducible (refine dp_c trivial ?_; (iterate 6 refine qguard_n2 ?_); refine dp_c trivial ?_; refine mm_end hM ?_; clear hM; intro _ hM; refine mif_false ?_; refine dp_c trivial ?_; refine dm_ld hM ?_; refine dp_c trivial ?_; refine dm_ld hM ?_)))
                    have e : n = pourN b1 b2 := by
                      unfold pourN at hn ⊢
                      rw [if_neg (by simp [hc2])] at hn ⊢
                      omega
                    have hM := hout _ e hM.unref
                    skip
                    refine dm_own hM (fun w hM => pour_ok (f := b1) (t := b2) (by omega) hM) ?_
                    rintro v w7 ⟨rfl, hM⟩
                    ((with_reducible (refine dp_cT trivial ?_ ?_)); (focus (first | assumption | omega | with_reducible rfl | exact fun h => Bool.noConfusion h)); (with_reducible (refine mm_end hM ?_; clear hM; intro _ hM)))
                    refine ⟨by trivial, b0, (pourF b1 b2), (pourT b1 b2), i0.succ, i1.pourF, i2.pourT, ?_⟩
                    exact hM.sub
                · simp only [hc, Bool.not_true]
                  have hc2 : b2.cl = true := hcl.symm.trans hc
                  ((with_reducible ((iterate 10 refine qguard_n2 ?_); refine dp_c trivial ?_; (iterate 6 refine qguard_n2 ?_); refine dp_c trivial ?_; refine mm_end hM ?_; clear hM; intro _ hM; refine mif_false ?_; refine dp_c trivial ?_; refine dm_ld hM ?_; refine dp_c trivial ?_; refine dm_ld hM ?_)))
                  have e : n = pourN b1 b2 := by
                    unfold pourN at hn ⊢
                    rw [if_pos hc2] at hn ⊢
                    omega
                  have hM := hout _ e hM.unref
                  skip
                  refine dm_own hM (fun w hM => pour_ok (f := b1) (t := b2) (by omega) hM) ?_
                  rintro v w7 ⟨rfl, hM⟩
                  ((with_reducible (refine dp_cT trivial ?_ ?_)); (focus (first | assumption | omega | with_reducible rfl | exact fun h => Bool.noConfusion h)); (with_reducible (refine mm_end hM ?_; clear hM; intro _ hM)))
                  refine ⟨by trivial, b0, (pourF b1 b2), (pourT b1 b2), i0.succ, i1.pourF, i2.pourT, ?_⟩
                  exact hM.sub
              · rintro u w6 ⟨hroom, hc, hn2, hM⟩
                ((with_reducible (refine mop_c trivial ?_)))
                refine mm_own (rtake1_ok hM) ?_
                rintro v w7 ⟨rfl, hM⟩
                ((with_reducible ((iterate 3 refine mop_c trivial ?_))))
                refine mm_own (rpost2_ok (f1.xs.headD 0) (by omega) hM) ?_
                rintro v w8 ⟨rfl, hM⟩
                ((with_reducible (refine mop_c ?_ ?_)); (focus omega))
                have e2 : (bpost t1 (f1.xs.headD 0)).2 = { b2 with xs := b2.xs ++ b1.xs.take (n + 1) } := by
                  unfold bpost
                  rw [if_neg (by rw [hcl, hc]; simp), if_pos (by omega)]
                  subst hf1 ht1
                  simp only [List.append_assoc]
                  congr 2
                  rw [List.take_succ_eq_append_getElem hn2]
                  congr 1
                  rw [List.drop_eq_getElem_cons hn2]
                  rfl
                have e3 : f1.pop = { b1 with xs := b1.xs.drop (n + 1) } := by
                  subst hf1
                  simp [Bx.pop, List.tail_drop]
                rw [e2, e3] at hM
                have hlt : n + 1 ≤ pourN b1 b2 := by
                  unfold pourN
                  rw [if_neg (by simp [hc])]
                  omega
                exact ⟨⟨n + 1, _, _, by simp, hlt, rfl, rfl, hM⟩, by simp; omega⟩

    -- at 2
    · simp only [hat]
      ((with_reducible (refine mop_c trivial ?_; refine mm_ld hM ?_; refine mop_c ?_ ?_)); (focus omega))
      ((with_reducible (refine mop_cS trivial ?_ ?_)))
      · intro h0
        ((with_reducible (refine mif_true ?_)))
        obtain ⟨hA, hB, _⟩ := hM.fb2 b5 g11
        have hF := hM.fz2 (Hp.le.refl H) b5 g11
        refine ⟨Rl.fz (K2 H b5 (p3 g0 g1 g2) g11 acts[i].fds), ?_⟩
        ((with_reducible (refine dp_c trivial ?_)); (with_reducible refine dK_ldf ‹_› ‹_› ?_); (with_reducible (refine dp_c trivial ?_)); (with_reducible refine dK_ldf ‹_› ‹_› ?_))
        refine dK_own hM (fun w hM => post_ok (b := b2) acts[i].n (by have := i2.2.2; omega) (hM.at_ (boxR g2 b2))) ?_
        rintro v w5 ⟨rfl, hM⟩
        refine ⟨hM.fz2 (Hp.le.refl H) b5 g11, ?_⟩
        ((with_reducible (refine dp_c trivial ?_; refine dp_c trivial ?_)); (with_reducible refine dK_ldf ‹_› ‹_› ?_))
        refine dK_own hM (fun w hM => rpost2_ok (b2 := b2) acts[i].n (by have := i2; unfold BInv at this; omega) (hM.at_ (refR b6 b0 b1 b2))) ?_
        rintro v w6 ⟨rfl, hM⟩
        refine ⟨hM.fz2 (Hp.le.refl H) b5 g11, ?_⟩
        ((with_reducible (refine dp_cT trivial ?_ ?_)); (focus (first | assumption | omega | with_reducible rfl | exact fun h => Bool.noConfusion h)); (with_reducible (refine mm_end hM ?_; clear hM; intro _ hM)))
        refine ⟨by trivial, b0, b1, (bpost b2 acts[i].n).2, i0.succ, i1.succ, i2.post _, ?_⟩
        exact hM.sub
      · intro h0
        ((with_reducible (refine mif_false ?_)))
        ((with_reducible (refine mop_cS trivial ?_ ?_)))
        · intro h1
          ((with_reducible (refine mif_true ?_; refine mop_c trivial ?_; refine mm_ld hM ?_)))
          refine mm_own (takep_ok (b := b2) (hM.at_ (boxR g2 b2))) ?_
          rintro v w5 ⟨rfl, hM⟩
          ((with_reducible ((iterate 3 refine mop_c trivial ?_))))
          refine mm_own (rtake2_ok (hM.at_ (refR b6 b0 b1 b2))) ?_
          rintro v w6 ⟨rfl, hM⟩
          ((with_reducible (refine mop_c trivial ?_; refine mop_c trivial ?_; refine mop_cT trivial ?_ ?_)); (focus (first | assumption | omega | with_reducible rfl | exact fun h => Bool.noConfusion h)); (with_reducible (refine mguard_yes ?_; refine mop_c trivial ?_; refine mguard_yes ?_; refine mop_c trivial ?_; refine mguard_yes ?_; refine mop_cT trivial ?_ ?_)); (focus (first | assumption | omega | with_reducible rfl | exact fun h => Bool.noConfusion h)); (with_reducible (refine mop_c trivial ?_)))
          cases b2.xs.isEmpty <;>
          · simp only [Bool.not_true, Bool.not_false]
            skip
            refine ⟨by trivial, b0, b1, b2.pop, i0.succ, i1.succ, i2.pop, ?_⟩
            exact hM.sub
        · intro h1
          ((with_reducible (refine mif_false ?_)))
          ((with_reducible (refine mop_cS trivial ?_ ?_)))
          · intro h2
            ((with_reducible (refine mif_true ?_; refine mop_c trivial ?_; refine mm_ld hM ?_)))
            refine mm_own (close_ok (b := b2) (hM.at_ (boxR g2 b2))) ?_
            rintro v w5 ⟨rfl, hM⟩
            obtain ⟨A0, c0, A1, c1, A2, c2, hM⟩ := (hM.at_ (refR b6 b0 b1 b2)).ref
            ((with_reducible (refine mop_c trivial ?_; refine mop_c trivial ?_; refine mm_st hM ?_; clear hM; intro _ hM)))
            have hM := Mem.unref (b0 := b0) (b1 := b1) (b2 := { b2 with cl := true }) (A0 := A0) (c0 := c0) (A1 := A1) (c1 := c1) (A2 := A2) (c2 := c2) hM
            refine ⟨by trivial, b0, b1, { b2 with cl := true }, i0.succ, i1.succ, i2.close, ?_⟩
            exact hM.sub
          · intro h2
            ((with_reducible (refine mif_false ?_)))
            ((with_reducible (refine mop_cS trivial ?_ ?_)))
            · intro h3
              ((with_reducible (refine mif_true ?_; refine mop_c trivial ?_; refine mm_ld hM ?_; refine mop_c trivial ?_; refine mm_ld hM ?_; refine mop_c trivial ?_; refine mm_ld hM ?_; refine mm_bsl hM ?_ ?_ ?_)); (focus rfl); (focus (constructor <;> simp)); (with_reducible (clear hM; intro _ _ hM)))
              rename_i gs _
              refine mm_own (first_ok (b0 := b0) (b1 := b1) (b2 := b2) ((((hM.at_ (boxR g2 b2)).at_ (boxR g1 b1)).at_ (boxR g0 b0)).up (some ⟨gs, 0, none⟩))) ?_
              rintro v w5 ⟨rfl, hM⟩
              ((with_reducible ((iterate 3 refine mop_c trivial ?_))))
              obtain ⟨A0, c0, A1, c1, A2, c2, hM⟩ := (hM.at_ (refR b6 b0 b1 b2)).ref
              refine ⟨fun x y w' => ∃ k : Int, y = .int .i64 k ∧ -1 ≤ k ∧ k ≤ 2 ∧ x = .int .i64 (wantA b0 b1 b2 k) ∧ hM.now w', fun _ y _ => match y with | .int _ k => (k + 1).toNat | _ => 0, ⟨2, rfl, by omega, by omega, by simp [wantA], hM⟩, ?_⟩
              rintro x y u w6 ⟨q, rfl, hq1, hq2, rfl, hM⟩
              skip
              ((with_reducible (refine mop_cS trivial ?_ ?_)))
              · intro hq
                obtain rfl | rfl | rfl : q = 0 ∨ q = 1 ∨ q = 2 := by omega
                · ((with_reducible (refine mif_true ?_)))
                  refine ⟨fun x w' => x = .int .i64 (wantA b0 b1 b2 (0 - 1)) ∧ hM.now w', ?_, ?_⟩
                  · ((with_reducible (refine mop_c trivial ?_; refine mop_c trivial ?_; refine mm_ld hM ?_; refine mop_c trivial ?_)))
                    ((with_reducible (refine mop_cS trivial ?_ ?_)))
                    · intro hl
                      ((with_reducible (refine mif_true ?_)))
                      exact ⟨by rw [wantA_0, if_pos (fun e => by rw [e] at hl; simp at hl)], hM⟩
                    · intro hl
                      ((with_reducible (refine mif_false ?_)))
                      exact ⟨by rw [wantA_0, if_neg (fun e => e (List.eq_nil_of_length_eq_zero (by omega)))], hM⟩
                  · rintro x u w7 ⟨rfl, hM⟩
                    ((with_reducible (refine mop_c ?_ ?_)); (focus omega))
                    exact ⟨⟨0 - 1, rfl, by omega, by omega, rfl, hM⟩, by simp⟩
                · ((with_reducible (refine mif_true ?_)))
                  refine ⟨fun x w' => x = .int .i64 (wantA b0 b1 b2 (1 - 1)) ∧ hM.now w', ?_, ?_⟩
                  · ((with_reducible (refine mop_c trivial ?_; refine mop_c trivial ?_; refine mm_ld hM ?_; refine mop_c trivial ?_)))
                    ((with_reducible (refine mop_cS trivial ?_ ?_)))
                    · intro hl
                      ((with_reducible (refine mif_true ?_)))
                      exact ⟨by rw [wantA_1, if_pos (fun e => by rw [e] at hl; simp at hl)], hM⟩
                    · intro hl
                      ((with_reducible (refine mif_false ?_)))
                      exact ⟨by rw [wantA_1, if_neg (fun e => e (List.eq_nil_of_length_eq_zero (by omega)))], hM⟩
                  · rintro x u w7 ⟨rfl, hM⟩
                    ((with_reducible (refine mop_c ?_ ?_)); (focus omega))
                    exact ⟨⟨1 - 1, rfl, by omega, by omega, rfl, hM⟩, by simp⟩
                · ((with_reducible (refine mif_true ?_)))
                  refine ⟨fun x w' => x = .int .i64 (wantA b0 b1 b2 (2 - 1)) ∧ hM.now w', ?_, ?_⟩
                  · ((with_reducible (refine mop_c trivial ?_; refine mop_c trivial ?_; refine mm_ld hM ?_; refine mop_c trivial ?_)))
                    ((with_reducible (refine mop_cS trivial ?_ ?_)))
                    · intro hl
                      ((with_reducible (refine mif_true ?_)))
                      exact ⟨by rw [wantA_2, if_pos (fun e => by rw [e] at hl; simp at hl)], hM⟩
                    · intro hl
                      ((with_reducible (refine mif_false ?_)))
                      exact ⟨by rw [wantA_2, if_neg (fun e => e (List.eq_nil_of_length_eq_zero (by omega)))], hM⟩
                  · rintro x u w7 ⟨rfl, hM⟩
                    ((with_reducible (refine mop_c ?_ ?_)); (focus omega))
                    exact ⟨⟨2 - 1, rfl, by omega, by omega, rfl, hM⟩, by simp⟩
              · intro hq
                obtain rfl : q = -1 := by omega
                ((with_reducible (refine mif_false ?_)))
                have hM := hM.unref
                by_cases n0 : b0.xs ≠ []
                · have e : bfirst b0 b1 b2 = ((b0.xs.headD 0, 0, true), b0.pop, b1, b2) := by unfold bfirst; rw [if_pos n0]
                  have e2 : wantA b0 b1 b2 (-1) = 0 := by rw [wantA_m]; rw [if_pos n0]
                  rw [e] at hM ⊢
                  rw [e2]
                  dsimp only at hM ⊢
                  refine ⟨fun x w' => x = .int .i64 (b0.xs.headD 0) ∧ Mem H w [fb b5 36 (p3 g0 g1 g2), refR b6 b0.pop b1 b2, boxR g0 b0.pop, boxR g1 b1, boxR g2 b2] w', ?_, ?_⟩
                  · ((with_reducible (refine mop_cT trivial ?_ ?_)); (focus (first | assumption | omega | with_reducible rfl | exact fun h => Bool.noConfusion h)); (with_reducible (refine mif_true ?_; refine mop_c trivial ?_)))
                    refine mm_own (rtake0_ok hM) ?_
                    rintro v w7 ⟨rfl, hM⟩
                    ((with_reducible (refine mop_c trivial ?_; refine mop_c trivial ?_)))
                    exact ⟨rfl, hM.sub⟩
                  · rintro x u w7 ⟨rfl, hM⟩
                    ((with_reducible (refine mop_cT trivial ?_ ?_)); (focus (first | assumption | omega | with_reducible rfl | exact fun h => Bool.noConfusion h)); (with_reducible (refine mguard_yes ?_; refine mop_c trivial ?_; refine mguard_yes ?_; refine mop_c trivial ?_; refine mguard_yes ?_; refine mop_cT trivial ?_ ?_)); (focus (first | assumption | omega | with_reducible rfl | exact fun h => Bool.noConfusion h)); (with_reducible (refine mguard_yes ?_; refine mop_cT trivial ?_ ?_)); (focus (first | assumption | omega | with_reducible rfl | exact fun h => Bool.noConfusion h)); (with_reducible (refine mop_c trivial ?_; refine mguard_yes ?_; refine mop_c trivial ?_; refine mguard_yes ?_; refine mop_c trivial ?_; refine mguard_yes ?_; refine mop_cT trivial ?_ ?_)); (focus (first | assumption | omega | with_reducible rfl | exact fun h => Bool.noConfusion h)); (with_reducible (refine mop_c trivial ?_)))
                    refine ⟨by trivial, b0.pop, b1, b2, i0.pop, i1.succ, i2.succ, hM⟩
                replace n0 : b0.xs = [] := Decidable.not_not.1 n0
                by_cases n1 : b1.xs ≠ []
                · have e : bfirst b0 b1 b2 = ((b1.xs.headD 0, 1, true), b0, b1.pop, b2) := by unfold bfirst; rw [if_neg (fun h => h n0), if_pos n1]
                  have e2 : wantA b0 b1 b2 (-1) = 1 := by rw [wantA_m]; rw [if_neg (fun h => h n0), if_pos n1]
                  rw [e] at hM ⊢
                  rw [e2]
                  dsimp only at hM ⊢
                  refine ⟨fun x w' => x = .int .i64 (b1.xs.headD 0) ∧ Mem H w [fb b5 36 (p3 g0 g1 g2), refR b6 b0 b1.pop b2, boxR g0 b0, boxR g1 b1.pop, boxR g2 b2] w', ?_, ?_⟩
                  · ((with_reducible (refine mop_cT trivial ?_ ?_)); (focus (first | assumption | omega | with_reducible rfl | exact fun h => Bool.noConfusion h)); (with_reducible (refine mif_true ?_; refine mop_c trivial ?_)))
                    refine mm_own (rtake1_ok hM) ?_
                    rintro v w7 ⟨rfl, hM⟩
                    ((with_reducible (refine mop_c trivial ?_; refine mop_c trivial ?_)))
                    exact ⟨rfl, hM.sub⟩
                  · rintro x u w7 ⟨rfl, hM⟩
                    ((with_reducible (refine mop_cT trivial ?_ ?_)); (focus (first | assumption | omega | with_reducible rfl | exact fun h => Bool.noConfusion h)); (with_reducible (refine mguard_yes ?_; refine mop_c trivial ?_; refine mguard_yes ?_; refine mop_c trivial ?_; refine mguard_yes ?_; refine mop_cT trivial ?_ ?_)); (focus (first | assumption | omega | with_reducible rfl | exact fun h => Bool.noConfusion h)); (with_reducible (refine mguard_yes ?_; refine mop_cT trivial ?_ ?_)); (focus (first | assumption | omega | with_reducible rfl | exact fun h => Bool.noConfusion h)); (with_reducible (refine mop_c trivial ?_; refine mguard_yes ?_; refine mop_c trivial ?_; refine mguard_yes ?_; refine mop_c trivial ?_; refine mguard_yes ?_; refine mop_cT trivial ?_ ?_)); (focus (first | assumption | omega | with_reducible rfl | exact fun h => Bool.noConfusion h)); (with_reducible (refine mop_c trivial ?_)))
                    refine ⟨by trivial, b0, b1.pop, b2, i0.succ, i1.pop, i2.succ, hM⟩
                replace n1 : b1.xs = [] := Decidable.not_not.1 n1
                by_cases n2 : b2.xs ≠ []
                · have e : bfirst b0 b1 b2 = ((b2.xs.headD 0, 2, true), b0, b1, b2.pop) := by unfold bfirst; rw [if_neg (fun h => h n0), if_neg (fun h => h n1), if_pos n2]
                  have e2 : wantA b0 b1 b2 (-1) = 2 := by rw [wantA_m]; rw [if_neg (fun h => h n0), if_neg (fun h => h n1), if_pos n2]
                  rw [e] at hM ⊢
                  rw [e2]
                  dsimp only at hM ⊢
                  refine ⟨fun x w' => x = .int .i64 (b2.xs.headD 0) ∧ Mem H w [fb b5 36 (p3 g0 g1 g2), refR b6 b0 b1 b2.pop, boxR g0 b0, boxR g1 b1, boxR g2 b2.pop] w', ?_, ?_⟩
                  · ((with_reducible (refine mop_cT trivial ?_ ?_)); (focus (first | assumption | omega | with_reducible rfl | exact fun h => Bool.noConfusion h)); (with_reducible (refine mif_true ?_; refine mop_c trivial ?_)))
                    refine mm_own (rtake2_ok hM) ?_
                    rintro v w7 ⟨rfl, hM⟩
                    ((with_reducible (refine mop_c trivial ?_; refine mop_c trivial ?_)))
                    exact ⟨rfl, hM.sub⟩
                  · rintro x u w7 ⟨rfl, hM⟩
                    ((with_reducible (refine mop_cT trivial ?_ ?_)); (focus (first | assumption | omega | with_reducible rfl | exact fun h => Bool.noConfusion h)); (with_reducible (refine mguard_yes ?_; refine mop_c trivial ?_; refine mguard_yes ?_; refine mop_c trivial ?_; refine mguard_yes ?_; refine mop_cT trivial ?_ ?_)); (focus (first | assumption | omega | with_reducible rfl | exact fun h => Bool.noConfusion h)); (with_reducible (refine mguard_yes ?_; refine mop_cT trivial ?_ ?_)); (focus (first | assumption | omega | with_reducible rfl | exact fun h => Bool.noConfusion h)); (with_reducible (refine mop_c trivial ?_; refine mguard_yes ?_; refine mop_c trivial ?_; refine mguard_yes ?_; refine mop_c trivial ?_; refine mguard_yes ?_; refine mop_cT trivial ?_ ?_)); (focus (first | assumption | omega | with_reducible rfl | exact fun h => Bool.noConfusion h)); (with_reducible (refine mop_c trivial ?_)))
                    refine ⟨by trivial, b0, b1, b2.pop, i0.succ, i1.succ, i2.pop, hM⟩
                replace n2 : b2.xs = [] := Decidable.not_not.1 n2
                have e : bfirst b0 b1 b2 = ((0, -1, false), b0, b1, b2) := by unfold bfirst; rw [if_neg (fun h => h n0), if_neg (fun h => h n1), if_neg (fun h => h n2)]
                have e2 : wantA b0 b1 b2 (-1) = -1 := by rw [wantA_m]; rw [if_neg (fun h => h n0), if_neg (fun h => h n1), if_neg (fun h => h n2)]
                rw [e] at hM ⊢
                rw [e2]
                dsimp only at hM ⊢
                refine ⟨fun x w' => x = .int .i64 0 ∧ Mem H w [fb b5 36 (p3 g0 g1 g2), refR b6 b0 b1 b2, boxR g0 b0, boxR g1 b1, boxR g2 b2] w', ?_, ?_⟩
                · ((with_reducible (refine mop_cF trivial ?_ ?_)); (focus (first | assumption | omega | with_reducible rfl | exact fun h => Bool.noConfusion h)); (with_reducible (refine mif_false ?_)))
                  exact ⟨rfl, hM.sub⟩
                · rintro x u w7 ⟨rfl, hM⟩
                  ((with_reducible (refine mop_cT trivial ?_ ?_)); (focus (first | assumption | omega | with_reducible rfl | exact fun h => Bool.noConfusion h)); (with_reducible (refine mguard_yes ?_; refine mop_c trivial ?_; refine mguard_yes ?_; refine mop_c trivial ?_; refine mguard_yes ?_; refine mop_cF trivial ?_ ?_)); (focus (first | assumption | omega | with_reducible rfl | exact fun h => Bool.noConfusion h)); (with_reducible (refine mguard_yes ?_; refine mop_cT trivial ?_ ?_)); (focus (first | assumption | omega | with_reducible rfl | exact fun h => Bool.noConfusion h)); (with_reducible (refine mop_c trivial ?_; refine mguard_yes ?_; refine mop_c trivial ?_; refine mguard_yes ?_; refine mop_c trivial ?_; refine mguard_yes ?_; refine mop_cT trivial ?_ ?_)); (focus (first | assumption | omega | with_reducible rfl | exact fun h => Bool.noConfusion h)); (with_reducible (refine mop_c trivial ?_)))
                  refine ⟨by trivial, b0, b1, b2, i0.succ, i1.succ, i2.succ, hM⟩
            · intro h3
              ((with_reducible (refine mif_false ?_; refine mop_cT trivial ?_ ?_)); (focus (first | assumption | omega | with_reducible rfl | exact fun h => Bool.noConfusion h)); (with_reducible (refine mif_true ?_; refine mop_c ?_ ?_)); (focus omega); (with_reducible (refine mop_c ?_ ?_)); (focus omega))
              have e7 : ((2 : Int) + 1) % 3 = 0 := by decide
              simp only [e7]
              refine ⟨fun x w' => ∃ (n : Nat) (f1 t1 : Bx), x = .int .i64 n ∧ n ≤ pourN b2 b0 ∧ f1 = { b2 with xs := b2.xs.drop n } ∧ t1 = { b0 with xs := b0.xs ++ b2.xs.take n } ∧ Mem H w (refR b6 t1 b1 f1 :: fb b5 36 (p3 g0 g1 g2) :: [boxR g0 b0, boxR g1 b1, boxR g2 b2]) w', fun x _ => match x with | .int _ n => pourN b2 b0 - n.toNat | _ => 0, ⟨0, b2, b0, rfl, by omega, by simp, by simp, hM.sub⟩, ?_⟩
              clear hM
              rintro x u w5 ⟨n, f1, t1, rfl, hn, hf1, ht1, hM⟩
              have hif : n ≤ b2.xs.length := by unfold pourN at hn; split at hn <;> omega
              have htl : t1.xs.length = b0.xs.length + n := by subst ht1; simp; omega
              have hfl : f1.xs.length = b2.xs.length - n := by subst hf1; simp
              have hcl : t1.cl = b0.cl := by subst ht1; rfl
              have hrm : t1.room = b0.room := by subst ht1; rfl
              have hls : t1.lost = b0.lost := by subst ht1; rfl
              have hI1 := i2
              have hI2 := i0
              unfold BInv at hI1 hI2
              refine ⟨fun w' => b0.xs.length + n < b0.room ∧ b0.cl = false ∧ n < b2.xs.length ∧ hM.now w', ?_, ?_⟩
              · have hfin : n = pourN b2 b0 → ∀ w6, Mem H w (refR b6 t1 b1 f1 :: fb b5 36 (p3 g0 g1 g2) :: [boxR g0 b0, boxR g1 b1, boxR g2 b2]) w6 → Mem H w (refR b6 (pourT b2 b0) b1 (pourF b2 b0) :: fb b5 36 (p3 g0 g1 g2) :: [boxR g0 b0, boxR g1 b1, boxR g2 b2]) w6 := fun e w6 h => by
                  subst e
                  rw [hf1, ht1] at h
                  exact h
                have hout : ∀ w6, n = pourN b2 b0 → Mem H w (refR b6 t1 b1 f1 :: fb b5 36 (p3 g0 g1 g2) :: [boxR g0 b0, boxR g1 b1, boxR g2 b2]) w6 → Mem H w (boxR g2 b2 :: boxR g0 b0 :: boxR g1 b1 :: refR b6 (pourT b2 b0) b1 (pourF b2 b0) :: fb b5 36 (p3 g0 g1 g2) :: []) w6 := fun w6 e h => (hfin e w6 h).same
                have hMr := hM
                obtain ⟨A0, c0, A1, c1, A2, c2, hM⟩ := hM.ref
                ((with_reducible (refine dp_c trivial ?_; refine dp_c trivial ?_; refine dm_ld hM ?_; refine dp_c trivial ?_)))
                cases hc : t1.cl
                · simp only [hc, Bool.not_false]
                  have hc2 : b0.cl = false := hcl.symm.trans hc
                  ((with_reducible (refine qguard_yes ?_; refine dp_c trivial ?_; refine qguard_yes ?_; refine dp_c trivial ?_; refine qguard_yes ?_; refine dp_c trivial ?_; refine qguard_yes ?_; refine dm_ld hM ?_; refine qguard_yes ?_; refine dp_c trivial ?_; refine qguard_yes ?_; refine dp_c trivial ?_; refine qguard_yes ?_; refine dp_c trivial ?_; refine qguard_yes ?_; refine dp_c trivial ?_; refine qguard_yes ?_; refine dm_ld hM ?_; refine qguard_yes ?_)))
                  refine dp_cS trivial (fun hlt1 => ?_) (fun hlt1 => ?_)
                  · ((with_reducible (refine dp_c trivial ?_; refine qguard_yes ?_; refine dp_c trivial ?_; refine qguard_yes ?_; refine dp_c trivial ?_; refine qguard_yes ?_; refine dp_c trivial ?_; refine qguard_yes ?_; refine dm_ld hM ?_; refine qguard_yes ?_; refine dp_c trivial ?_; refine qguard_yes ?_)))
                    refine dp_cS trivial (fun hlt2 => ?_) (fun hlt2 => ?_)
                    · ((with_reducible (refine dp_c trivial ?_; refine mm_end hM ?_; clear hM; intro _ hM; refine mif_true ?_)))
                      exact ⟨by omega, hc2, by omega, hM.unref⟩
                    · ((with_reducible (refine dp_c trivial ?_; refine mm_end hM ?_; clear hM; intro _ hM; refine mif_false ?_; refine dp_c trivial ?_; refine dm_ld hM ?_; refine dp_c trivial ?_; refine dm_ld hM ?_)))
                      have e : n = pourN b2 b0 := by
                        unfold pourN at hn ⊢
                        rw [if_neg (by simp [hc2])] at hn ⊢
                        omega
                      have hM := hout _ e hM.unref
                      skip
                      refine dm_own hM (fun w hM => pour_ok (f := b2) (t := b0) (by omega) hM) ?_
                      rintro v w7 ⟨rfl, hM⟩
                      ((with_reducible (refine dp_cT trivial ?_ ?_)); (focus (first | assumption | omega | with_reducible rfl | exact fun h => Bool.noConfusion h)); (with_reducible (refine mm_end hM ?_; clear hM; intro _ hM)))
                      refine ⟨by trivial, (pourT b2 b0), b1, (pourF b2 b0), i0.pourT, i1.succ, i2.pourF, ?_⟩
                      exact hM.sub
                  · ((with_reducible (refine dp_c trivial ?_; (iterate 6 refine qguard_n2 ?_); refine dp_c trivial ?_; refine mm_end hM ?_; clear hM; intro _ hM; refine mif_false ?_; refine dp_c trivial ?_; refine dm_ld hM ?_; refine dp_c trivial ?_; refine dm_ld hM ?_)))
                    have e : n = pourN b2 b0 := by
                      unfold pourN at hn ⊢
                      rw [if_neg (by simp [hc2])] at hn ⊢
                      omega
                    have hM := hout _ e hM.unref
                    skip
                    refine dm_own hM (fun w hM => pour_ok (f := b2) (t := b0) (by omega) hM) ?_
                    rintro v w7 ⟨rfl, hM⟩
                    ((with_reducible (refine dp_cT trivial ?_ ?_)); (focus (first | assumption | omega | with_reducible rfl | exact fun h => Bool.noConfusion h)); (with_reducible (refine mm_end hM ?_; clear hM; intro _ hM)))
                    refine ⟨by trivial, (pourT b2 b0), b1, (pourF b2 b0), i0.pourT, i1.succ, i2.pourF, ?_⟩
                    exact hM.sub
                · simp only [hc, Bool.not_true]
                  have hc2 : b0.cl = true := hcl.symm.trans hc
                  ((with_reducible ((iterate 10 refine qguard_n2 ?_); refine dp_c trivial ?_; (iterate 6 refine qguard_n2 ?_); refine dp_c trivial ?_; refine mm_end hM ?_; clear hM; intro _ hM; refine mif_false ?_; refine dp_c trivial ?_; refine dm_ld hM ?_; refine dp_c trivial ?_; refine dm_ld hM ?_)))
                  have e : n = pourN b2 b0 := by
                    unfold pourN at hn ⊢
                    rw [if_pos hc2] at hn ⊢
                    omega
                  have hM := hout _ e hM.unref
                  skip
                  refine dm_own hM (fun w hM => pour_ok (f := b2) (t := b0) (by omega) hM) ?_
                  rintro v w7 ⟨rfl, hM⟩
                  ((with_reducible (refine dp_cT trivial ?_ ?_)); (focus (first | assumption | omega | with_reducible rfl | exact fun h => Bool.noConfusion h)); (with_reducible (refine mm_end hM ?_; clear hM; intro _ hM)))
                  refine ⟨by trivial, (pourT b2 b0), b1, (pourF b2 b0), i0.pourT, i1.succ, i2.pourF, ?_⟩
                  exact hM.sub
              · rintro u w6 ⟨hroom, hc, hn2, hM⟩
                ((with_reducible (refine mop_c trivial ?_)))
                refine mm_own (rtake2_ok hM) ?_
                rintro v w7 ⟨rfl, hM⟩
                ((with_reducible ((iterate 3 refine mop_c trivial ?_))))
                refine mm_own (rpost0_ok (f1.xs.headD 0) (by omega) hM) ?_
                rintro v w8 ⟨rfl, hM⟩
                ((with_reducible (refine mop_c ?_ ?_)); (focus omega))
                have e2 : (bpost t1 (f1.xs.headD 0)).2 = { b0 with xs := b0.xs ++ b2.xs.take (n + 1) } := by
                  unfold bpost
                  rw [if_neg (by rw [hcl, hc]; simp), if_pos (by omega)]
                  subst hf1 ht1
                  simp only [List.append_assoc]
                  congr 2
                  rw [List.take_succ_eq_append_getElem hn2]
                  congr 1
                  rw [List.drop_eq_getElem_cons hn2]
                  rfl
                have e3 : f1.pop = { b2 with xs := b2.xs.drop (n + 1) } := by
                  subst hf1
                  simp [Bx.pop, List.tail_drop]
                rw [e2, e3] at hM
                have hlt : n + 1 ≤ pourN b2 b0 := by
                  unfold pourN
                  rw [if_neg (by simp [hc])]
                  omega
                exact ⟨⟨n + 1, _, _, by simp, hlt, rfl, rfl, hM⟩, by simp; omega⟩

  · intro hge
    ((with_reducible (refine mif_false ?_)))
    exact ⟨rfl, hM.st⟩
end
end Go.Proofs.Ytihelggfpeokbaa
