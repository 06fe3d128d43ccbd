/- Plea: the laws' walks: the example, PleaNil. -/
import Derived.Test.YthnjpglpglbbkaaPlea4
namespace Go.Proofs.Ythnjpglpglbbkaa
open Go.RowKit

abbrev F8 := {l : List Int // l.length = 8}
instance (t : F8) : FdOk (.arr 8 (t.1.map (Value.int .i64))) := ⟨by simp [Fd.cells, Fd.size, t.2], fun u hu => by
    simp only [Fd.cells, List.mem_map] at hu
    obtain ⟨_, _, rfl⟩ := hu
    rfl⟩
/-- A call: what to do, its change, head, numbers, what fits. -/
structure PAct where
  op : Int
  chg : Chg
  head : H32
  A : Option Addr
  c : Nat
  seqs : List Int
  fits : F8
abbrev PAct.fds (x : PAct) : List Fd := [.one (.int .u8 x.op), .one (.int .i64 x.chg.kind), .one (.int .i64 x.chg.name), .arr 32 (u8s x.chg.pub.1), .arr 32 (u8s x.head.1), .one (.slice x.A x.seqs.length x.c), .arr 8 (x.fits.1.map (Value.int .i64))]
abbrev av (x : PAct) : Value := .agg (fl x.fds).toArray
section
variable {H : Hp} {w0 w : World} {L R : List Res}
abbrev pex : Chg := ⟨0, 1, hzero⟩
abbrev z8 : F8 := ⟨[0, 0, 0, 0, 0, 0, 0, 0], rfl⟩
abbrev ff (t : F8) (c : Chg) : Int := t.1.getD (slot c) 0
theorem ask1_eq : askL 0 [] pex (hset hzero 0 1) = (1, [⟨1, pex, hset hzero 0 1, 0⟩], 1, 0) := by decide
theorem mv1_eq : mvs (hset hzero 0 2) [] (ff z8) [⟨1, pex, hset hzero 0 1, 0⟩] [] = ⟨[⟨1, pex, hset hzero 0 2, 0⟩], [⟨1, pex, hset hzero 0 2, 0⟩], []⟩ := by
  simp only [mvs, List.foldl_cons, List.foldl_nil]
  rw [mv1, if_neg (by decide), if_neg (by decide)]
  rfl
theorem mv2_eq : mvs (hset hzero 0 2) [] (ff z8) [⟨1, pex, hset hzero 0 2, 0⟩] [] = ⟨[⟨1, pex, hset hzero 0 2, 0⟩], [], []⟩ := by
  simp only [mvs, List.foldl_cons, List.foldl_nil]
  rw [mv1, if_pos (by decide)]
  rfl
theorem trim_nil : trim [] = [] := rfl
theorem pawake_ok (hf : Fz H w) : Calls Try.prog 60 #[] w fun en w' => en = .returned (.bool true) ∧ St w [] w' := by
  have hM := Mem.start hf
  refine C_bevylaw17_awake ?_
  unfold F_bevylaw17_awake
  refine mm_own (pnew_ok hM) ?_
  rintro v w1 ⟨g, rfl, hM⟩
  ((with_reducible (refine mop_c trivial ?_; refine mop_c ?_ ?_)); (focus (simp only [and_true]; omega)))
  refine mm_own (ask_ok g 0 [] [] pex (hset hzero 0 1) (by omega) hM) ?_
  rintro v w2 ⟨rfl, hM⟩
  rw [ask1_eq] at hM ⊢
  ((with_reducible (refine mop_c trivial ?_; refine mop_c trivial ?_; refine mop_c ?_ ?_)); (focus (simp only [and_true]; omega)); (with_reducible (refine mop_c trivial ?_)))
  refine mm_pure hM (mkfits_ok z8.1 z8.2 hM.fz) (fun w3 hM => ?_)
  refine mm_own (move_ok g 1 [⟨1, pex, hset hzero 0 1, 0⟩] [] (hset hzero 0 2) none 0 [] (tfn z8.1) (ff z8) (clo_fits _ z8.2) (by simp) (by simp) (by simp) (Sl.nil _ _ _) hM) ?_
  rintro v w4 ⟨H', A, n, c, rfl, hn, hl, hs, hM⟩
  rw [mv1_eq] at hn hs hM
  rw [trim_nil] at hM
  have hn : n = 1 := hn
  subst hn
  ((with_reducible (refine mop_c ?_ ?_)); (focus (simp only [and_true]; omega)); (with_reducible (refine mop_c trivial ?_)))
  refine mm_pure hM (mkfits_ok z8.1 z8.2 hM.fz) (fun w5 hM => ?_)
  refine mm_own (move_ok g 1 [⟨1, pex, hset hzero 0 2, 0⟩] [] (hset hzero 0 2) none 0 [] (tfn z8.1) (ff z8) (clo_fits _ z8.2) (by simp) (by simp) (by simp) (Sl.nil _ _ _) hM) ?_
  rintro v w6 ⟨H2, A2, n2, c2, rfl, hn2, hl2, hs2, hM⟩
  rw [mv2_eq] at hn2 hs2 hM
  rw [trim_nil] at hM
  have hn2 : n2 = 0 := hn2
  subst hn2
  clear hs2
  have hs : Sl H2 68 A ([(⟨1, pex, hset hzero 0 2, 0⟩ : Ple)].map Ple.fds) := hs.mono hl2.le
  obtain ⟨xs, hxs, hx1⟩ : ∃ xs : List Ple, xs = [⟨1, pex, hset hzero 0 2, 0⟩] ∧ xs.length = 1 := ⟨_, rfl, rfl⟩
  rw [← hxs] at hs
  refine mop_cT trivial rfl ?_
  ((with_reducible (refine mguard_yes ?_; refine mop_c trivial ?_; refine mguard_yes ?_)))
  refine mop_cT trivial rfl ?_
  ((with_reducible (refine mop_c trivial ?_; refine mguard_yes ?_; refine mop_c trivial ?_; refine mguard_yes ?_; refine mop_c trivial ?_; refine mguard_yes ?_; refine mop_cT trivial ?_ ?_)); (focus (first | assumption | omega)); (with_reducible (refine mop_c trivial ?_; refine mguard_yes ?_; refine mop_c trivial ?_; refine mguard_yes ?_)); (with_reducible refine mm_ixs ‹_› ?_ ?_ ?_); (focus (simp only [List.length_map]; omega)); (focus (simp only [List.length_map]; first | done | omega)); (with_reducible (intro _ _ hA)); (cases hA); (with_reducible (refine mguard_yes ?_; refine mop_c trivial ?_; refine mguard_yes ?_)); (with_reducible refine mm_lds hM ‹_› (map_at ?_) ?_); (focus omega); (with_reducible (refine mguard_yes ?_; refine mop_c ?_ ?_)); (focus (simp only [and_true]; omega)); (with_reducible (refine mguard_yes ?_)))
  have hep : (xs[Int.toNat 0]'(by simp; omega)).epoch = hset hzero 0 2 := by subst hxs; rfl
  rw [hep]
  refine mop_cT trivial rfl ?_
  ((with_reducible (refine mop_c trivial ?_; refine mguard_yes ?_; refine mop_c trivial ?_; refine mguard_yes ?_; refine mop_c trivial ?_; refine mguard_yes ?_; refine mop_cT trivial ?_ ?_)); (focus (first | assumption | omega)); (with_reducible (refine mop_c trivial ?_)))
  exact ⟨rfl, hM.st⟩
theorem pleaNil_ok (x : PAct) (hf : Fz H w) : Calls Try.prog 12 #[av x] w fun en w' => en = .returned (.bool true) ∧ St w [] w' := by
  have hM := Mem.start hf
  refine C_bevylaw17_PleaNil ?_
  unfold F_bevylaw17_PleaNil
  ((with_reducible (refine mm_box hM ?_; clear hM; intro _ _ hM; refine mop_c trivial ?_; refine mm_ld hM ?_; refine mop_c trivial ?_)))
  ((with_reducible (refine mop_cS trivial ?_ ?_)))
  · intro hgt
    ((with_reducible (refine mif_true ?_)))
    refine mm_pure hM (pawake_ok hM.fz) (fun w2 hM => ?_)
    exact ⟨rfl, hM.st⟩
  · intro hgt
    ((with_reducible (refine mif_false ?_; refine mop_c trivial ?_; refine mm_ld hM ?_; refine mop_c trivial ?_; refine mm_ld hM ?_)))
    refine mm_pure hM (nask_ok x.chg x.head hM.fz) (fun w2 hM => ?_)
    ((with_reducible ((iterate 3 refine mop_c trivial ?_); refine mm_ld hM ?_)))
    refine mm_pure hM (nsettle_ok x.A x.seqs.length x.c hM.fz) (fun w3 hM => ?_)
    skip
    refine dm_pure hM (fun w hM => pawake_ok hM.fz) (fun w4 _ hM => ?_)
    ((with_reducible (refine qguard_yes ?_; refine dp_c trivial ?_; refine qguard_yes ?_; refine dp_cT trivial ?_ ?_)); (focus (first | assumption | omega)); (with_reducible (refine dp_c trivial ?_; refine qguard_yes ?_; refine dp_c trivial ?_; refine qguard_yes ?_; refine dp_cT trivial ?_ ?_)); (focus (first | assumption | omega)); (with_reducible (refine dp_c trivial ?_; refine qguard_yes ?_; refine dp_c trivial ?_; refine qguard_yes ?_; refine dp_c trivial ?_; refine qguard_yes ?_; refine dm_ld hM ?_; refine qguard_yes ?_; refine dp_c trivial ?_; refine qguard_yes ?_; refine dm_ld hM ?_; refine qguard_yes ?_; refine dp_c trivial ?_; refine qguard_yes ?_; refine dm_ld hM ?_; refine mguard_yes ?_)))
    refine dm_pure hM (fun w hM => mkfits_ok x.fits.1 x.fits.2 hM.fz) (fun w5 _ hM => ?_)
    ((with_reducible (refine mguard_yes ?_)))
    refine dm_pure hM (fun w hM => nmove_ok x.head _ _ hM.fz) (fun w6 _ hM => ?_)
    ((with_reducible (refine qguard_yes ?_; refine dp_c trivial ?_; refine qguard_yes ?_; refine dp_cT trivial ?_ ?_)); (focus (first | assumption | omega)); (with_reducible (refine dp_c trivial ?_; refine qguard_yes ?_; refine dp_c trivial ?_; refine mguard_yes ?_)))
    refine dm_pure hM (fun w hM => nopen_ok hM.fz) (fun w6 _ hM => ?_)
    ((with_reducible (refine qguard_yes ?_; refine dp_c trivial ?_; refine qguard_yes ?_; refine dp_cT trivial ?_ ?_)); (focus (first | assumption | omega)); (with_reducible (refine dp_c trivial ?_; refine qguard_yes ?_; refine dp_c trivial ?_; refine mguard_yes ?_)))
    refine dm_pure hM (fun w hM => ndropped_ok hM.fz) (fun w6 _ hM => ?_)
    ((with_reducible (refine qguard_yes ?_; refine dp_c trivial ?_; refine qguard_yes ?_; refine dp_cT trivial ?_ ?_)); (focus (first | assumption | omega)); (with_reducible (refine dp_c trivial ?_; refine qguard_yes ?_; refine dp_c trivial ?_; refine mguard_yes ?_)))
    refine dm_pure hM (fun w hM => nlast_ok hM.fz) (fun w6 _ hM => ?_)
    ((with_reducible (refine qguard_yes ?_; refine dp_cT trivial ?_ ?_)); (focus (first | assumption | omega)); (with_reducible (refine dp_c trivial ?_; refine mm_end hM ?_; clear hM; intro _ hM)))
    exact ⟨rfl, hM.st⟩
end
end Go.Proofs.Ythnjpglpglbbkaa
