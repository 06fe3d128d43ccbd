/- Dock: nil boxes, the walk of DockNil. -/
import Derived.Test.YtihelggfpeokbaaDock3
namespace Go.Proofs.Ytihelggfpeokbaa
open Go.RowKit

section
variable {H : Hp} {w0 w : World} {L R : List Res} {g : Nat}
abbrev es : Value := .string (ByteArray.mk #[])
theorem mop_peq {P : Program} {tt e : Nat} {g : Nat} {cc : Bool} {K : Value → World → Prop} {X : List PanicEntry → World → Prop} (ht : P.underlying tt = some (.pointer e)) (hz : ((P.info? e).map fun i => Nat.beq i.size 0) = some false) (hk : K (.bool true) w) :
    mop P (o_bin .eql tt cc (.pointer (some ⟨g, 0, none⟩)) (.pointer (some ⟨g, 0, none⟩))) w K X := by
  obtain ⟨i, hi, hz⟩ := Option.map_eq_some_iff.1 hz
  have hz : i.size ≠ 0 := fun e => by rw [e] at hz; cases hz
  exact mop_run (run_o_eql (b := true) (fun _ _ => by simp only [eqGuard]; rfl) (by simp only [binOp]) (run_equalIn_ptr 9999 ht hi hz (run_sameAddr_same w _))) hk
theorem snew_ok (room : Int) (h1 : 1 ≤ room ∧ room ≤ 65536) (hM : Mem H w0 L w) : Calls Try.prog 17 #[.int .i64 room] w fun en w' => ∃ v, en = .returned v ∧ ∃ g c s, v = .tuple #[.pointer (some ⟨g, 0, none⟩), .int .i64 0] ∧ Mem H w0 (fb g 76 (bxf c s false 0) :: chR c room.toNat [] false :: chR s 0 [] false :: L) w' := by
  refine C_dock_New_string ?_
  unfold F_dock_New_string
  refine ⟨fun x w' => x = .bool false ∧ hM.now w', ?_, ?_⟩
  · ((with_reducible (refine mop_cF trivial ?_ ?_)); (focus (first | assumption | omega | with_reducible rfl | exact fun h => Bool.noConfusion h)); (with_reducible (refine mguard_yes ?_; refine mop_c trivial ?_; refine mguard_yes ?_; refine mop_cF trivial ?_ ?_)); (focus (first | assumption | omega | with_reducible rfl | exact fun h => Bool.noConfusion h)); (with_reducible (refine mop_c trivial ?_)))
    exact ⟨rfl, hM⟩
  rintro x u w1 ⟨rfl, hM⟩
  ((with_reducible (refine mif_false ?_)))
  refine ⟨?_, ?_⟩
  · refine dm_mkch hM (by omega) (fun c w2 hM => ?_)
    refine dm_mkch hM (by omega) (fun s w3 hM => ?_)
    ((with_reducible (refine dp_c trivial ?_; refine dm_box hM ?_; clear hM; intro _ _ hM; refine mm_end hM ?_; clear hM; intro _ hM)))
    exact ⟨_, rfl, _, _, _, rfl, hM.perm (.cons _ (.swap ..))⟩
  · refine dm_mkch hM (by omega) (fun s w2 hM => ?_)
    refine dm_mkch hM (by omega) (fun c w3 hM => ?_)
    ((with_reducible (refine dp_c trivial ?_; refine dm_box hM ?_; clear hM; intro _ _ hM; refine mm_end hM ?_; clear hM; intro _ hM)))
    exact ⟨_, rfl, _, _, _, rfl, hM⟩
theorem snewE_ok (room : Int) (h1 : ¬ (1 ≤ room ∧ room ≤ 65536)) (hf : Fz H w) : Calls Try.prog 17 #[.int .i64 room] w fun en w' => en = .returned (.tuple #[.pointer none, .int .i64 1]) ∧ St w [] w' := by
  have hM := Mem.start hf
  refine C_dock_New_string ?_
  unfold F_dock_New_string
  refine ⟨fun x w' => x = .bool true ∧ hM.now w', ?_, ?_⟩
  · skip
    ((with_reducible (refine mop_cS trivial ?_ ?_))) <;>
    · intro h
      (first | ((with_reducible (refine mguard_yes ?_; refine mop_c trivial ?_; refine mguard_yes ?_; refine mop_cT trivial ?_ ?_)); (focus (first | assumption | omega | with_reducible rfl | exact fun h => Bool.noConfusion h)); (with_reducible (refine mop_c trivial ?_))) | ((with_reducible (refine mguard_n1 ?_; refine mguard_n1 ?_; refine mop_c trivial ?_))))
      exact ⟨rfl, hM⟩
  rintro x u w1 ⟨rfl, hM⟩
  ((with_reducible (refine mif_true ?_)))
  exact ⟨rfl, hM.st⟩
theorem slen_ok {c s cap : Nat} (hM : Mem H w0 (fb g 76 (bxf c s false 0) :: chR c cap [] false :: L) w) : Calls Try.prog 18 #[.pointer (some ⟨g, 0, none⟩)] w fun en w' => en = .returned (.int .i64 0) ∧ w = w' := by
  refine C_dock_Box_string_Len ?_
  unfold F_dock_Box_string_Len
  ((with_reducible (refine mop_c trivial ?_; refine mif_false ?_; refine mop_c trivial ?_; refine mop_c trivial ?_; refine mm_ld hM ?_)))
  refine mm_lench (g := c) hM ?_
  exact ⟨rfl, rfl⟩
theorem spour_ok (hM : Mem H w0 L w) : Calls Try.prog 19 #[.pointer (some ⟨g, 0, none⟩), .pointer (some ⟨g, 0, none⟩)] w fun en w' => en = .returned (.int .i64 0) ∧ w = w' := by
  refine C_dock_Pour_string ?_
  unfold F_dock_Pour_string
  refine ⟨fun x w' => x = .bool true ∧ w = w', ?_, ?_⟩
  · ((with_reducible (refine mop_c trivial ?_; refine mguard_yes ?_; refine mop_c trivial ?_; refine mguard_yes ?_; refine mop_c trivial ?_; refine mop_c trivial ?_; refine mguard_yes ?_; refine mop_c trivial ?_; refine mguard_yes ?_; refine mop_c trivial ?_; refine mguard_yes ?_)))
    refine mop_peq Try.underlying47 (by kernel_rfl) ?_
    ((with_reducible (refine mop_c trivial ?_)))
    exact ⟨rfl, rfl⟩
  rintro x u w1 ⟨rfl, rfl⟩
  ((with_reducible (refine mif_true ?_)))
  exact ⟨rfl, rfl⟩
theorem npour_ok (hM : Mem H w0 L w) : Calls Try.prog 19 #[.pointer none, .pointer none] w fun en w' => en = .returned (.int .i64 0) ∧ w = w' := by
  refine C_dock_Pour_string ?_
  unfold F_dock_Pour_string
  refine ⟨fun x w' => x = .bool true ∧ w = w', ?_, ?_⟩
  · ((with_reducible (refine mop_c trivial ?_; refine mguard_n1 ?_; refine mguard_n1 ?_; refine mop_c trivial ?_; (iterate 3 refine mguard_n1 ?_); refine mop_c trivial ?_)))
    exact ⟨rfl, rfl⟩
  rintro x u w1 ⟨rfl, rfl⟩
  ((with_reducible (refine mif_true ?_)))
  exact ⟨rfl, rfl⟩
theorem nclose_ok (hM : Mem H w0 L w) : Calls Try.prog 20 #[.pointer none] w fun en w' => en = .returned (.tuple #[]) ∧ w = w' := by
  refine C_dock_Box_string_Close ?_
  unfold F_dock_Box_string_Close
  refine ⟨fun x w' => x = .bool false ∧ w = w', ?_, ?_⟩
  · ((with_reducible (refine mop_c trivial ?_; (iterate 4 refine mguard_n2 ?_); refine mop_c trivial ?_)))
    exact ⟨rfl, rfl⟩
  rintro x u w1 ⟨rfl, rfl⟩
  ((with_reducible (refine mif_false ?_)))
  exact ⟨rfl, rfl⟩
theorem ntake_ok (hM : Mem H w0 L w) : Calls Try.prog 21 #[.pointer none] w fun en w' => en = .returned (.tuple #[es, .bool false]) ∧ w = w' := by
  refine C_dock_Box_string_Take ?_
  unfold F_dock_Box_string_Take
  ((with_reducible (refine mop_c trivial ?_; refine mif_true ?_)))
  exact ⟨rfl, rfl⟩
theorem npost_ok (hM : Mem H w0 L w) : Calls Try.prog 23 #[.pointer none, es] w fun en w' => en = .returned (.int .i64 1) ∧ w = w' := by
  refine C_dock_Box_string_Post ?_
  unfold F_dock_Box_string_Post
  ((with_reducible (refine mop_c trivial ?_; refine mif_true ?_)))
  exact ⟨rfl, rfl⟩
theorem nlen_ok (hM : Mem H w0 L w) : Calls Try.prog 18 #[.pointer none] w fun en w' => en = .returned (.int .i64 0) ∧ w = w' := by
  refine C_dock_Box_string_Len ?_
  unfold F_dock_Box_string_Len
  ((with_reducible (refine mop_c trivial ?_; refine mif_true ?_)))
  exact ⟨rfl, rfl⟩
theorem nlost_ok (hM : Mem H w0 L w) : Calls Try.prog 24 #[.pointer none] w fun en w' => en = .returned (.int .i64 0) ∧ w = w' := by
  refine C_dock_Box_string_Lost ?_
  unfold F_dock_Box_string_Lost
  ((with_reducible (refine mop_c trivial ?_; refine mif_true ?_)))
  exact ⟨rfl, rfl⟩
theorem nfirst_ok {A : Option Addr} {c : Nat} (hM : Mem H w0 (rowR 47 1 A 2 c [[.one (.pointer none)], [.one (.pointer none)]] :: L) w) : Calls Try.prog 22 #[.slice A 2 c] w fun en w' => en = .returned (.tuple #[es, .int .i64 (-1), .bool false]) ∧ w = w' := by
  refine C_dock_First_string ?_
  unfold F_dock_First_string
  ((with_reducible (refine mop_c trivial ?_)))
  refine ⟨fun x w' => ∃ i : Nat, x = .int .i64 i ∧ i ≤ 2 ∧ w = w', fun x _ => match x with | .int _ i => 2 - i.toNat | _ => 0, ⟨0, rfl, by omega, rfl⟩, ?_⟩
  rintro x u w2 ⟨i, rfl, hi, rfl⟩
  ((with_reducible (refine mop_cS trivial ?_ ?_)))
  · intro hlt
    obtain rfl | rfl : i = 0 ∨ i = 1 := by omega
    · ((with_reducible (refine mif_true ?_; refine mm_ixr hM ?_ ?_)); (focus omega); (with_reducible (intro _ hA)); (cases hA))
      refine mm_ldr0 (k := 0) hM rfl ?_
      refine mm_same (ntake_ok hM) ?_
      ((with_reducible (refine mop_c trivial ?_; refine mop_c trivial ?_; refine mif_false ?_; refine mop_c ?_ ?_)); (focus omega))
      exact ⟨⟨1, rfl, by omega, rfl⟩, by simp⟩
    · ((with_reducible (refine mif_true ?_; refine mm_ixr hM ?_ ?_)); (focus omega); (with_reducible (intro _ hA)); (cases hA))
      refine mm_ldr0 (k := 1) hM rfl ?_
      refine mm_same (ntake_ok hM) ?_
      ((with_reducible (refine mop_c trivial ?_; refine mop_c trivial ?_; refine mif_false ?_; refine mop_c ?_ ?_)); (focus omega))
      exact ⟨⟨2, rfl, by omega, rfl⟩, by simp⟩
  · intro hge
    ((with_reducible (refine mif_false ?_)))
    exact ⟨rfl, rfl⟩
theorem dockNil_ok (room : Int) (hf : Fz H w) : Calls Try.prog 5 #[.int .i64 room] w fun en w' => en = .returned (.bool true) ∧ St w [] w' := by
  have hM := Mem.start hf
  refine C_bevylaw18_DockNil ?_
  unfold F_bevylaw18_DockNil
  refine ⟨fun x w' => x = .bool (decide (1 ≤ room ∧ room ≤ 65536)) ∧ hM.now w', ?_, ?_⟩
  · skip
    ((with_reducible (refine mop_cS trivial ?_ ?_)))
    · intro h1
      ((with_reducible (refine mguard_yes ?_; refine mop_c trivial ?_; refine mguard_yes ?_)))
      ((with_reducible (refine mop_cS trivial ?_ ?_))) <;>
      · intro h2
        ((with_reducible (refine mop_c trivial ?_)))
        exact ⟨by simp; omega, hM⟩
    · intro h1
      ((with_reducible (refine mguard_n2 ?_; refine mguard_n2 ?_; refine mop_c trivial ?_)))
      exact ⟨by simp; omega, hM⟩
  rintro x u w1 ⟨rfl, hM⟩
  by_cases hr : 1 ≤ room ∧ room ≤ 65536
  · rw [decide_eq_true hr]
    ((with_reducible (refine mif_true ?_)))
    refine mm_own (snew_ok room hr hM) ?_
    rintro v w2 ⟨g, c, s, rfl, hM⟩
    ((with_reducible (refine mop_c trivial ?_; refine mop_c trivial ?_)))
    refine mm_pure hM (awake_ok hM.fz) (fun w3 hM => ?_)
    ((with_reducible (refine mguard_yes ?_; refine mop_c trivial ?_; refine mguard_yes ?_; refine mop_cT trivial ?_ ?_)); (focus (first | assumption | omega | with_reducible rfl | exact fun h => Bool.noConfusion h)); (with_reducible (refine mop_c trivial ?_; refine mguard_yes ?_; refine mop_c trivial ?_; refine mguard_yes ?_)))
    refine mm_same (slen_ok hM) ?_
    ((with_reducible (refine mguard_yes ?_; refine mop_cT trivial ?_ ?_)); (focus (first | assumption | omega | with_reducible rfl | exact fun h => Bool.noConfusion h)); (with_reducible (refine mop_c trivial ?_; refine mguard_yes ?_; refine mop_c trivial ?_; refine mguard_yes ?_; refine mop_c trivial ?_; refine mguard_yes ?_)))
    refine mm_same (spour_ok hM) ?_
    ((with_reducible (refine mguard_yes ?_; refine mop_cT trivial ?_ ?_)); (focus (first | assumption | omega | with_reducible rfl | exact fun h => Bool.noConfusion h)); (with_reducible (refine mop_c trivial ?_)))
    exact ⟨rfl, hM.st⟩
  · rw [decide_eq_false hr]
    ((with_reducible (refine mif_false ?_)))
    refine mm_pure hM (snewE_ok room hr hM.fz) (fun w2 hM => ?_)
    ((with_reducible (refine mop_c trivial ?_; refine mop_c trivial ?_)))
    refine mm_same (nclose_ok hM) ?_
    refine mm_same (ntake_ok hM) ?_
    ((with_reducible (refine mop_c trivial ?_; refine mop_c trivial ?_; refine mm_bsl hM ?_ ?_ ?_)); (focus rfl); (focus (constructor <;> simp)); (with_reducible (clear hM; intro _ _ hM)))
    refine mm_same (nfirst_ok hM) ?_
    ((with_reducible ((iterate 3 refine mop_c trivial ?_))))
    refine mm_pure hM (awake_ok hM.fz) (fun w3 hM => ?_)
    ((with_reducible (refine mguard_yes ?_; refine mop_c trivial ?_; refine mguard_yes ?_; refine mop_c trivial ?_; refine mop_c trivial ?_; refine mguard_yes ?_; refine mop_c trivial ?_; refine mguard_yes ?_; refine mop_cT trivial ?_ ?_)); (focus (first | assumption | omega | with_reducible rfl | exact fun h => Bool.noConfusion h)); (with_reducible (refine mop_c trivial ?_; refine mguard_yes ?_; refine mop_c trivial ?_; refine mguard_yes ?_)))
    refine mm_same (npost_ok hM) ?_
    ((with_reducible (refine mguard_yes ?_; refine mop_cT trivial ?_ ?_)); (focus (first | assumption | omega | with_reducible rfl | exact fun h => Bool.noConfusion h)); (with_reducible (refine mop_c trivial ?_; refine mguard_yes ?_; refine mop_c trivial ?_; refine mguard_yes ?_; refine mop_cT trivial ?_ ?_)); (focus (first | assumption | omega | with_reducible rfl | exact fun h => Bool.noConfusion h)); (with_reducible (refine mop_c trivial ?_; refine mguard_yes ?_; refine mop_c trivial ?_; refine mguard_yes ?_; refine mop_c trivial ?_; refine mop_c trivial ?_; refine mguard_yes ?_; refine mop_c trivial ?_; refine mguard_yes ?_)))
    refine mm_same (nlen_ok hM) ?_
    ((with_reducible (refine mguard_yes ?_; refine mop_cT trivial ?_ ?_)); (focus (first | assumption | omega | with_reducible rfl | exact fun h => Bool.noConfusion h)); (with_reducible (refine mop_c trivial ?_; refine mguard_yes ?_; refine mop_c trivial ?_; refine mguard_yes ?_)))
    refine mm_same (nlost_ok hM) ?_
    ((with_reducible (refine mguard_yes ?_; refine mop_cT trivial ?_ ?_)); (focus (first | assumption | omega | with_reducible rfl | exact fun h => Bool.noConfusion h)); (with_reducible (refine mop_c trivial ?_; refine mguard_yes ?_; refine mop_c trivial ?_; refine mguard_yes ?_; refine mop_cT trivial ?_ ?_)); (focus (first | assumption | omega | with_reducible rfl | exact fun h => Bool.noConfusion h)); (with_reducible (refine mop_c trivial ?_; refine mguard_yes ?_; refine mop_c trivial ?_; refine mguard_yes ?_; refine mop_c trivial ?_; refine mop_c trivial ?_; refine mguard_yes ?_; refine mop_c trivial ?_; refine mguard_yes ?_; refine mop_c trivial ?_; refine mguard_yes ?_)))
    refine mm_same (npour_ok hM) ?_
    ((with_reducible (refine mguard_yes ?_; refine mop_cT trivial ?_ ?_)); (focus (first | assumption | omega | with_reducible rfl | exact fun h => Bool.noConfusion h)); (with_reducible (refine mop_c trivial ?_)))
    exact ⟨rfl, hM.st⟩
end
end Go.Proofs.Ytihelggfpeokbaa
