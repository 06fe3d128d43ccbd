/- NetOnce holds for every input: each letter that was sent is taken out once, whatever the order. -/
import Derived.Test.YthnjpglpglbbkaaNetOnce
import Derived.Test.YthnjpglpglbbkaaRead
import Derived.Carry
namespace Go.Proofs.Ythnjpglpglbbkaa
open Go.ChangeShapes Go.WideShapes Go.ChangeAt Go.RowKit
open Go.ChangeMaps (open_string shut_string)
set_option linter.unusedVariables false

theorem once_long (A B : Option Addr) (n m cA cB : Nat) (w : World) (hl : 300 < n ∨ 300 < m) :
    Calls Try.prog 4 #[.slice A n cA, .slice B m cB] w fun e w' => e = .returned (.bool true) ∧ Only (fun _ => False) w w' := by
  by_cases h1 : 300 < n
  · have d1 : decide ((300 : Int) < (n : Int)) = true := by simp; omega
    clear hl
    go_enter Try.func4, Try.ntmps4
    go_wp2_with fail
    refine (nawake _).mono ?_
    rintro e w1 ⟨rfl, ho1⟩
    have HO1 := Lib.hid ho1
    clear ho1
    go_wp2_with fail
    refine (nawake _).mono ?_
    rintro e w2 ⟨rfl, ho2⟩
    have HO2 := Lib.hid ho2
    clear ho2
    go_wp2_with fail
    go_ret
    exact ⟨rfl, HO1.out.trans HO2.out (fun _ _ h => h)⟩
  · have d1 : decide ((300 : Int) < (n : Int)) = false := by simp; omega
    have d2 : decide ((300 : Int) < (m : Int)) = true := by simp; omega
    clear hl
    go_enter Try.func4, Try.ntmps4
    go_wp2_with fail
    refine (nawake _).mono ?_
    rintro e w1 ⟨rfl, ho1⟩
    have HO1 := Lib.hid ho1
    clear ho1
    go_wp2_with fail
    refine (nawake _).mono ?_
    rintro e w2 ⟨rfl, ho2⟩
    have HO2 := Lib.hid ho2
    clear ho2
    go_wp2_with fail
    go_ret
    exact ⟨rfl, HO1.out.trans HO2.out (fun _ _ h => h)⟩

theorem own : ownKnob Try.prog.godebug = none := by kernel_rfl
theorem laidOut : laidOutB Try.prog = true := by kernel_rfl

set_option maxRecDepth 100000 in
theorem netOnce_lifted (os : Os) (started : os.Started) (H : Type) (enc : TypeId × Value → H) :
    ReturnsInHanded {} Try.checked os 4 .any (Rows.netOnceSpec.pre6 enc Try.prog Try.f4 Rows.netOnceRow.domain false) (Rows.netOnceSpec.post enc Try.prog Try.f4 false true false false) := by
  refine returnsInHanded_of_change (C := Try.checked) own started (by kernel_rfl) Try.func4
    (ChangeSpec.witness6 (enc := enc) (C := Try.checked) false ⟨#[], #[.slice none 0 0, .slice none 0 0], []⟩ 8 (by kernel_rfl) (by kernel_rfl) (by kernel_rfl) (by kernel_rfl)) ?_
  intro W base args ds gs before hval0 hW hcnd _
  have hval : ∀ (j : Nat) t v, Try.f4.params[j]? = some t → args[j]? = some v → Value.okWide Try.prog W .any base t v := hval0
  have hW' := hW
  obtain ⟨p, q, hA0, hV, rfl, hfz, hnd⟩ := hW
  have hA : DataW.TrodAll enc Try.prog W 0 (fun _ => true) true Try.f4.params.toList args.toList ds p := hA0
  rw [Try.params4] at hA hval
  obtain ⟨v0, vs0, d0, ds0, p0, q0, hargs, rfl, rfl, h0, r0⟩ := trodAll_cons hA
  obtain ⟨v1, vs1, d1, ds1, p1, q1, rfl, rfl, rfl, h1, r1⟩ := trodAll_cons r0
  obtain ⟨rfl, rfl, rfl⟩ := trodAll_nil r1
  obtain rfl : args = #[v0, v1] := by cases args; simp_all
  obtain ⟨rfl, rfl⟩ := trodVars_none hV
  obtain ⟨a0, len0, cap0, rfl⟩ := okWide_slice Try.underlying40 (hval 0 40 v0 rfl rfl)
  obtain ⟨a1, len1, cap1, rfl⟩ := okWide_slice Try.underlying41 (hval 1 41 v1 rfl rfl)
  have k0 := h0
  have k1 := h1
  have lt0 : ∀ x ∈ p0, x.block < W.heap.size := by obtain ⟨m, hm⟩ := k0; exact DataW.trod_lt m _ _ _ hm
  have lt1 : ∀ x ∈ p1, x.block < W.heap.size := by obtain ⟨m, hm⟩ := k1; exact DataW.trod_lt m _ _ _ hm
  obtain ⟨ss, rfl, hrd0, _⟩ := rd_strings Try.underlying40 Try.underlying9 (by kernel_rfl) h0
  obtain ⟨zs, rfl, hrd1, _⟩ := rd_ints Try.underlying41 Try.underlying3 (by kernel_rfl) h1
  clear hA0 hval0
  have hc : Calls Try.prog 4 #[.slice a0 ss.length cap0, .slice a1 zs.length cap1] W fun e w' => e = .returned (.bool true) ∧ Only (fun _ => False) W w' := by
    by_cases hl : ss.length ≤ 300 ∧ zs.length ≤ 300
    · exact once_walk a0 a1 cap0 cap1 ss zs W hrd0 hrd1 hl.1 hl.2
    · exact once_long a0 a1 _ _ cap0 cap1 W (by omega)
  refine hc.mono fun e W' ⟨he, ho⟩ => ?_
  subst he
  have bel : Below W.heap.size W W' := ho.below (Nat.le_refl _) (fun _ _ h => h)
  exact ⟨_, rfl, _, _, _, [], _, [], hW', trodAll_mk1 (shut_bool Try.underlying4 _), (trodAll_cons_mk (Below.trod laidOut (by kernel_rfl) (of_decide_eq_true (by kernel_rfl)) k0 bel lt0) (trodAll_cons_mk (Below.trod laidOut (by kernel_rfl) (of_decide_eq_true (by kernel_rfl)) k1 bel lt1) trodAll_mk0)), rfl, bel.frame _, fun h => by cases h⟩

theorem netOnce_proved : Rows.NetOnceSaid :=
  OpenClaim.holds_of_wide 4 Try.f4 rfl rfl rfl rfl rfl rfl rfl ⟨rfl, rfl, rfl, rfl, rfl⟩ rfl rfl rfl rfl rfl (by kernel_rfl) Try.func4 (by kernel_rfl)
    (of_decide_eq_true (by kernel_rfl)) (by unfold Func.isWrapper; first | (rw [if_pos (by decide +kernel)]; kernel_rfl) | (rw [if_neg (by decide +kernel)]; exact ⟨rfl, rfl⟩))
    (fun os started H enc _ => netOnce_lifted os started H enc)
#print axioms netOnce_proved
end Go.Proofs.Ythnjpglpglbbkaa
