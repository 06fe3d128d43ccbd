/- MacMixes holds for every input. -/
import Derived.Test.YtdefecbaineneaaRows
import Derived.Test.YtdefecbaineneaaMac3
import Derived.Test.YtdefecbaineneaaReadA
import Derived.Carry
namespace Go.Proofs.Ytdefecbaineneaa
open Go.ChangeShapes Go.WideShapes Go.ChangeAt Go.RowKit
open Go.ChangeMaps (open_string shut_string)
set_option linter.unusedVariables false

theorem own : ownKnob Try.prog.godebug = none := by kernel_rfl
theorem laidOut : laidOutB Try.prog = true := by kernel_rfl

set_option maxRecDepth 100000 in
theorem macMixes_lifted (os : Os) (started : os.Started) (H : Type) (enc : TypeId × Value → H) :
    ReturnsInHanded {} Try.checked os 8 .any (Rows.macMixesSpec.pre6 enc Try.prog Try.f8 Rows.macMixesRow.domain false) (Rows.macMixesSpec.post enc Try.prog Try.f8 false true false false) := by
  refine returnsInHanded_of_change (C := Try.checked) own started (by kernel_rfl) Try.func8
    (ChangeSpec.witness6 (enc := enc) (C := Try.checked) false ⟨#[], #[.agg (Array.replicate 32 (.int .u8 0)), .agg (Array.replicate 32 (.int .u8 0))], []⟩ 8 (by kernel_rfl) (by kernel_rfl) (by kernel_rfl) (by kernel_rfl)) ?_
  intro W base args ds gs before hval0 hW hcnd _
  have hval : ∀ (j : Nat) t v, Try.f8.params[j]? = some t → args[j]? = some v → Value.okWide Try.prog W .any base t v := hval0
  have hW' := hW
  obtain ⟨p, q, hA0, hV, rfl, hfz, hnd⟩ := hW
  have hA : DataW.TrodAll enc Try.prog W 0 (fun _ => true) true Try.f8.params.toList args.toList ds p := hA0
  rw [Try.params8] at hA hval
  obtain ⟨v0, vs0, d0, ds0, p0, q0, hargs, rfl, rfl, h0, r0⟩ := trodAll_cons hA
  obtain ⟨v1, vs1, d1, ds1, p1, q1, rfl, rfl, rfl, h1, r1⟩ := trodAll_cons r0
  obtain ⟨rfl, rfl, rfl⟩ := trodAll_nil r1
  obtain rfl : args = #[v0, v1] := by cases args; simp_all
  obtain ⟨rfl, rfl⟩ := trodVars_none hV
  have k0 := h0
  have lt0 : ∀ x ∈ p0, x.block < W.heap.size := by obtain ⟨m, hm⟩ := k0; exact DataW.trod_lt m _ _ _ hm
  have k1 := h1
  have lt1 : ∀ x ∈ p1, x.block < W.heap.size := by obtain ⟨m, hm⟩ := k1; exact DataW.trod_lt m _ _ _ hm
  obtain ⟨zs0, rfl, zl0, _, zw0⟩ := rd_arr (⟨Try.underlying23, by kernel_rfl, by kernel_rfl, by kernel_rfl⟩) Try.underlying5 (hval 0 23 v0 rfl rfl) h0
  obtain ⟨zs1, rfl, zl1, _, zw1⟩ := rd_arr (⟨Try.underlying23, by kernel_rfl, by kernel_rfl, by kernel_rfl⟩) Try.underlying5 (hval 1 23 v1 rfl rfl) h1
  clear hA0 hval0
  have hc : Calls Try.prog 8 #[.agg (zs0.map (Value.int .u8)).toArray, .agg (zs1.map (Value.int .u8)).toArray] W fun e w' => e = .returned (.bool true) ∧ St W [] w' := macMixes_ok zs0 zs1 W zl0 zl1 (fun z hz => byte_range (zw0 z hz)) (fun z hz => byte_range (zw1 z hz))
  refine hc.mono fun e W' ⟨he, hst⟩ => ?_
  subst he
  have bel : Below W.heap.size W W' := hst.only.below (Nat.le_refl _) (fun _ _ h => by obtain ⟨_, hb, _⟩ := h; cases hb)
  exact ⟨_, rfl, _, _, _, [], _, [], hW', trodAll_mk1 (shut_bool Try.underlying4 _), (trodAll_cons_mk (Below.trod laidOut (by kernel_rfl) (of_decide_eq_true (by kernel_rfl)) k0 bel lt0) (trodAll_cons_mk (Below.trod laidOut (by kernel_rfl) (of_decide_eq_true (by kernel_rfl)) k1 bel lt1) trodAll_mk0)), rfl, bel.frame _, fun h => by cases h⟩

theorem macMixes_proved : Rows.MacMixesSaid :=
  OpenClaim.holds_of_wide 8 Try.f8 rfl rfl rfl rfl rfl rfl rfl ⟨rfl, rfl, rfl, rfl, rfl⟩ rfl rfl rfl rfl rfl (by kernel_rfl) Try.func8 (by kernel_rfl)
    (of_decide_eq_true (by kernel_rfl)) (by unfold Func.isWrapper; first | (rw [if_pos (by decide +kernel)]; kernel_rfl) | (rw [if_neg (by decide +kernel)]; exact ⟨rfl, rfl⟩))
    (fun os started H enc _ => macMixes_lifted os started H enc)
#print axioms macMixes_proved
end Go.Proofs.Ytdefecbaineneaa
