/- TreeCovers holds for every input. -/
import Derived.Test.YtmjpbomonhjebaaRows
import Derived.Test.YtmjpbomonhjebaaGcv
import Derived.Carry
namespace Go.Proofs.Ytmjpbomonhjebaa
open Go.ChangeShapes Go.WideShapes Go.ChangeAt Go.RowKit
set_option linter.unusedVariables false

theorem fl_arr1 (n : Nat) (l : List Value) : fl [.arr n l] = l := by simp [fl, Fd.cells]
theorem own : ownKnob Try.prog.godebug = none := by kernel_rfl
theorem laidOut : laidOutB Try.prog = true := by kernel_rfl

set_option maxRecDepth 100000 in
theorem treeCovers_lifted (os : Os) (started : os.Started) (H : Type) (enc : TypeId × Value → H) :
    ReturnsInHanded {} Try.checked os 12 .any (Rows.treeCoversSpec.pre6 enc Try.prog Try.f12 Rows.treeCoversRow.domain false) (Rows.treeCoversSpec.post enc Try.prog Try.f12 false true false false) := by
  refine returnsInHanded_of_change (C := Try.checked) own started (by kernel_rfl) Try.func12
    (ChangeSpec.witness6 (enc := enc) (C := Try.checked) false ⟨#[], #[.slice none 0 0], []⟩ 8 (by kernel_rfl) (by kernel_rfl) (by kernel_rfl) (by kernel_rfl)) ?_
  intro W base args ds gs before hval0 hW hcnd _
  have hval : ∀ (j : Nat) t v, Try.f12.params[j]? = some t → args[j]? = some v → Value.okWide Try.prog W .any base t v := hval0
  have hW' := hW
  obtain ⟨p, q, hA0, hV, rfl, hfz, hnd⟩ := hW
  have hA : DataW.TrodAll enc Try.prog W 0 (fun _ => true) true Try.f12.params.toList args.toList ds p := hA0
  rw [Try.params12] at hA hval
  obtain ⟨v0, vs0, d0, ds0, p0, q0, hargs, rfl, rfl, h0, r0⟩ := trodAll_cons hA
  obtain ⟨rfl, rfl, rfl⟩ := trodAll_nil r0
  obtain rfl : args = #[v0] := by cases args; simp_all
  obtain ⟨rfl, rfl⟩ := trodVars_none hV
  have k0 := h0
  have lt0 : ∀ x ∈ p0, x.block < W.heap.size := by obtain ⟨m, hm⟩ := k0; exact DataW.trod_lt m _ _ _ hm
  obtain ⟨m0, hm0⟩ := h0
  obtain ⟨fs0, x0, e0, ok0, -, hr0⟩ := (rdr_acs).read enc W 0 _ _ m0 _ _ hm0
  obtain ⟨K, kc, rfl, hkl, hK, hg⟩ := hr0
  obtain rfl := arg_one (t := 67) (by kernel_rfl) (hval 0 67 v0 rfl rfl) e0
  clear hA0 hval0
  have hc := treeCovers_ok (kc := kc) x0 hkl hK hg (Fz.of W)
  refine hc.mono fun e W' ⟨he, hst⟩ => ?_
  subst he
  have bel : Below W.heap.size W W' := hst.only.below (Nat.le_refl _) (fun _ _ h => by obtain ⟨_, hb, _⟩ := h; cases hb)
  exact ⟨_, rfl, _, _, _, [], _, [], hW', trodAll_mk1 (shut_bool Try.underlying4 _), (trodAll_cons_mk (Below.trod laidOut (by kernel_rfl) (of_decide_eq_true (by kernel_rfl)) k0 bel lt0) trodAll_mk0), rfl, bel.frame _, fun h => by cases h⟩

theorem treeCovers_proved : Rows.TreeCoversSaid :=
  OpenClaim.holds_of_wide 12 Try.f12 rfl rfl rfl rfl rfl rfl rfl ⟨rfl, rfl, rfl, rfl, rfl⟩ rfl rfl rfl rfl rfl (by kernel_rfl) Try.func12 (by kernel_rfl)
    (of_decide_eq_true (by kernel_rfl)) (by unfold Func.isWrapper; first | (rw [if_pos (by decide +kernel)]; kernel_rfl) | (rw [if_neg (by decide +kernel)]; exact ⟨rfl, rfl⟩))
    (fun os started H enc _ => treeCovers_lifted os started H enc)
#print axioms treeCovers_proved
end Go.Proofs.Ytmjpbomonhjebaa
