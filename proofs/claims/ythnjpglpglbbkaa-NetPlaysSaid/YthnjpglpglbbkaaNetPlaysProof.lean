/- NetPlays holds for every input: every call on a net, in every order, answers what the document says. -/
import Derived.Test.YthnjpglpglbbkaaNetPlays
import Derived.Test.YthnjpglpglbbkaaReadS
import Derived.Carry
namespace Go.Proofs.Ythnjpglpglbbkaa
open Go.ChangeShapes Go.WideShapes Go.ChangeAt Go.RowKit
open Go.ChangeMaps (open_string shut_string)
set_option linter.unusedVariables false

set_option maxRecDepth 100000 in
theorem plays_long (room : Int) (A : Option Addr) (n cA : Nat) (w : World) (hl : 300 < n) :
    Calls Try.prog 5 #[.int .i64 room, .slice A n cA] w fun e w' => e = .returned (.bool true) ∧ Only (fun _ => False) w w' := by
  have d1 : decide ((300 : Int) < (n : Int)) = true := by simp; omega
  go_enter Try.func5, Try.ntmps5
  go_wp2_with fail
  refine (nawake _).mono ?_
  rintro e w1 ⟨rfl, ho1⟩
  have HO1 := Lib.hid ho1
  clear ho1
  go_wp2_with fail
  refine (nawake _).mono ?_
  rintro e w2 ⟨rfl, ho2⟩
  have HO2 := Lib.hid ho2
  clear ho2
  go_wp2_with fail
  go_ret
  exact ⟨rfl, HO1.out.trans HO2.out (fun _ _ h => h)⟩

set_option maxRecDepth 100000 in
theorem plays_room (room : Int) (A : Option Addr) (n cA : Nat) (w : World) (hl : n ≤ 300) (hr : room < 1 ∨ 65536 < room) :
    Calls Try.prog 5 #[.int .i64 room, .slice A n cA] w fun e w' => e = .returned (.bool true) ∧ Only (fun _ => False) w w' := by
  have d1 : decide ((300 : Int) < (n : Int)) = false := by simp; omega
  have HR := Lib.hid hr
  clear hr
  by_cases hr1 : room < 1
  case' pos =>
    have d3 : decide (room < 1) = true := by simp; omega
  case' neg =>
    have d3 : decide (room < 1) = false := by simp; omega
    have d4 : decide (65536 < room) = true := by have := HR.out; simp; omega
  all_goals
    go_enter Try.func5, Try.ntmps5
    go_wp2_with fail
    refine (nawake _).mono ?_
    rintro e w1 ⟨rfl, ho1⟩
    have HO1 := Lib.hid ho1
    clear ho1
    go_wp2_with fail
    refine (pnew_no room _ HR.out).mono ?_
    rintro e w2 ⟨rfl, rfl⟩
    go_wp2_with fail
    refine (pnil_send _ _ _ _).mono ?_
    rintro e w3 ⟨rfl, ho3⟩
    have HO3 := Lib.hid ho3
    clear ho3
    go_wp2_with fail
    refine (pnil_twice _ _).mono ?_
    rintro e w4 ⟨rfl, ho4⟩
    have HO4 := Lib.hid ho4
    clear ho4
    go_wp2_with fail
    refine (pnil_len _).mono ?_
    rintro e w5 ⟨rfl, rfl⟩
    go_wp2_with fail
    refine (pnil_lost _).mono ?_
    rintro e w6 ⟨rfl, rfl⟩
    go_wp2_with fail
    go_ret
    exact ⟨rfl, (HO1.out.trans HO3.out (fun _ _ h => h)).trans HO4.out (fun _ _ h => h)⟩

theorem own : ownKnob Try.prog.godebug = none := by kernel_rfl
theorem laidOut : laidOutB Try.prog = true := by kernel_rfl

/-- A call that is asked for, read off its five cells. -/
theorem act_read {H : Type} {enc : TypeId × Value → H} {w : World} {base : Nat} {spare : Nat → Bool} {held : Bool} (n : Nat) (cs : List Value) (y : DataW H × List MemPlace)
    (h : DataW.trod enc Try.prog w base spare held n 61 cs = some y) (hl : cs.length = 5) : ∃ x : NAct, cs = x.cells ∧ x.op < 256 := by
  match cs, hl with
  | [c0, c1, c2, c3, c4], _ =>
  obtain ⟨y0, y1, y2, m, rfl, _, h0, h1, h2⟩ := Go.Deep.trod_struct3 Try.underlying61 h
  have e0 : Try.prog.cellsOf 5 = 1 := by kernel_rfl
  have e1 : Try.prog.cellsOf 3 = 1 := by kernel_rfl
  have e2 : Try.prog.cellsOf 59 = 3 := by kernel_rfl
  have e3 : Try.prog.cellsOf 9 = 1 := by kernel_rfl
  simp only [e0, e1, e2, List.drop_zero, List.take_succ_cons, List.take_zero, List.drop_succ_cons] at h0 h1 h2
  obtain ⟨a, k0, _, wa⟩ := DataW.trod_int Try.underlying5 h0
  obtain ⟨b, k1, _, wb⟩ := DataW.trod_int Try.underlying3 h1
  obtain ⟨z0, z1, z2, m', rfl, _, g0, g1, g2⟩ := Go.Deep.trod_struct3 Try.underlying59 h2
  simp only [e1, e3, List.drop_zero, List.take_succ_cons, List.take_zero, List.drop_succ_cons] at g0 g1 g2
  obtain ⟨c, k2, _, wc⟩ := DataW.trod_int Try.underlying3 g0
  obtain ⟨d, k3, _, wd⟩ := DataW.trod_int Try.underlying3 g1
  obtain ⟨s, k4, _⟩ := DataW.trod_string Try.underlying9 g2
  simp at k0 k1 k2 k3 k4
  subst k0; subst k1; subst k2; subst k3; subst k4
  have hb := bounds_u8 wa
  exact ⟨⟨a.toNat, b, ⟨c, d, s⟩⟩, by simp [NAct.cells]; omega, by simp; omega⟩

set_option maxRecDepth 100000 in
theorem netPlays_lifted (os : Os) (started : os.Started) (H : Type) (enc : TypeId × Value → H) :
    ReturnsInHanded {} Try.checked os 5 .any (Rows.netPlaysSpec.pre6 enc Try.prog Try.f5 Rows.netPlaysRow.domain false) (Rows.netPlaysSpec.post enc Try.prog Try.f5 false true false false) := by
  refine returnsInHanded_of_change (C := Try.checked) own started (by kernel_rfl) Try.func5
    (ChangeSpec.witness6 (enc := enc) (C := Try.checked) false ⟨#[], #[.int .i64 0, .slice none 0 0], []⟩ 8 (by kernel_rfl) (by kernel_rfl) (by kernel_rfl) (by kernel_rfl)) ?_
  intro W base args ds gs before hval0 hW hcnd _
  have hval : ∀ (j : Nat) t v, Try.f5.params[j]? = some t → args[j]? = some v → Value.okWide Try.prog W .any base t v := hval0
  have hW' := hW
  obtain ⟨p, q, hA0, hV, rfl, hfz, hnd⟩ := hW
  have hA : DataW.TrodAll enc Try.prog W 0 (fun _ => true) true Try.f5.params.toList args.toList ds p := hA0
  rw [Try.params5] at hA hval
  obtain ⟨v0, vs0, d0, ds0, p0, q0, hargs, rfl, rfl, h0, r0⟩ := trodAll_cons hA
  obtain ⟨v1, vs1, d1, ds1, p1, q1, rfl, rfl, rfl, h1, r1⟩ := trodAll_cons r0
  obtain ⟨rfl, rfl, rfl⟩ := trodAll_nil r1
  obtain rfl : args = #[v0, v1] := by cases args; simp_all
  obtain ⟨rfl, rfl⟩ := trodVars_none hV
  obtain ⟨room, rfl, rfl, rfl, w0⟩ := open_int Try.underlying3 (hval 0 3 v0 rfl rfl) h0
  obtain ⟨a1, len1, cap1, rfl⟩ := okWide_slice Try.underlying53 (hval 1 53 v1 rfl rfl)
  have k1 := h1
  have lt1 : ∀ x ∈ p1, x.block < W.heap.size := by obtain ⟨m, hm⟩ := k1; exact DataW.trod_lt m _ _ _ hm
  obtain ⟨xs, rfl, hrd1, hgood⟩ := rd_slice NAct.cells (fun x => x.op < 256) 5 Try.underlying53 (by kernel_rfl) (fun _ => rfl) act_read h1
  clear hA0 hval0
  have hc : Calls Try.prog 5 #[.int .i64 room, .slice a1 xs.length cap1] W fun e w' => e = .returned (.bool true) ∧ Only (fun _ => False) W w' := by
    by_cases hl : xs.length ≤ 300
    · by_cases hr : 1 ≤ room ∧ room ≤ 65536
      · exact plays_walk a1 cap1 room xs W hrd1 hl hr.1 hr.2
      · exact plays_room room a1 _ cap1 W hl (by omega)
    · exact plays_long room a1 _ cap1 W (by omega)
  refine hc.mono fun e W' ⟨he, ho⟩ => ?_
  subst he
  have bel : Below W.heap.size W W' := ho.below (Nat.le_refl _) (fun _ _ h => h)
  exact ⟨_, rfl, _, _, _, [], _, [], hW', trodAll_mk1 (shut_bool Try.underlying4 _), (trodAll_cons_mk (shut_int Try.underlying3 w0) (trodAll_cons_mk (Below.trod laidOut (by kernel_rfl) (of_decide_eq_true (by kernel_rfl)) k1 bel lt1) trodAll_mk0)), rfl, bel.frame _, fun h => by cases h⟩

theorem netPlays_proved : Rows.NetPlaysSaid :=
  OpenClaim.holds_of_wide 5 Try.f5 rfl rfl rfl rfl rfl rfl rfl ⟨rfl, rfl, rfl, rfl, rfl⟩ rfl rfl rfl rfl rfl (by kernel_rfl) Try.func5 (by kernel_rfl)
    (of_decide_eq_true (by kernel_rfl)) (by unfold Func.isWrapper; first | (rw [if_pos (by decide +kernel)]; kernel_rfl) | (rw [if_neg (by decide +kernel)]; exact ⟨rfl, rfl⟩))
    (fun os started H enc _ => netPlays_lifted os started H enc)
#print axioms netPlays_proved
end Go.Proofs.Ythnjpglpglbbkaa
