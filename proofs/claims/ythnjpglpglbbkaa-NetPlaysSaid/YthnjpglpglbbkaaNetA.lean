/- The document's example of a net (awake), a nil net, and a letter as the document has it. -/
import Derived.Test.YthnjpglpglbbkaaNet4
namespace Go.Proofs.Ythnjpglpglbbkaa
open Go.RowKit

theorem own_up {g g' : Option Nat} {m B : Nat} (h : ∀ k, g' = some k → g = some k ∨ m ≤ k) (hg : ∀ k, g = some k → B ≤ k) (hB : B ≤ m) : ∀ k, g' = some k → B ≤ k := fun k hk => by
  rcases h k hk with h | h
  · exact hg k h
  · omega

set_option maxRecDepth 100000 in
set_option maxHeartbeats 400000 in
theorem nawake (w : World) : Calls Try.prog 21 #[] w fun e w' => e = .returned (.bool true) ∧ Only (fun _ => False) w w' := by
  go_enter Try.func21, Try.ntmps21
  go_wp2_with fail
  refine (pnew_ok 9 _ (by omega) (by omega)).mono ?_
  rintro e w1 ⟨rfl, hn1, ho1⟩
  have HN := Lib.hid hn1
  have HO := Lib.hid ho1
  clear hn1 ho1
  go_wp2_with fail
  refine (psend_ok _ _ none ⟨0, 0, ⟨#[97]⟩⟩ _ HN.out rfl).mono ?_
  rintro e w2 ⟨rfl, g2, hn2, ho2, hg2⟩
  have HN2 := Lib.hid hn2
  have HO2 := Lib.hid ho2
  have HG2 := Lib.hid hg2
  clear hn2 ho2 hg2
  go_wp2_with fail
  refine (psend_ok _ _ g2 ⟨0, 0, ⟨#[98]⟩⟩ _ HN2.out rfl).mono ?_
  rintro e w3 ⟨rfl, g3, hn3, ho3, hg3⟩
  have HN3 := Lib.hid hn3
  have HO3 := Lib.hid ho3
  have HG3 := Lib.hid hg3
  clear hn3 ho3 hg3
  go_wp2_with fail
  refine (ptwice_ok _ _ g3 0 _ HN3.out (by decide) rfl).mono ?_
  rintro e w4 ⟨rfl, g4, hn4, ho4, hg4⟩
  have HN4 := Lib.hid hn4
  have HO4 := Lib.hid ho4
  have HG4 := Lib.hid hg4
  clear hn4 ho4 hg4
  go_wp2_with fail
  refine (ptake_ok _ _ g4 1 _ HN4.out (by decide)).mono ?_
  rintro e w5 ⟨rfl, g5, hn5, ho5, hg5⟩
  have HN5 := Lib.hid hn5
  have HO5 := Lib.hid ho5
  have HG5 := Lib.hid hg5
  clear hn5 ho5 hg5
  simp only [NetM.twice, NetM.send, List.nil_append, List.cons_append, List.take, List.drop, List.getElem_cons_succ, List.getElem_cons_zero]
  go_wp2_with fail
  refine (plen _ _ g5 _ (HN5.out.only ((Only.refl (fun _ => False) _).alloc _) (fun _ _ e => e))).mono ?_
  rintro e w6 ⟨rfl, rfl⟩
  go_wp2
  go_ret
  have l1 := HO.out.size
  have l2 := HO2.out.size
  have l3 := HO3.out.size
  have l4 := HO4.out.size
  have b2 := own_up HG2.out (fun k h => by cases h) (B := w.heap.size) (by omega)
  have b3 := own_up HG3.out b2 (by omega)
  have b4 := own_up HG4.out b3 (by omega)
  exact ⟨rfl, ((((HO.out.net HO2.out (.inl (Nat.le_refl _)) (fun k h => by cases h)).net HO3.out (.inl (Nat.le_refl _)) (fun k h => .inl (b2 k h))).net HO4.out (.inl (Nat.le_refl _)) (fun k h => .inl (b3 k h))).net HO5.out (.inl (Nat.le_refl _)) (fun k h => .inl (b4 k h))).alloc _⟩

theorem pnil_send (a b c : Value) (w : World) : Calls Try.prog 23 #[.pointer none, .agg #[a, b, c]] w fun e w' => e = .returned (.int .i64 1) ∧ Only (fun _ => False) w w' := by
  go_enter Try.func23, Try.ntmps23
  go_wp2
  go_ret
  exact ⟨rfl, (Only.refl _ w).alloc _⟩
theorem plook_nil (i : Int) (w : World) : Calls Try.prog 32 #[.pointer none, .int .i64 i] w fun e w' => e = .returned (.tuple #[.agg #[.int .i64 0, .int .i64 0, .string ⟨#[]⟩], .bool false]) ∧ Only (fun _ => False) w w' := by
  go_enter Try.func32, Try.ntmps32
  go_wp2
  refine bodyPost_ret (v := .tuple #[.agg #[.int .i64 0, .int .i64 0, .string ⟨#[]⟩], .bool false]) (by simp [results, Try.results32, go_sem]) rfl ⟨rfl, ?_⟩
  repeat (first | exact Only.refl _ _ | refine Only.setCell ?_ (.inl (by simp)) _ | refine Only.drewN ?_ _ | refine Only.drew ?_ | refine Only.alloc ?_ _)
theorem pnil_twice (i : Int) (w : World) : Calls Try.prog 27 #[.pointer none, .int .i64 i] w fun e w' => e = .returned (.int .i64 7) ∧ Only (fun _ => False) w w' := by
  go_enter Try.func27, Try.ntmps27
  go_wp2_with fail
  refine (plook_nil i _).mono ?_
  rintro e w1 ⟨rfl, ho1⟩
  have HO1 := Lib.hid ho1
  clear ho1
  go_wp2
  go_ret
  exact ⟨rfl, HO1.out.alloc _⟩
theorem pnil_len (w : World) : Calls Try.prog 24 #[.pointer none] w fun e w' => e = .returned (.int .i64 0) ∧ w = w' := by
  go_enter Try.func24, Try.ntmps24
  go_wp2
  go_ret
  exact ⟨rfl, rfl⟩
theorem pnil_lost (w : World) : Calls Try.prog 26 #[.pointer none] w fun e w' => e = .returned (.int .i64 0) ∧ w = w' := by
  go_enter Try.func26, Try.ntmps26
  go_wp2
  go_ret
  exact ⟨rfl, rfl⟩
theorem plain_any (x y : Int) (s : ByteArray) (w : World) : Calls Try.prog 30 #[.agg #[.int .i64 x, .int .i64 y, .string s]] w fun e w' => e = .returned (.agg #[.int .i64 x, .int .i64 y, .string s]) ∧ Only (fun _ => False) w w' := by
  go_enter Try.func30, Try.ntmps30
  go_wp2
  refine bodyPost_ret (v := .agg #[.int .i64 x, .int .i64 y, .string s]) (by simp [results, Try.results30, go_sem]) rfl ⟨rfl, ?_⟩
  repeat (first | exact Only.refl _ _ | refine Only.setCell ?_ (.inl (by simp)) _ | refine Only.drewN ?_ _ | refine Only.drew ?_ | refine Only.alloc ?_ _)
end Go.Proofs.Ythnjpglpglbbkaa
