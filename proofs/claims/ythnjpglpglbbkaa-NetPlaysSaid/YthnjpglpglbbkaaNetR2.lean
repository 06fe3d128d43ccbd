/- The walks over the reference's net: Twice. -/
import Derived.Test.YthnjpglpglbbkaaNetR
namespace Go.Proofs.Ythnjpglpglbbkaa
open Go.RowKit

theorem rtwice_none (b : Nat) (n : NetM) (g : Option Nat) (i : Int) (w : World) (h : RNet w b n g) (hf : n.has i = false) :
    Calls Try.prog 31 #[.pointer (some ⟨b, 0, none⟩), .int .i64 i] w fun e w' => e = .returned (.int .i64 7) ∧ Only (fun _ => False) w w' := by
  obtain ⟨room, lost, row⟩ := n
  obtain ⟨hroom, hlen, hgb, A, c, hb, hrow⟩ := h
  have hlt := hb.lt
  have c2 := hb.cell 2
  simp at c2
  clear hb hrow hroom hlen
  by_cases h0 : i < 0
  · have d1 : decide (i < 0) = true := by simpa using h0
    clear hf
    go_enter Try.func31, Try.ntmps31
    go_wp2
    go_ret
    exact ⟨rfl, Only.refl _ _⟩
  · have d1 : decide (i < 0) = false := by simpa using h0
    have d2 : (row.length : Int) ≤ i := by simp [NetM.has] at hf; omega
    have d3 : decide ((row.length : Int) ≤ i) = true := by simpa using d2
    clear hf
    go_enter Try.func31, Try.ntmps31
    go_wp2
    go_ret
    exact ⟨rfl, Only.refl _ _⟩
theorem rtwice_full (b : Nat) (n : NetM) (g : Option Nat) (i : Nat) (w : World) (h : RNet w b n g) (hi : i < n.row.length) (hf : n.full = true) :
    Calls Try.prog 31 #[.pointer (some ⟨b, 0, none⟩), .int .i64 i] w fun e w' => e = .returned (.int .i64 9) ∧ Only (fun _ => False) w w' := by
  obtain ⟨room, lost, row⟩ := n
  obtain ⟨hroom, hlen, hgb, A, c, hb, hrow⟩ := h
  have hr : room ≤ (row.length : Int) := by simpa [NetM.full] using hf
  have hlt := hb.lt
  have c0 := hb.cell 0
  have c2 := hb.cell 2
  simp at c0 c2 hi
  have d1 : decide ((i : Int) < 0) = false := by simp
  have d3 : decide ((row.length : Int) ≤ (i : Int)) = false := by simp; omega
  clear hb hrow hroom hlen hf
  go_enter Try.func31, Try.ntmps31
  go_wp2
  go_quiet (fail)
  go_wp2
  go_ret
  exact ⟨rfl, (Only.refl _ _).drewN _⟩

/-- The letters behind k rounds. -/
def dupl (row : List Ltr) (i k : Nat) : List Ltr := if k ≤ i then row.take k else row.take (i + 1) ++ (row.take k).drop i
theorem dupl_same (row : List Ltr) (k i : Nat) (hk : k < row.length) (h : k = i) : dupl row i (k + 1) = dupl row i k ++ [row[k]] ++ [row[k]] := by
  subst h
  simp only [dupl, Nat.le_refl, if_true, show ¬ (k + 1 ≤ k) by omega, if_false]
  rw [List.take_succ_eq_append_getElem hk, List.drop_append, List.drop_eq_nil_of_le (by rw [List.length_take]; omega), List.length_take, show k - min k row.length = 0 by omega]
  simp
theorem dupl_more (row : List Ltr) (k i : Nat) (hk : k < row.length) (h : ¬ k = i) : dupl row i (k + 1) = dupl row i k ++ [row[k]] := by
  unfold dupl
  by_cases h1 : k ≤ i
  · rw [if_pos (by omega), if_pos h1, List.take_succ_eq_append_getElem hk]
  · rw [if_neg (by omega), if_neg h1, List.append_assoc]
    congr 1
    rw [List.take_succ_eq_append_getElem hk, List.drop_append, List.length_take, show i - min k row.length = 0 by omega, List.drop_zero]
theorem dupl_len (row : List Ltr) (i k : Nat) : (dupl row i k).length ≤ k + 1 := by
  unfold dupl
  split
  · rw [List.length_take]; omega
  · rw [List.length_append, List.length_take, List.length_drop, List.length_take]; omega
theorem dupl_all (row : List Ltr) (i : Nat) (hi : i < row.length) : dupl row i row.length = row.take (i + 1) ++ row.drop i := by
  unfold dupl
  rw [if_neg (by omega), List.take_of_length_le (Nat.le_refl _)]

set_option maxRecDepth 100000 in
set_option maxHeartbeats 400000 in
theorem rtwice_ok (b : Nat) (n : NetM) (g : Option Nat) (i : Nat) (w : World) (h : RNet w b n g) (hi : i < n.row.length) (hf : n.full = false) :
    Calls Try.prog 31 #[.pointer (some ⟨b, 0, none⟩), .int .i64 i] w fun e w' => e = .returned (.int .i64 0) ∧ RNetTo w w' b g (n.twice i) := by
  obtain ⟨room, lost, row⟩ := n
  obtain ⟨i0, hi0, hz0, hz1, hz2⟩ := info_parts Try.infoR
  obtain ⟨hroom, hlen, hgb, A, c, hb, hrow⟩ := h
  have hr : (row.length : Int) < room := by simpa [NetM.full] using hf
  have hlt := hb.lt
  obtain ⟨x0, x1, x2⟩ := lcells_at row i hi
  obtain ⟨ab, ao, rfl, hab, hc⟩ := hrow.rd.at_ x0
  simp only at hroom hlen hb hrow hi
  have HR := Lib.hid hroom
  have HL := Lib.hid hlen
  have HB := Lib.hid hb
  have HW := Lib.hid hrow
  have c0 := hb.cell 0
  have c2 := hb.cell 2
  simp at c0 c2
  have d1 : decide ((i : Int) < 0) = false := by simp
  have d3 : decide ((row.length : Int) ≤ (i : Int)) = false := by simp; omega
  clear hroom hlen hb hrow x0 x1 x2 hc hf
  go_enter Try.func31, Try.ntmps31
  go_wp2
  go_quiet (fail)
  go_wp2
  clear d1 d3 c0 c2
  have HQ := Lib.hid (show Only (fun _ => False) w (w.drewN nq) from (Only.refl _ w).drewN nq)
  go_loopw [5, 6] (fun v j wr => ∃ k : Nat, k ≤ row.length ∧ j = .int .i64 k ∧ Coll 59 w.heap.size w wr v (dupl row i k)) (fun _ j _ => row.length - (intOf j).toNat)
  case atStart =>
    refine ⟨0, by omega, rfl, none, 0, none, ?_, ?_, HQ.out, fun j e => by cases e⟩
    · simp [dupl]
    · simpa [lcells, dupl] using Row.nil (w.drewN nq) 59 3
  case round =>
    obtain ⟨k, hk, rfl, A1, c1, g1, rfl, hrow1, ho1, hg1⟩ := hrel
    have hbr := ho1.blk HB.out (fun e => e)
    have hrr := ho1.row HW.out (fun _ _ e => e)
    have hbl := hbr.lt
    have c2 := hbr.cell 2
    have f2 := hbr.frozen 2
    simp at c2
    have hll := dupl_len row i k
    have HLL := Lib.hid hll
    have HBR := Lib.hid hbr
    have HRR := Lib.hid hrr
    have HW1 := Lib.hid hrow1
    have HO1 := Lib.hid ho1
    have HG1 := Lib.hid hg1
    clear hbr hrr hrow1 ho1 hg1 hll
    have hkb : k ≤ 65536 := Nat.le_trans hk HL.out
    by_cases hlt : k < row.length
    · obtain ⟨x0, x1, x2⟩ := lcells_at row k hlt
      obtain ⟨ab', ao', hA, hab', hc⟩ := HRR.out.rd.at_ x0
      injection hA with hA; injection hA with e1 e2; subst e1; subst e2
      have y0 := hc _ _ x0
      have y1 := hc _ _ x1
      have y2 := hc _ _ x2
      simp only [← Nat.add_assoc] at y1 y2
      have HC := Lib.hid hc
      have X := Lib.hid (And.intro x0 (And.intro x1 x2))
      clear hc x0 x1 x2
      by_cases hki : k = i
      · have d1 : (((k : Int)) == (i : Int)) = true := by simp [hki]
        have HKI := Lib.hid hki
        clear hki
        go_wp2_with (
          first
          | (at_builtin
             refine wpList_append_row _ rfl (.tmp 37) (.tmp 45) 56 56 rfl 59 i0 _ 3 32 Try.underlying56 hi0 hz0 hz1 hz2 rfl _ _ _ _ _ rfl (HW1.out.alloc _) _ 1 row[k].cells rfl ?_ ?_ ?_ ?_
             · exact src_of_rd _ Try.underlying56 rfl (rd_new wr row[k].cells 59) row[k].cells_one
             · have := HL.out; have := HLL.out; unfold maxLen; omega
             · have := HL.out; have := HLL.out; omega
             intro A2 c2' g2 w2 hrow2 ho2 hg2
             have hS : ∀ j, some j = g1 → w.heap.size ≤ j := fun j e => HG1.out j e.symm
             have hb2 := ho2.blk (HBR.out.alloc _) (fun e => by have := hS _ e; omega)
             have hn2 := hb2.lt
             have q2 := hb2.cell 2
             have z0 := (ho2.cell (p := ⟨ab, ao + k * 3, none⟩) (by simp; omega) (fun e => by have := hS ab e; omega)).trans ((World.cell?_alloc_lt wr _ _ hab').trans y0)
             have z1 := (ho2.cell (p := ⟨ab, ao + k * 3 + 1, none⟩) (by simp; omega) (fun e => by have := hS ab e; omega)).trans ((World.cell?_alloc_lt wr _ _ hab').trans y1)
             have z2 := (ho2.cell (p := ⟨ab, ao + k * 3 + 2, none⟩) (by simp; omega) (fun e => by have := hS ab e; omega)).trans ((World.cell?_alloc_lt wr _ _ hab').trans y2)
             simp at q2
             have HW2 := Lib.hid hrow2
             have HO2 := Lib.hid ho2
             have HG2 := Lib.hid hg2
             clear hrow2 ho2 hg2 hb2 hS y0 y1 y2 c2)
          | (at_builtin
             refine wpList_append_row _ rfl (.tmp 50) (.tmp 58) 56 56 rfl 59 i0 _ 3 32 Try.underlying56 hi0 hz0 hz1 hz2 rfl _ _ _ _ _ rfl (HW2.out.alloc _) _ 1 row[k].cells rfl ?_ ?_ ?_ ?_
             · exact src_of_rd _ Try.underlying56 rfl (rd_new w2 row[k].cells 59) row[k].cells_one
             · have := HL.out; have := HLL.out; unfold maxLen; omega
             · have := HL.out; have := HLL.out; omega
             intro A3 c3 g3 w3 hrow3 ho3 hg3
             have HW3 := Lib.hid hrow3
             have HO3 := Lib.hid ho3
             have HG3 := Lib.hid hg3
             clear hrow3 ho3 hg3))
        go_roundw
        case rel =>
          have el := dupl_same row k i hlt HKI.out
          have hg2 : ∀ j, g2 = some j → w.heap.size ≤ j := fun j hj => by
            rcases HG2.out with h | h
            · exact HG1.out j (by rw [← h, hj])
            · rw [h] at hj; injection hj with hj; have := HO1.out.size; simp at hj; omega
          refine ⟨k + 1, hlt, by have := HKI.out; rw [this]; go_num, A3, c3, g3, ?_, ?_, (((HO1.out.alloc _).trans HO2.out (fun j hj e => ?_)).alloc _).trans HO3.out (fun j hj e => ?_), fun j hj => ?_⟩
          · rw [el, List.length_append, List.length_append]; rfl
          · rw [el, List.length_append, List.length_append, lcells_append, lcells_append, lcells_one]; exact HW3.out
          · have := HG1.out j e.symm; omega
          · have := hg2 j e.symm; omega
          · rcases HG3.out with h | h
            · exact hg2 j (by rw [← h, hj])
            · rw [h] at hj; injection hj with hj; have := HO1.out.size; have := HO2.out.size; simp at hj this; omega
        case measure => have := HKI.out; simp [intOf]; omega
      · have d1 : (((k : Int)) == (i : Int)) = false := by simp; omega
        have HKI := Lib.hid hki
        clear hki
        go_wp2_with (
          at_builtin
          refine wpList_append_row _ rfl (.tmp 37) (.tmp 45) 56 56 rfl 59 i0 _ 3 32 Try.underlying56 hi0 hz0 hz1 hz2 rfl _ _ _ _ _ rfl (HW1.out.alloc _) _ 1 row[k].cells rfl ?_ ?_ ?_ ?_
          · exact src_of_rd _ Try.underlying56 rfl (rd_new wr row[k].cells 59) row[k].cells_one
          · have := HL.out; have := HLL.out; unfold maxLen; omega
          · have := HL.out; have := HLL.out; omega
          intro A2 c2' g2 w2 hrow2 ho2 hg2
          have HW2 := Lib.hid hrow2
          have HO2 := Lib.hid ho2
          have HG2 := Lib.hid hg2
          clear hrow2 ho2 hg2)
        go_roundw
        case rel =>
          have el := dupl_more row k i hlt HKI.out
          refine ⟨k + 1, hlt, by go_num, A2, c2', g2, ?_, ?_, (HO1.out.alloc _).trans HO2.out (fun j hj e => ?_), fun j hj => ?_⟩
          · rw [el, List.length_append]; rfl
          · rw [el, List.length_append, lcells_append, lcells_one]; exact HW2.out
          · have := HG1.out j e.symm; omega
          · rcases HG2.out with h | h
            · exact HG1.out j (by rw [← h, hj])
            · rw [h] at hj; injection hj with hj; have := HO1.out.size; simp at hj; omega
        case measure => simp [intOf]; omega
    · go_wp2
      go_ret
      have HW2 := HW1.out
      have hk' : k = row.length := by omega
      rw [hk', dupl_all row i hi] at HW2
      rw [hk', dupl_all row i hi]
      have el : (row.take (i + 1) ++ row.drop i).length = row.length + 1 := by rw [List.length_append, List.length_take, List.length_drop]; omega
      refine ⟨rfl, net_close3 (fun _ => False) A1 c1 _ row.length c ⟨room, lost, row⟩ (NetM.twice ⟨room, lost, row⟩ i) g1 HR.out ?_ HB.out HO1.out HW2 (fun j hj => ⟨HG1.out j hj, fun h => h⟩) (fun j e => e.elim) rfl rfl (Only.refl _ _)⟩
      have := HR.out; simp only [NetM.twice, el]; omega
end Go.Proofs.Ythnjpglpglbbkaa
