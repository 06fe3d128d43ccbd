/- The walks over the reference's net: Send, Take, Twice. -/
import Derived.Test.YthnjpglpglbbkaaNet
namespace Go.Proofs.Ythnjpglpglbbkaa
open Go.RowKit

theorem Try.infoR : (Try.prog.info? 59).map (fun i => (i.zero, i.size, i.bytes)) = some (some (.agg #[.int .i64 0, .int .i64 0, .string ByteArray.empty]), 3, 32) := by kernel_rfl
abbrev RNet (w : World) (b : Nat) (n : NetM) (g : Option Nat) : Prop := NetAt 58 59 w b n g
abbrev RNetTo (w w' : World) (b : Nat) (g : Option Nat) (n : NetM) : Prop := NetTo 58 59 w w' b g n

set_option maxHeartbeats 400000 in
theorem rsend_full (b : Nat) (n : NetM) (g : Option Nat) (l : Ltr) (w : World) (h : RNet w b n g) (hf : n.full = true) :
    Calls Try.prog 28 #[.pointer (some ⟨b, 0, none⟩), .agg #[.int .i64 l.fr, .int .i64 l.to, .string l.tx]] w fun e w' => e = .returned (.int .i64 9) ∧ RNetTo w w' b g n.lose := by
  obtain ⟨room, lost, row⟩ := n
  obtain ⟨hroom, hlen, hgb, A, c, hb, hrow⟩ := h
  have hfull : room ≤ (row.length : Int) := by simpa [NetM.full] using hf
  simp only at hroom hlen hb hrow
  have HR := Lib.hid hroom
  have HL := Lib.hid hlen
  have HB := Lib.hid hb
  have HW := Lib.hid hrow
  have hlt := hb.lt
  have c0 := hb.cell 0
  have c1 := hb.cell 1
  have c2 := hb.cell 2
  have f1 := hb.frozen 1
  simp at c0 c1 c2
  clear hroom hlen hb hrow hf
  go_enter Try.func28, Try.ntmps28
  go_wp2
  go_quiet (fail)
  go_wp2
  go_ret
  refine ⟨rfl, g, ⟨HR.out, HL.out, hgb, A, c, ?_, ?_⟩, ?_, fun k hk => .inl hk⟩
  · have := ((HB.out.alloc (.cells #[.int .i64 l.fr, .int .i64 l.to, .string l.tx] 59)).drewN nq).set_ 1 (.int .i64 (wrap64 (lost + 1)))
    simp at this
    exact this
  · exact ((Only.refl (fun k => k = b) _).setCell (.inr rfl) _).row ((HW.out.alloc _).drewN _) (fun k hk e => hgb (by rw [hk, e]))
  · exact (((Only.refl _ w).alloc _).drewN _).setCell (.inr (.inl rfl)) _
set_option maxRecDepth 100000 in
set_option maxHeartbeats 400000 in
theorem rsend_ok (b : Nat) (n : NetM) (g : Option Nat) (l : Ltr) (w : World) (h : RNet w b n g) (hf : n.full = false) :
    Calls Try.prog 28 #[.pointer (some ⟨b, 0, none⟩), .agg #[.int .i64 l.fr, .int .i64 l.to, .string l.tx]] w fun e w' => e = .returned (.int .i64 0) ∧ RNetTo w w' b g (n.send l) := by
  obtain ⟨room, lost, row⟩ := n
  obtain ⟨i0, hi, hz0, hz1, hz2⟩ := info_parts Try.infoR
  obtain ⟨hroom, hlen, hgb, A, c, hb, hrow⟩ := h
  have hr : (row.length : Int) < room := by simpa [NetM.full] using hf
  simp only at hroom hlen hb hrow
  have HR := Lib.hid hroom
  have HL := Lib.hid hlen
  have HB := Lib.hid hb
  have HW := Lib.hid hrow
  have hlt := hb.lt
  have c0 := hb.cell 0
  have c2 := hb.cell 2
  simp at c0 c2
  clear hroom hlen hb hrow hf
  go_enter Try.func28, Try.ntmps28
  go_wp2
  go_quiet (fail)
  go_wp2
  go_region_law (
    refine step_append_row _ rfl (.tmp 26) (.tmp 28) 56 56 rfl 59 i0 _ 3 32 Try.underlying56 hi hz0 hz1 hz2 rfl A row.length c (lcells row) g rfl ?_ _ 1 l.cells rfl ?_ ?_ ?_ ?_
    · exact ((HW.out.alloc _).drewN _).alloc _
    · exact src_of_rd _ Try.underlying56 rfl (by have := rd_new (w.alloc (.cells #[.int .i64 l.fr, .int .i64 l.to, .string l.tx] 59)) l.cells 59; simp at this; exact this) l.cells_one
    · have := HL.out; unfold maxLen; omega
    · have := HL.out; omega
    intro A' c' g' w1 hrow1 ho1 hg1
    have hb1 := ho1.blk (((HB.out.alloc _).drewN _).alloc _) (fun e => hgb e.symm)
    have hlt1 := hb1.lt
    have k2 := hb1.cell 2
    have e2 := hb1.frozen 2
    simp at k2
    have HW1 := Lib.hid hrow1
    have HO1 := Lib.hid ho1
    have HG1 := Lib.hid hg1
    clear hb1 hrow1 ho1 hg1 c2)
  all_goals
    go_wp2
    go_ret
    refine ⟨rfl, net_close (fun _ => False) A' c' A row.length c ⟨room, lost, row⟩ (NetM.send ⟨room, lost, row⟩ l) g' HR.out ?_ hgb HB.out HW.out.lt ((((Only.refl _ w).alloc _).drewN _).alloc _) HO1.out ?_ HG1.out rfl rfl (fun _ h => h.elim) ?_⟩
    · have := HR.out; simp [NetM.send]; omega
    · have := HW1.out; simpa [NetM.send, lcells_append, lcells_one] using this
    · rw [show (NetM.send ⟨room, lost, row⟩ l).row.length = row.length + 1 by simp [NetM.send]]
      exact Only.refl _ _

theorem rtake_no (b : Nat) (n : NetM) (g : Option Nat) (i : Int) (w : World) (h : RNet w b n g) (hf : n.has i = false) :
    Calls Try.prog 29 #[.pointer (some ⟨b, 0, none⟩), .int .i64 i] w fun e w' => e = .returned (.tuple #[.agg #[.int .i64 0, .int .i64 0, .string ⟨#[]⟩], .bool false]) ∧ Only (fun _ => False) w w' := by
  obtain ⟨room, lost, row⟩ := n
  obtain ⟨hroom, hlen, hgb, A, c, hb, hrow⟩ := h
  have hlt := hb.lt
  have c2 := hb.cell 2
  simp at c2
  clear hb hrow hroom hlen
  by_cases h0 : i < 0
  · have d1 : decide (i < 0) = true := by simpa using h0
    clear hf
    go_enter Try.func29, Try.ntmps29
    go_wp2
    refine bodyPost_ret (v := .tuple #[.agg #[.int .i64 0, .int .i64 0, .string ⟨#[]⟩], .bool false]) (by simp [results, Try.results29, go_sem]) rfl ⟨rfl, ?_⟩
    repeat (first | exact Only.refl _ _ | refine Only.setCell ?_ (.inl (by simp)) _ | refine Only.drewN ?_ _ | refine Only.drew ?_ | refine Only.alloc ?_ _)
  · have d1 : decide (i < 0) = false := by simpa using h0
    have d2 : (row.length : Int) ≤ i := by simp [NetM.has] at hf; omega
    have d3 : decide ((row.length : Int) ≤ i) = true := by simpa using d2
    clear hf
    go_enter Try.func29, Try.ntmps29
    go_wp2
    refine bodyPost_ret (v := .tuple #[.agg #[.int .i64 0, .int .i64 0, .string ⟨#[]⟩], .bool false]) (by simp [results, Try.results29, go_sem]) rfl ⟨rfl, ?_⟩
    repeat (first | exact Only.refl _ _ | refine Only.setCell ?_ (.inl (by simp)) _ | refine Only.drewN ?_ _ | refine Only.drew ?_ | refine Only.alloc ?_ _)

theorem erase_skip (row : List Ltr) (k i : Nat) (hk : k < row.length) (h : k = i) : (row.take (k + 1)).eraseIdx i = (row.take k).eraseIdx i := by
  subst h
  rw [List.take_succ_eq_append_getElem hk, List.eraseIdx_append_of_length_le (by rw [List.length_take]; omega), List.length_take, show k - min k row.length = 0 by omega, List.eraseIdx_of_length_le (l := row.take k) (by rw [List.length_take]; omega)]
  simp
theorem erase_more (row : List Ltr) (k i : Nat) (hk : k < row.length) (h : ¬ k = i) : (row.take (k + 1)).eraseIdx i = (row.take k).eraseIdx i ++ [row[k]] := by
  rw [List.take_succ_eq_append_getElem hk]
  rcases Nat.lt_or_ge i k with h1 | h1
  · rw [List.eraseIdx_append_of_lt_length (by rw [List.length_take]; omega)]
  · rw [List.eraseIdx_of_length_le (by rw [List.length_append, List.length_take]; simp; omega), List.eraseIdx_of_length_le (by rw [List.length_take]; omega)]
/-- What is collected behind k rounds: in slot v lies a row of the call's own that reads as l. -/
def Coll (e : TypeId) (B : Nat) (w wr : World) (v : Value) (l : List Ltr) : Prop :=
  ∃ A c g, v = .slice A l.length c ∧ Row wr e 3 A l.length c (lcells l) g ∧ Only (fun _ => False) w wr ∧ ∀ j, g = some j → B ≤ j
set_option maxRecDepth 100000 in
set_option maxHeartbeats 400000 in
theorem rtake_ok (b : Nat) (n : NetM) (g : Option Nat) (i : Nat) (w : World) (h : RNet w b n g) (hi : i < n.row.length) :
    Calls Try.prog 29 #[.pointer (some ⟨b, 0, none⟩), .int .i64 i] w fun e w' => e = .returned (.tuple #[.agg #[.int .i64 n.row[i].fr, .int .i64 n.row[i].to, .string n.row[i].tx], .bool true]) ∧ RNetTo w w' b g (n.take i) := by
  obtain ⟨room, lost, row⟩ := n
  obtain ⟨i0, hi0, hz0, hz1, hz2⟩ := info_parts Try.infoR
  obtain ⟨hroom, hlen, hgb, A, c, hb, hrow⟩ := h
  have hlt := hb.lt
  obtain ⟨x0, x1, x2⟩ := lcells_at row i hi
  obtain ⟨ab, ao, rfl, hab, hc⟩ := hrow.rd.at_ x0
  simp only at hroom hlen hb hrow hi
  have y0 := hc _ _ x0
  have y1 := hc _ _ x1
  have y2 := hc _ _ x2
  simp only [← Nat.add_assoc] at y1 y2
  have HR := Lib.hid hroom
  have HL := Lib.hid hlen
  have HB := Lib.hid hb
  have HW := Lib.hid hrow
  have HC := Lib.hid hc
  have c2 := hb.cell 2
  simp at c2
  have d1 : decide ((i : Int) < 0) = false := by simp
  have d3 : decide ((row.length : Int) ≤ (i : Int)) = false := by simp; omega
  clear hroom hlen hb hrow x0 x1 x2 hc
  go_enter Try.func29, Try.ntmps29
  go_wp2
  clear d1 d3 y0 y1 y2 c2
  generalize hw0 : (w.alloc _).alloc _ = w0
  have H4 := Lib.hid (show Blk w0 w.heap.size 59 #[.int .i64 0, .int .i64 0, .string ⟨#[]⟩] by rw [← hw0]; exact (Blk.new w _ _).alloc _)
  have H6 := Lib.hid (show Blk w0 (w.heap.size + 1) 59 #[.int .i64 row[i].fr, .int .i64 row[i].to, .string row[i].tx] by rw [← hw0]; simpa using Blk.new (w.alloc (.cells #[.int .i64 0, .int .i64 0, .string ⟨#[]⟩] 59)) 59 #[.int .i64 row[i].fr, .int .i64 row[i].to, .string row[i].tx])
  have HOW := Lib.hid (show Only (fun _ => False) w w0 by rw [← hw0]; exact ((Only.refl _ w).alloc _).alloc _)
  clear hw0
  go_loopw [7, 8] (fun v j wr => ∃ k : Nat, k ≤ row.length ∧ j = .int .i64 k ∧ Coll 59 w0.heap.size w0 wr v ((row.take k).eraseIdx i)) (fun _ j _ => row.length - (intOf j).toNat)
  case atStart =>
    refine ⟨0, by omega, rfl, none, 0, none, ?_, ?_, Only.refl _ _, fun j e => by cases e⟩
    · simp
    · simpa [lcells] using Row.nil w0 59 3
  case round =>
    obtain ⟨k, hk, rfl, A1, c1, g1, rfl, hrow1, ho1, hg1⟩ := hrel
    have ho := HOW.out.trans ho1 (fun _ _ h => h)
    have hbr := ho.blk HB.out (fun e => e)
    have hrr := ho.row HW.out (fun _ _ e => e)
    have hbl := hbr.lt
    have c2 := hbr.cell 2
    have f2 := hbr.frozen 2
    simp at c2
    have hll : ((row.take k).eraseIdx i).length ≤ k := by
      have := List.length_eraseIdx_le (row.take k) i; rw [List.length_take] at this; omega
    have HLL := Lib.hid hll
    have HBR := Lib.hid hbr
    have HRR := Lib.hid hrr
    have HW1 := Lib.hid hrow1
    have HO1 := Lib.hid ho1
    have HO := Lib.hid ho
    have HG1 := Lib.hid hg1
    have h4 := ho1.blk H4.out (fun e => e)
    have h6 := ho1.blk H6.out (fun e => e)
    have s0 := h4.cell 0
    have s1 := h4.cell 1
    have s2 := h4.cell 2
    have t0 := h6.cell 0
    have t1 := h6.cell 1
    have t2 := h6.cell 2
    have u0 := h4.frozen 0
    have u1 := h4.frozen 1
    have u2 := h4.frozen 2
    have v2 := h6.lt
    have v4 : b ≠ w.heap.size := by omega
    have v5 : b ≠ w.heap.size + 1 := by omega
    simp at s0 s1 s2 t0 t1 t2
    clear h4 h6 ho hbr hrr hrow1 ho1 hg1 hll
    have hkb : k ≤ 65536 := Nat.le_trans hk HL.out
    by_cases hlt : k < row.length
    · obtain ⟨x0, x1, x2⟩ := lcells_at row k hlt
      obtain ⟨ab', ao', hA, hab', hc⟩ := HRR.out.rd.at_ x0
      injection hA with hA; injection hA with e1 e2; subst e1; subst e2
      have y0 := hc _ _ x0
      have y1 := hc _ _ x1
      have y2 := hc _ _ x2
      simp only [← Nat.add_assoc] at y1 y2
      clear hc x0 x1 x2
      by_cases hki : k = i
      · have d1 : (((k : Int)) != (i : Int)) = false := by simp [hki]
        have HKI := Lib.hid hki
        clear hki
        go_wp2
        go_roundw
        case rel =>
          refine ⟨k + 1, hlt, by have := HKI.out; rw [this]; go_num, A1, c1, g1, ?_, ?_, HO1.out, HG1.out⟩
          · rw [erase_skip row k i hlt HKI.out]
          · rw [erase_skip row k i hlt HKI.out]; exact HW1.out
        case measure => have := HKI.out; simp [intOf]; omega
      · have d1 : (((k : Int)) != (i : Int)) = true := by simp; omega
        have HKI := Lib.hid hki
        clear hki
        go_wp2_with (
          at_builtin
          refine wpList_append_row _ rfl (.tmp 40) (.tmp 48) 56 56 rfl 59 i0 _ 3 32 Try.underlying56 hi0 hz0 hz1 hz2 rfl _ _ _ _ _ rfl (HW1.out.alloc _) _ 1 row[k].cells rfl ?_ ?_ ?_ ?_
          · exact src_of_rd _ Try.underlying56 rfl (rd_new wr row[k].cells 59) row[k].cells_one
          · have := HL.out; have := HLL.out; unfold maxLen; omega
          · have := HL.out; have := HLL.out; omega
          intro A2 c2' g2 w2 hrow2 ho2 hg2
          have HW2 := Lib.hid hrow2
          have HO2 := Lib.hid ho2
          have HG2 := Lib.hid hg2
          clear hrow2 ho2 hg2)
        go_roundw
        case rel =>
          have el := erase_more row k i hlt HKI.out
          refine ⟨k + 1, hlt, by go_num, A2, c2', g2, ?_, ?_, (HO1.out.alloc _).trans HO2.out (fun j hj e => ?_), fun j hj => ?_⟩
          · rw [el, List.length_append]; rfl
          · rw [el, List.length_append, lcells_append, lcells_one]; exact HW2.out
          · have := HG1.out j e.symm; omega
          · rcases HG2.out with h | h
            · exact HG1.out j (by rw [← h, hj])
            · rw [h] at hj; injection hj with hj; have := HO1.out.size; simp at hj; omega
        case measure => simp [intOf]; omega
    · go_wp2
      refine bodyPost_ret (v := .tuple #[.agg #[.int .i64 row[i].fr, .int .i64 row[i].to, .string row[i].tx], .bool true]) (by simp [results, Try.results29, go_sem, s0, s1, s2]) rfl ⟨rfl, ?_⟩
      have HW2 := HW1.out
      have hk' : row.take k = row := List.take_of_length_le (by omega)
      rw [hk'] at HW2 ⊢
      have el : (row.eraseIdx i).length = row.length - 1 := by rw [List.length_eraseIdx, if_pos hi]
      refine net_close3 (fun j => j = w.heap.size) A1 c1 _ row.length c ⟨room, lost, row⟩ (NetM.take ⟨room, lost, row⟩ i) g1 HR.out ?_ HB.out HO.out HW2 (fun j hj => ?_) (fun j e => by omega) rfl rfl ?_
      · have := HL.out; simp only [NetM.take, el]; omega
      · have h1 := HG1.out j hj; have h2 := H6.out.lt; exact ⟨by omega, by show ¬ (j = w.heap.size); omega⟩
      · simp only [NetM.take]
        repeat (first | exact Only.refl _ _ | refine Only.setCell ?_ (.inr (by simp)) _)
end Go.Proofs.Ythnjpglpglbbkaa
