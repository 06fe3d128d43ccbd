/- The walks over package net: what New, Send, Look, Len, Lost come to. -/
import Derived.Test.YthnjpglpglbbkaaRows
import Derived.Test.YthnjpglpglbbkaaNet0
namespace Go.Proofs.Ythnjpglpglbbkaa
open Go.RowKit

theorem Try.infoL : (Try.prog.info? 47).map (fun i => (i.zero, i.size, i.bytes)) = some (some (.agg #[.int .i64 0, .int .i64 0, .string ByteArray.empty]), 3, 32) := by kernel_rfl

abbrev PNet (w : World) (b : Nat) (n : NetM) (g : Option Nat) : Prop := NetAt 151 47 w b n g
abbrev PNetTo (w w' : World) (b : Nat) (g : Option Nat) (n : NetM) : Prop := NetTo 151 47 w w' b g n

theorem pnew_ok (room : Int) (w : World) (h1 : 1 ≤ room) (h2 : room ≤ 65536) :
    Calls Try.prog 22 #[.int .i64 room] w fun e w' => e = .returned (.tuple #[.pointer (some ⟨w.heap.size, 0, none⟩), .int .i64 0]) ∧
      PNet w' w.heap.size ⟨room, 0, []⟩ none ∧ Only (fun _ => False) w w' := by
  have HR := Lib.hid h2
  have d1 : decide (room < 1) = false := by simp; omega
  have d2 : decide (65536 < room) = false := by simp; omega
  clear h2
  go_enter Try.func22, Try.ntmps22
  go_wp2
  go_ret2
  refine ⟨rfl, ⟨HR.out, by simp, by simp, none, 0, ?_, Row.nil _ _ _⟩, ?_⟩
  · exact Blk.new w _ _
  · exact (Only.refl _ w).alloc _
theorem pnew_no (room : Int) (w : World) (h : room < 1 ∨ 65536 < room) :
    Calls Try.prog 22 #[.int .i64 room] w fun e w' => e = .returned (.tuple #[.pointer none, .int .i64 1]) ∧ w = w' := by
  by_cases h1 : room < 1
  · have d1 : decide (room < 1) = true := by simp; omega
    clear h
    go_enter Try.func22, Try.ntmps22
    go_wp2
    go_ret2
    exact ⟨rfl, rfl⟩
  · have d1 : decide (room < 1) = false := by simp; omega
    have d2 : decide (65536 < room) = true := by simp; omega
    clear h
    go_enter Try.func22, Try.ntmps22
    go_wp2
    go_ret2
    exact ⟨rfl, rfl⟩
theorem plen (b : Nat) (n : NetM) (g : Option Nat) (w : World) (h : PNet w b n g) :
    Calls Try.prog 24 #[.pointer (some ⟨b, 0, none⟩)] w fun e w' => e = .returned (.int .i64 n.row.length) ∧ w = w' := by
  obtain ⟨_, _, _, A, c, hb, _⟩ := h
  have c2 := hb.cell 2
  simp at c2
  clear hb
  go_enter Try.func24, Try.ntmps24
  go_wp2
  go_ret
  exact ⟨rfl, rfl⟩
theorem plost (b : Nat) (n : NetM) (g : Option Nat) (w : World) (h : PNet w b n g) :
    Calls Try.prog 26 #[.pointer (some ⟨b, 0, none⟩)] w fun e w' => e = .returned (.int .i64 n.lost) ∧ w = w' := by
  obtain ⟨_, _, _, A, c, hb, _⟩ := h
  have c2 := hb.cell 1
  simp at c2
  clear hb
  go_enter Try.func26, Try.ntmps26
  go_wp2
  go_ret
  exact ⟨rfl, rfl⟩
set_option maxHeartbeats 400000 in
theorem psend_full (b : Nat) (n : NetM) (g : Option Nat) (l : Ltr) (w : World) (h : PNet w b n g) (hf : n.full = true) :
    Calls Try.prog 23 #[.pointer (some ⟨b, 0, none⟩), .agg #[.int .i64 l.fr, .int .i64 l.to, .string l.tx]] w fun e w' => e = .returned (.int .i64 9) ∧ PNetTo w w' b g n.lose := by
  obtain ⟨room, lost, row⟩ := n
  obtain ⟨hroom, hlen, hgb, A, c, hb, hrow⟩ := h
  have hfull : room ≤ (row.length : Int) := by simpa [NetM.full] using hf
  simp only at hroom hlen hb hrow
  have HR := Lib.hid hroom
  have HL := Lib.hid hlen
  have HB := Lib.hid hb
  have HW := Lib.hid hrow
  have hlt := hb.lt
  have c0 := hb.cell 0
  have c1 := hb.cell 1
  have c2 := hb.cell 2
  have f1 := hb.frozen 1
  simp at c0 c1 c2
  clear hroom hlen hb hrow hf
  go_enter Try.func23, Try.ntmps23
  go_wp2
  go_quiet (fail)
  go_wp2
  go_ret
  refine ⟨rfl, g, ⟨HR.out, HL.out, hgb, A, c, ?_, ?_⟩, ?_, fun k hk => .inl hk⟩
  · have := ((HB.out.alloc (.cells #[.int .i64 l.fr, .int .i64 l.to, .string l.tx] 47)).drewN nq).set_ 1 (.int .i64 (wrap64 (lost + 1)))
    simp at this
    exact this
  · exact ((Only.refl (fun k => k = b) _).setCell (.inr rfl) _).row ((HW.out.alloc _).drewN _) (fun k hk e => hgb (by rw [hk, e]))
  · exact (((Only.refl _ w).alloc _).drewN _).setCell (.inr (.inl rfl)) _
set_option maxRecDepth 100000 in
set_option maxHeartbeats 400000 in
theorem psend_ok (b : Nat) (n : NetM) (g : Option Nat) (l : Ltr) (w : World) (h : PNet w b n g) (hf : n.full = false) :
    Calls Try.prog 23 #[.pointer (some ⟨b, 0, none⟩), .agg #[.int .i64 l.fr, .int .i64 l.to, .string l.tx]] w fun e w' => e = .returned (.int .i64 0) ∧ PNetTo w w' b g (n.send l) := by
  obtain ⟨room, lost, row⟩ := n
  obtain ⟨i0, hi, hz0, hz1, hz2⟩ := info_parts Try.infoL
  obtain ⟨hroom, hlen, hgb, A, c, hb, hrow⟩ := h
  have hr : (row.length : Int) < room := by simpa [NetM.full] using hf
  simp only at hroom hlen hb hrow
  have HR := Lib.hid hroom
  have HL := Lib.hid hlen
  have HB := Lib.hid hb
  have HW := Lib.hid hrow
  have hlt := hb.lt
  have c0 := hb.cell 0
  have c2 := hb.cell 2
  simp at c0 c2
  clear hroom hlen hb hrow hf
  go_enter Try.func23, Try.ntmps23
  go_wp2
  go_quiet (fail)
  go_wp2
  go_region_law (
    refine step_append_row _ rfl (.tmp 30) (.tmp 32) 149 149 rfl 47 i0 _ 3 32 Try.underlying149 hi hz0 hz1 hz2 rfl A row.length c (lcells row) g rfl ?_ _ 1 l.cells rfl ?_ ?_ ?_ ?_
    · exact ((HW.out.alloc _).drewN _).alloc _
    · exact src_of_rd _ Try.underlying149 rfl (by have := rd_new (w.alloc (.cells #[.int .i64 l.fr, .int .i64 l.to, .string l.tx] 47)) l.cells 47; simp at this; exact this) l.cells_one
    · have := HL.out; unfold maxLen; omega
    · have := HL.out; omega
    intro A' c' g' w1 hrow1 ho1 hg1
    have hb1 := ho1.blk (((HB.out.alloc _).drewN _).alloc _) (fun e => hgb e.symm)
    have hlt1 := hb1.lt
    have k2 := hb1.cell 2
    have e2 := hb1.frozen 2
    simp at k2
    have HW1 := Lib.hid hrow1
    have HO1 := Lib.hid ho1
    have HG1 := Lib.hid hg1
    clear hb1 hrow1 ho1 hg1 c2)
  all_goals
    go_wp2
    go_ret
    refine ⟨rfl, net_close (fun _ => False) A' c' A row.length c ⟨room, lost, row⟩ (NetM.send ⟨room, lost, row⟩ l) g' HR.out ?_ hgb HB.out HW.out.lt ((((Only.refl _ w).alloc _).drewN _).alloc _) HO1.out ?_ HG1.out rfl rfl (fun _ h => h.elim) ?_⟩
    · have := HR.out; simp [NetM.send]; omega
    · have := HW1.out; simpa [NetM.send, lcells_append, lcells_one] using this
    · rw [show (NetM.send ⟨room, lost, row⟩ l).row.length = row.length + 1 by simp [NetM.send]]
      exact Only.refl _ _
end Go.Proofs.Ythnjpglpglbbkaa
