/- The walks over package net: Take where there is none, Twice, a nil net. -/
import Derived.Test.YthnjpglpglbbkaaNet3
namespace Go.Proofs.Ythnjpglpglbbkaa
open Go.RowKit

set_option maxRecDepth 100000 in
set_option maxHeartbeats 400000 in
theorem ptake_no (b : Nat) (n : NetM) (g : Option Nat) (i : Int) (w : World) (h : PNet w b n g) (hi : n.has i = false) :
    Calls Try.prog 25 #[.pointer (some ⟨b, 0, none⟩), .int .i64 i] w fun e w' => e = .returned (.tuple #[.agg #[.int .i64 0, .int .i64 0, .string ⟨#[]⟩], .bool false]) ∧ Only (fun _ => False) w w' := by
  have HK := Lib.hid (plook_no b n g i)
  have HH := Lib.hid h
  have HI := Lib.hid hi
  clear h hi
  go_enter Try.func25, Try.ntmps25
  go_wp2_with fail
  refine (HK.out _ (HH.out.only ((Only.refl _ w).alloc _) (fun k _ h => h)) HI.out).mono ?_
  rintro e w1 ⟨rfl, ho1⟩
  have hr1 := ho1.blk (Blk.new w _ _) (fun e => e)
  have hn1 := hr1.lt
  have k0 := hr1.cell 0
  have k1 := hr1.cell 1
  have k2 := hr1.cell 2
  have u0 := hr1.frozen 0
  have u1 := hr1.frozen 1
  have u2 := hr1.frozen 2
  simp at k0 k1 k2
  have HO1 := Lib.hid ho1
  clear ho1 hr1
  go_wp2
  refine bodyPost_ret (v := .tuple #[.agg #[.int .i64 0, .int .i64 0, .string ⟨#[]⟩], .bool false]) (by simp [results, Try.results25, go_sem, k0, k1, k2, hn1]) rfl ⟨rfl, ?_⟩
  have h1 := ((Only.refl _ w).alloc _).trans HO1.out (fun _ _ h => h)
  repeat (first | exact h1 | refine Only.setCell ?_ (.inl (by simp)) _ | refine Only.alloc ?_ _)
theorem ptwice_none (b : Nat) (n : NetM) (g : Option Nat) (i : Int) (w : World) (h : PNet w b n g) (hi : n.has i = false) :
    Calls Try.prog 27 #[.pointer (some ⟨b, 0, none⟩), .int .i64 i] w fun e w' => e = .returned (.int .i64 7) ∧ Only (fun _ => False) w w' := by
  have HK := Lib.hid (plook_no b n g i)
  have HH := Lib.hid h
  have HI := Lib.hid hi
  clear h hi
  go_enter Try.func27, Try.ntmps27
  go_wp2_with fail
  refine (HK.out _ HH.out HI.out).mono ?_
  rintro e w1 ⟨rfl, ho1⟩
  have HO1 := Lib.hid ho1
  clear ho1
  go_wp2
  go_ret
  exact ⟨rfl, HO1.out.alloc _⟩
set_option maxHeartbeats 400000 in
theorem ptwice_full (b : Nat) (n : NetM) (g : Option Nat) (i : Nat) (w : World) (h : PNet w b n g) (hi : i < n.row.length) (hf : n.full = true) :
    Calls Try.prog 27 #[.pointer (some ⟨b, 0, none⟩), .int .i64 i] w fun e w' => e = .returned (.int .i64 9) ∧ Only (fun _ => False) w w' := by
  have HK := Lib.hid (plook_ok b n g i)
  have HH := Lib.hid h
  obtain ⟨room, lost, row⟩ := n
  obtain ⟨hroom, hlen, hgb, A, c, hb, hrow⟩ := h
  have hr : room ≤ (row.length : Int) := by simpa [NetM.full] using hf
  have HB := Lib.hid hb
  clear hroom hlen hrow hb hf
  go_enter Try.func27, Try.ntmps27
  go_wp2_with fail
  refine (HK.out _ HH.out hi).mono ?_
  rintro e w1 ⟨rfl, ho1⟩
  have hb1 := ho1.blk HB.out (fun e => e)
  have hlt1 := hb1.lt
  have c0 := hb1.cell 0
  have c2 := hb1.cell 2
  simp at c0 c2
  have HO1 := Lib.hid ho1
  clear ho1 hb1
  go_wp2
  go_quiet (fail)
  go_wp2
  go_ret
  exact ⟨rfl, (HO1.out.alloc _).drewN _⟩
set_option maxRecDepth 100000 in
set_option maxHeartbeats 1000000 in
theorem ptwice_ok (b : Nat) (n : NetM) (g : Option Nat) (i : Nat) (w : World) (h : PNet w b n g) (hi : i < n.row.length) (hf : n.full = false) :
    Calls Try.prog 27 #[.pointer (some ⟨b, 0, none⟩), .int .i64 i] w fun e w' => e = .returned (.int .i64 0) ∧ PNetTo w w' b g (n.twice i) := by
  have HK := Lib.hid (plook_ok b n g i)
  obtain ⟨room, lost, row⟩ := n
  obtain ⟨i0, hi0, hz0, hz1, hz2⟩ := info_parts Try.infoL
  have HH := Lib.hid h
  obtain ⟨hroom, hlen, hgb, A, c, hb, hrow⟩ := h
  have hr : (row.length : Int) < room := by simpa [NetM.full] using hf
  have hlt := hb.lt
  obtain ⟨x0, x1, x2⟩ := lcells_at row i hi
  obtain ⟨ab, ao, rfl, hab, hc⟩ := hrow.rd.at_ x0
  simp only at hroom hlen hb hrow hi
  have HR := Lib.hid hroom
  have HL := Lib.hid hlen
  have HB := Lib.hid hb
  have HW := Lib.hid hrow
  have hrow0 := hrow.lt
  have hcap : row.length ≤ c := hrow.le.2
  have hmax : c ≤ 9223372036854775807 := by
    rcases hrow.2 with ⟨h, _⟩ | ⟨_, _, _, _, _, _, _, h, _⟩
    · cases h
    · exact h
  clear hroom hlen hb hrow x0 x1 x2 hc hf
  go_enter Try.func27, Try.ntmps27
  go_wp2_with fail
  refine (HK.out _ HH.out hi).mono ?_
  rintro e w1 ⟨rfl, ho1⟩
  have hb1 := ho1.blk HB.out (fun e => e)
  have hw1 := ho1.row HW.out (fun _ _ e => e)
  have hlt1 := hb1.lt
  have c0 := hb1.cell 0
  have c2 := hb1.cell 2
  simp at c0 c2
  have HT := Lib.hid (hw1.take (i + 1) (i + 1) (by omega) (by omega) (by omega))
  have HD := Lib.hid (hw1.rd.drop ((i + 1) * 3) (if c = i + 1 then some ⟨ab, ao, none⟩ else some ⟨ab, ao + (i + 1) * 3, none⟩) (fun b off e hlt => by
    injection e with e; injection e with e1 e2; subst e1; subst e2
    rw [lcells_length] at hlt
    rw [if_neg (by omega)]))
  obtain ⟨AD, hAD⟩ : ∃ AD, (if c = i + 1 then some (⟨ab, ao, none⟩ : Addr) else some ⟨ab, ao + (i + 1) * 3, none⟩) = AD := ⟨_, rfl⟩
  rw [hAD] at HD
  have HGL := Lib.hid hw1.lt
  have HGW := Lib.hid hrow0
  have HO1 := Lib.hid ho1
  have HB1 := Lib.hid hb1
  clear ho1 hb1 hw1 hrow0
  go_wp2_with fail
  go_quiet (fail)
  go_wp2
  have hwr : IntKind.i64.wrap ((i : Int) + 1) = (i : Int) + 1 := by rw [IntKind.wrap_i64]; omega
  have hp0 : (0 : Int) ≤ (i : Int) + 1 := by omega
  have hp1 : (i : Int) + 1 ≤ (row.length : Int) := by omega
  have hp2 : ((i : Int) + 1).toNat = i + 1 := by omega
  have hp3 : (i : Int) + 1 ≤ (c : Int) := by omega
  have hic : i + 1 ≤ c := by omega
  go_region_law (
    first
    | (refine step_append_new _ rfl (.tmp 36) (.tmp 38) 149 149 rfl 47 i0 _ 3 32 Try.underlying149 hi0 hz0 hz1 hz2 rfl _ (i + 1) (i + 1) _ g rfl (((HT.out.alloc _).drewN _).alloc _) _ 1 row[i].cells rfl (src_of_rd _ Try.underlying149 rfl ?_ row[i].cells_one) ?_ ?_ (by omega) ?_
       · have := rd_new (w1.alloc (.cells #[.int .i64 row[i].fr, .int .i64 row[i].to, .string row[i].tx] 47)) row[i].cells 47; simp at this; exact this
       · have := HL.out; unfold maxLen; omega
       · have := HL.out; omega
       intro A2 c2' w2 hrow2 ho2
       have hb2 := ho2.blk (((HB1.out.alloc _).drewN _).alloc _) (fun e => e)
       have hd2 := ho2.rd (((HD.out.alloc _).drewN _).alloc _) (fun _ _ _ e => e)
       have q2 := hb2.cell 2
       have v1 := hb2.lt
       simp at q2
       have HW2 := Lib.hid hrow2
       have HO2 := Lib.hid ho2
       have HB2 := Lib.hid hb2
       have HD2 := Lib.hid hd2
       clear hrow2 ho2 hb2 hd2 c2)
    | (refine step_append_row _ rfl (.tmp 39) (.tmp 46) 149 149 rfl 47 i0 _ 3 32 Try.underlying149 hi0 hz0 hz1 hz2 rfl _ (i + 1 + 1) _ _ _ rfl HW2.out _ (row.length - (i + 1)) _ rfl (src_of_rd _ Try.underlying149 (by rw [← lcells_drop, lcells_length, List.length_drop]) HD2.out (by rw [← lcells_drop]; exact lcells_one' _)) ?_ ?_ ?_
       · have := HL.out; unfold maxLen; omega
       · have := HL.out; omega
       intro A3 c3 g3 w3 hrow3 ho3 hg3
       have hb3 := ho3.blk HB2.out (fun e => by
         injection e with e
         simp at e
         omega)
       have q3 := hb3.cell 2
       have u3 := hb3.frozen 2
       simp at q3
       have HW3 := Lib.hid hrow3
       have HO3 := Lib.hid ho3
       have HG3 := Lib.hid hg3
       clear hrow3 ho3 hg3 hb3 q2))
  all_goals
    go_wp2
    go_ret
    have el : (NetM.twice ⟨room, lost, row⟩ i).row.length = i + 1 + 1 + (row.length - (i + 1)) := by simp only [NetM.twice, List.length_append, List.length_take, List.length_drop]; omega
    refine ⟨rfl, net_close2 A3 c3 _ row.length c ⟨room, lost, row⟩ (NetM.twice ⟨room, lost, row⟩ i) g3 _ HR.out ?_ HB.out ((((HO1.out.alloc _).drewN _).alloc _).trans HO2.out (fun _ _ h => h)) HO3.out ?_ HG3.out (by have := HO1.out.size; simp; omega) rfl rfl ?_⟩
    · have := HR.out; rw [el]; omega
    · have := HW3.out; rw [el]; rw [show lcells (NetM.twice ⟨room, lost, row⟩ i).row = List.take ((i + 1) * 3) (lcells row) ++ row[i].cells ++ List.drop ((i + 1) * 3) (lcells row) by
        simp only [NetM.twice, lcells_append, lcells_take, lcells_drop]
        rw [← lcells_drop, ← lcells_drop, List.drop_eq_getElem_cons hi, lcells_cons, List.append_assoc]]; exact this
    · rw [el]
end Go.Proofs.Ythnjpglpglbbkaa
