/- The walks over package net: Take, Twice. -/
import Derived.Test.YthnjpglpglbbkaaNet2
namespace Go.Proofs.Ythnjpglpglbbkaa
open Go.RowKit

set_option maxRecDepth 100000 in
set_option maxHeartbeats 400000 in
theorem ptake_ok (b : Nat) (n : NetM) (g : Option Nat) (i : Nat) (w : World) (h : PNet w b n g) (hi : i < n.row.length) :
    Calls Try.prog 25 #[.pointer (some ⟨b, 0, none⟩), .int .i64 i] w fun e w' => e = .returned (.tuple #[.agg #[.int .i64 n.row[i].fr, .int .i64 n.row[i].to, .string n.row[i].tx], .bool true]) ∧ PNetTo w w' b g (n.take i) := by
  have HK := Lib.hid (plook_ok b n g i)
  obtain ⟨room, lost, row⟩ := n
  obtain ⟨i0, hi0, hz0, hz1, hz2⟩ := info_parts Try.infoL
  have HH := Lib.hid h
  obtain ⟨hroom, hlen, hgb, A, c, hb, hrow⟩ := h
  have hlt := hb.lt
  obtain ⟨x0, x1, x2⟩ := lcells_at row i hi
  obtain ⟨ab, ao, rfl, hab, hc⟩ := hrow.rd.at_ x0
  simp only at hroom hlen hb hrow hi
  have HR := Lib.hid hroom
  have HL := Lib.hid hlen
  have HB := Lib.hid hb
  have HW := Lib.hid hrow
  have hrow0 := hrow.lt
  have hcap : row.length ≤ c := hrow.le.2
  have hmax : c ≤ 9223372036854775807 := by
    rcases hrow.2 with ⟨h, _⟩ | ⟨_, _, _, _, _, _, _, h, _⟩
    · cases h
    · exact h
  clear hroom hlen hb hrow x0 x1 x2 hc
  go_enter Try.func25, Try.ntmps25
  go_wp2_with fail
  refine (HK.out _ (HH.out.only ((Only.refl _ w).alloc _) (fun k _ h => h)) hi).mono ?_
  rintro e w1 ⟨rfl, ho1⟩
  have hb1 := ho1.blk (HB.out.alloc _) (fun e => e)
  have hr1 := ho1.blk (Blk.new w _ _) (fun e => e)
  have hw1 := ho1.row (HW.out.alloc _) (fun _ _ e => e)
  have hlt1 := hb1.lt
  have hn1 := hr1.lt
  have c2 := hb1.cell 2
  have k0 := hr1.cell 0
  have k1 := hr1.cell 1
  have k2 := hr1.cell 2
  simp at c2 k0 k1 k2
  have HT := Lib.hid (hw1.take i i (by omega) (by omega) (by omega))
  have HD := Lib.hid (hw1.rd.drop ((i + 1) * 3) (if c = i + 1 then some ⟨ab, ao, none⟩ else some ⟨ab, ao + (i + 1) * 3, none⟩) (fun b off e hlt => by
    injection e with e; injection e with e1 e2; subst e1; subst e2
    rw [lcells_length] at hlt
    rw [if_neg (by omega)]))
  obtain ⟨AD, hAD⟩ : ∃ AD, (if c = i + 1 then some (⟨ab, ao, none⟩ : Addr) else some ⟨ab, ao + (i + 1) * 3, none⟩) = AD := ⟨_, rfl⟩
  rw [hAD] at HD
  have HGL := Lib.hid hw1.lt
  have HGW := Lib.hid hrow0
  have HO1 := Lib.hid ho1
  have HB1 := Lib.hid hb1
  have HR1 := Lib.hid hr1
  clear ho1 hb1 hr1 hw1 hrow0
  go_wp2_with fail
  have hwr : IntKind.i64.wrap ((i : Int) + 1) = (i : Int) + 1 := by rw [IntKind.wrap_i64]; omega
  have hp0 : (0 : Int) ≤ (i : Int) + 1 := by omega
  have hp1 : (i : Int) + 1 ≤ (row.length : Int) := by omega
  have hp2 : ((i : Int) + 1).toNat = i + 1 := by omega
  have hic : i ≤ c := by omega
  go_region_law (
    refine step_append_row _ rfl (.tmp 22) (.tmp 29) 149 149 rfl 47 i0 _ 3 32 Try.underlying149 hi0 hz0 hz1 hz2 rfl _ i i _ g rfl ((HT.out.alloc _).drew) _ (row.length - (i + 1)) _ rfl (src_of_rd _ Try.underlying149 (by rw [← lcells_drop, lcells_length, List.length_drop]) ((HD.out.alloc _).drew) (by rw [← lcells_drop]; exact lcells_one' _)) ?_ ?_ ?_
    · have := HL.out; unfold maxLen; omega
    · have := HL.out; omega
    intro A' c' g' w2 hrow2 ho2 hg2
    have hb2 := ho2.blk ((HB1.out.alloc _).drew) (fun e => hgb e.symm)
    have hr2 := ho2.blk ((HR1.out.alloc _).drew) (fun e => by have := HGW.out _ e.symm; omega)
    have ht2 := ho2.blk ((Blk.new w1 _ _).drew) (fun e => by have := HGL.out _ e.symm; omega)
    have q2 := hb2.cell 2
    have s0 := hr2.cell 0
    have s1 := hr2.cell 1
    have s2 := hr2.cell 2
    have t0 := ht2.cell 0
    have t1 := ht2.cell 1
    have t2 := ht2.cell 2
    have u0 := hr2.frozen 0
    have u1 := hr2.frozen 1
    have u2 := hr2.frozen 2
    have u3 := hb2.frozen 2
    have v1 := hb2.lt
    have v2 := hr2.lt
    have v3 := ht2.lt
    have v4 : b ≠ w.heap.size := by omega
    have v5 : b ≠ w1.heap.size := by omega
    have v6 : w.heap.size ≠ w1.heap.size := by omega
    simp at q2 s0 s1 s2 t0 t1 t2
    have HW2 := Lib.hid hrow2
    have HO2 := Lib.hid ho2
    have HG2 := Lib.hid hg2
    clear hrow2 ho2 hg2 hb2 hr2 ht2 c2 k0 k1 k2 hwr hp0 hp1 hp2)
  all_goals
    go_wp2
    refine bodyPost_ret (v := .tuple #[.agg #[.int .i64 row[i].fr, .int .i64 row[i].to, .string row[i].tx], .bool true]) (by simp [results, Try.results25, go_sem, s0, s1, s2]) rfl ⟨rfl, ?_⟩
    have el : (row.eraseIdx i).length = i + (row.length - (i + 1)) := by rw [List.length_eraseIdx, if_pos hi]; omega
    refine net_close (fun k => k = w.heap.size) A' c' _ row.length c ⟨room, lost, row⟩ (NetM.take ⟨room, lost, row⟩ i) g' HR.out ?_ hgb HB.out HW.out.lt (((((Only.refl _ w).alloc _).trans HO1.out (fun _ _ h => h)).alloc _).drewN 1) HO2.out ?_ HG2.out rfl rfl (fun k e => ?_) ?_
    · have := HL.out; simp only [NetM.take, el]; omega
    · have := HW2.out; simp only [NetM.take, el]; rw [List.eraseIdx_eq_take_drop_succ, lcells_append, lcells_take, lcells_drop]; exact this
    · subst e; simp; omega
    · simp only [NetM.take, el]
      repeat (first | exact Only.refl _ _ | refine Only.setCell ?_ (.inr (by simp)) _)
end Go.Proofs.Ythnjpglpglbbkaa
