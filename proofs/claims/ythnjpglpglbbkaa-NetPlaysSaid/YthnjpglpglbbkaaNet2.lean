/- The walks over package net: Look, Take, Twice. -/
import Derived.Test.YthnjpglpglbbkaaNet
namespace Go.Proofs.Ythnjpglpglbbkaa
open Go.RowKit

theorem plook_no (b : Nat) (n : NetM) (g : Option Nat) (i : Int) (w : World) (h : PNet w b n g) (hf : n.has i = false) :
    Calls Try.prog 32 #[.pointer (some ⟨b, 0, none⟩), .int .i64 i] w fun e w' => e = .returned (.tuple #[.agg #[.int .i64 0, .int .i64 0, .string ⟨#[]⟩], .bool false]) ∧ Only (fun _ => False) w w' := by
  obtain ⟨room, lost, row⟩ := n
  obtain ⟨hroom, hlen, hgb, A, c, hb, hrow⟩ := h
  have hlt := hb.lt
  have c2 := hb.cell 2
  simp at c2
  clear hb hrow hroom hlen
  by_cases h0 : i < 0
  · have d1 : decide (i < 0) = true := by simpa using h0
    clear hf
    go_enter Try.func32, Try.ntmps32
    go_wp2
    refine bodyPost_ret (v := .tuple #[.agg #[.int .i64 0, .int .i64 0, .string ⟨#[]⟩], .bool false]) (by simp [results, Try.results32, go_sem]) rfl ⟨rfl, ?_⟩
    repeat (first | exact Only.refl _ _ | refine Only.setCell ?_ (.inl (by simp)) _ | refine Only.drewN ?_ _ | refine Only.drew ?_ | refine Only.alloc ?_ _)
  · have d1 : decide (i < 0) = false := by simpa using h0
    have d2 : (row.length : Int) ≤ i := by simp [NetM.has] at hf; omega
    have d3 : decide ((row.length : Int) ≤ i) = true := by simpa using d2
    clear hf
    go_enter Try.func32, Try.ntmps32
    go_wp2
    refine bodyPost_ret (v := .tuple #[.agg #[.int .i64 0, .int .i64 0, .string ⟨#[]⟩], .bool false]) (by simp [results, Try.results32, go_sem]) rfl ⟨rfl, ?_⟩
    repeat (first | exact Only.refl _ _ | refine Only.setCell ?_ (.inl (by simp)) _ | refine Only.drewN ?_ _ | refine Only.drew ?_ | refine Only.alloc ?_ _)
theorem plook_ok (b : Nat) (n : NetM) (g : Option Nat) (i : Nat) (w : World) (h : PNet w b n g) (hi : i < n.row.length) :
    Calls Try.prog 32 #[.pointer (some ⟨b, 0, none⟩), .int .i64 i] w fun e w' => e = .returned (.tuple #[.agg #[.int .i64 n.row[i].fr, .int .i64 n.row[i].to, .string n.row[i].tx], .bool true]) ∧ Only (fun _ => False) w w' := by
  obtain ⟨room, lost, row⟩ := n
  obtain ⟨hroom, hlen, hgb, A, c, hb, hrow⟩ := h
  have hlt := hb.lt
  have c2 := hb.cell 2
  obtain ⟨x0, x1, x2⟩ := lcells_at row i hi
  obtain ⟨ab, ao, rfl, hab, hc⟩ := hrow.rd.at_ x0
  have y0 := hc _ _ x0
  have y1 := hc _ _ x1
  have y2 := hc _ _ x2
  simp at c2 hi
  simp only [← Nat.add_assoc] at y1 y2
  dsimp only
  generalize row[i] = l at y0 y1 y2 ⊢
  obtain ⟨fr, to, tx⟩ := l
  dsimp only at y0 y1 y2 ⊢
  clear hb hrow hroom hlen x0 x1 x2 hc
  go_enter Try.func32, Try.ntmps32
  go_wp2
  refine bodyPost_ret (v := .tuple #[.agg #[.int .i64 fr, .int .i64 to, .string tx], .bool true]) (by simp [results, Try.results32, go_sem]) rfl ⟨rfl, ?_⟩
  repeat (first | exact Only.refl _ _ | refine Only.setCell ?_ (.inl (by simp)) _ | refine Only.drewN ?_ _ | refine Only.drew ?_ | refine Only.alloc ?_ _)
end Go.Proofs.Ythnjpglpglbbkaa
