/- The walk of the law NetOnce. -/
import Derived.Test.YthnjpglpglbbkaaNetA
import Derived.Test.YthnjpglpglbbkaaNetLeft
namespace Go.Proofs.Ythnjpglpglbbkaa
open Go.RowKit

theorem zeros300 : Try.zeroCells48 = Array.replicate 300 (.bool false) := by kernel_rfl
set_option maxRecDepth 100000 in
set_option maxHeartbeats 1000000 in
theorem once_walk (A B : Option Addr) (cA cB : Nat) (ss : List ByteArray) (zs : List Int) (w : World) (ha : Rd w A (ss.map .string)) (hb : Rd w B (zs.map (.int .i64))) (hlA : ss.length ≤ 300) (hlB : zs.length ≤ 300) :
    Calls Try.prog 4 #[.slice A ss.length cA, .slice B zs.length cB] w fun e w' => e = .returned (.bool true) ∧ Only (fun _ => False) w w' := by
  have d1 : decide ((300 : Int) < (ss.length : Int)) = false := by simp; omega
  have d2 : decide ((300 : Int) < (zs.length : Int)) = false := by simp; omega
  have HA := Lib.hid ha
  have HB := Lib.hid hb
  clear ha hb
  go_enter Try.func4, Try.ntmps4
  go_wp2_with fail
  refine (nawake _).mono ?_
  rintro e w1 ⟨rfl, ho1⟩
  have HO1 := Lib.hid ho1
  clear ho1
  go_wp2_with fail
  refine (pnew_ok 300 _ (by omega) (by omega)).mono ?_
  rintro e w2 ⟨rfl, hn2, ho2⟩
  have HN2 := Lib.hid hn2
  have HO2 := Lib.hid (HO1.out.trans ho2 (fun _ _ h => h))
  have hb0 := HO1.out.size
  clear hn2 ho2
  go_wp2_with fail
  go_loopw [7] (fun i wr => ∃ k : Nat, k ≤ ss.length ∧ i = .int .i64 k ∧ ∃ g, PNet wr w1.heap.size ⟨300, 0, sent ss k⟩ g ∧ Only (fun _ => False) w wr ∧ ∀ j, g = some j → w.heap.size ≤ j) (fun i _ => ss.length - (intOf i).toNat)
  case atStart => exact ⟨0, by omega, rfl, none, HN2.out, HO2.out, fun j e => by cases e⟩
  case round =>
    obtain ⟨k, hk, rfl, g, hn, ho, hg⟩ := hrel
    have HN := Lib.hid hn
    have HO := Lib.hid ho
    have HG := Lib.hid hg
    clear hn ho hg
    by_cases hlt : k < ss.length
    · have x0 : (ss.map Value.string)[k]? = some (.string ss[k]) := by simp [hlt]
      obtain ⟨ab, ao, rfl, hab, hc⟩ := HA.out.at_ x0
      have y0 := (HO.out.cell (p := ⟨ab, ao + k, none⟩) hab (fun e => e)).trans (hc k _ x0)
      clear hc x0
      go_wp2_with fail
      refine (psend_ok _ _ g ⟨(k : Int), (ss[k].size : Int), ⟨#[]⟩⟩ _ HN.out (by simp [NetM.full, sent_len]; omega)).mono ?_
      rintro e w3 ⟨rfl, g3, hn3, ho3, hg3⟩
      have HN3 := Lib.hid hn3
      have HO3 := Lib.hid ho3
      have HG3 := Lib.hid hg3
      clear hn3 ho3 hg3
      go_wp2_with fail
      go_roundw
      case rel =>
        refine ⟨k + 1, hlt, by go_num, g3, ?_, HO.out.net HO3.out (.inl hb0) (fun j hj => .inl (HG.out j hj)), own_up HG3.out HG.out HO.out.size⟩
        have := HN3.out
        rw [sent_succ ss k hlt]
        exact this
      case measure => simp [intOf]; omega
    · obtain rfl : k = ss.length := by omega
      obtain ⟨wo, rfl⟩ : ∃ wo : World, wo = wr := ⟨_, rfl⟩
      have hbn := HN.out.lt w1.heap.size (.inl rfl)
      have hgn := HN.out.lt
      have HS := Lib.hid (Blk.new wo 48 Try.zeroCells48)
      have HNs := Lib.hid (HN.out.only ((Only.refl (fun _ => False) wo).alloc (.cells Try.zeroCells48 48)) (fun _ _ e => e))
      have HOs := Lib.hid (HO.out.alloc (.cells Try.zeroCells48 48))
      have HGN := Lib.hid hgn
      clear hgn
      go_wp2_with fail
      go_loopw [9] (fun v wl => ∃ (i : Nat) (row : List Ltr) (g : Option Nat) (S : Array Value), v = .int .i64 i ∧ PNet wl w1.heap.size ⟨300, 0, row⟩ g ∧ Left ss row S i ∧ Blk wl wo.heap.size 48 S ∧
        Only (fun _ => False) w wl ∧ ∀ j, g = some j → w.heap.size ≤ j ∧ j ≠ wo.heap.size) (fun v _ => ss.length - (intOf v).toNat)
      case atStart =>
        exact ⟨0, _, g, _, rfl, HNs.out, Left.start ss _ hlA zeros300, HS.out, HOs.out, fun j hj => ⟨HG.out j hj, fun e => by have := HGN.out j (.inr hj.symm); omega⟩⟩
      case round =>
        obtain ⟨i, row, g', S, rfl, hn, hleft, hbs, ho, hg⟩ := hrel
        have HN := Lib.hid hn
        have HL := Lib.hid hleft
        have HB2 := Lib.hid hbs
        have HO := Lib.hid ho
        have HG := Lib.hid hg
        have hcount := hleft.count
        clear hn hleft hbs ho hg
        go_wp2_with fail
        refine (plen _ _ g' _ HN.out).mono ?_
        rintro e w3 ⟨rfl, rfl⟩
        by_cases h0 : 0 < row.length
        · have hiT : i ≤ 300 := by omega
          by_cases hi : i < zs.length
          case' pos =>
            have x0 : (zs.map (Value.int .i64))[i]? = some (.int .i64 zs[i]) := by simp [hi]
            obtain ⟨ab, ao, rfl, hab, hc⟩ := HB.out.at_ x0
            have y0 := (HO.out.cell (p := ⟨ab, ao + i, none⟩) hab (fun e => e)).trans (hc i _ x0)
            clear hc x0
            go_wp2_with fail
            go_quiet ((go_at_call 24; exact quiet_left (plen _ _ g' _ (HN.out.only ((Only.refl (fun _ => False) wr).drewN _) (fun _ _ e => e)))))
            go_wp2_with fail
            obtain ⟨a, ha, hae⟩ := at_of zs[i] row.length h0 (by omega)
            rw [hae]
            have HX := Lib.hid (show Only (fun _ => False) wr (wr.drewN nq) from (Only.refl _ wr).drewN nq)
            generalize wr.drewN nq = wx at HX ⊢
            clear hae y0
          case' neg =>
            go_wp2_with fail
            obtain ⟨a, ha, hae⟩ : ∃ a : Nat, a < row.length ∧ Value.int .i64 0 = Value.int .i64 (a : Int) := ⟨0, h0, rfl⟩
            conv => arg 3; rw [hae]
            obtain ⟨wx, hwx⟩ : ∃ wx, wx = wr := ⟨_, rfl⟩
            have HX := Lib.hid (show Only (fun _ => False) wr wx by rw [hwx]; exact Only.refl _ _)
            rw [← hwx]
            clear hae hwx
          all_goals
            obtain ⟨f, hf, e1, e2⟩ := HL.out.each row[a] (List.getElem_mem ha)
            have HL' := Lib.hid (HL.out.step hlA a f ha hf e1)
            have hany : row.any (fun l => l.fr == (f : Int)) = true := by rw [List.any_eq_true]; exact ⟨row[a], List.getElem_mem ha, by simp [e1]⟩
            have hSf := HL.out.seen f hf
            rw [hany] at hSf
            have hff : f < 300 := by omega
            have hi1 : (f : Int) < 300 := by omega
            have hi2 : (f : Int) < (ss.length : Int) := by omega
            have hi3 : (0 : Int) ≤ (f : Int) := by omega
            have hgd : ss.getD f ⟨#[]⟩ = ss[f] := by simp [List.getD, hf]
            rw [hgd] at e2
            refine (ptake_ok _ _ g' a _ (HN.out.only HX.out (fun _ _ e => e)) ha).mono ?_
            simp only [e1, e2]
            rintro e w4 ⟨rfl, g4, hn4, ho4, hg4⟩
            have hb4 := ho4.blk (HX.out.blk HB2.out (fun e => e)) (fun e => by
              rcases e with e | e
              · omega
              · exact (HG.out _ e.symm).2 rfl)
            have hO4 := (HO.out.trans HX.out (fun _ _ h => h)).net ho4 (.inl hb0) (fun j hj => .inl (HG.out j hj).1)
            have k0 := hb4.cell f
            rw [hSf] at k0
            have k1 := hb4.frozen f
            have k2 := hb4.lt
            have hsz := HL.out.size
            have x0 : (ss.map Value.string)[f]? = some (.string ss[f]) := by simp [hf]
            obtain ⟨tb, to, rfl, htb, hc⟩ := HA.out.at_ x0
            have y0 := (hO4.cell (p := ⟨tb, to + f, none⟩) htb (fun e => e)).trans (hc f _ x0)
            have htb4 : tb < w4.heap.size := Nat.lt_of_lt_of_le htb hO4.size
            have z1 : decide ((f : Int) < 0) = false := by simp
            have z2 : decide ((ss.length : Int) ≤ (f : Int)) = false := by simp; omega
            have z3 : (((ss[f].size : Int)) != (ss[f].size : Int)) = false := by simp
            have HN4 := Lib.hid hn4
            have HG4 := Lib.hid hg4
            have HB4 := Lib.hid hb4
            have HO4 := Lib.hid hO4
            clear hn4 ho4 hg4 hb4 hO4 hc x0 hSf hany e1 e2 hgd
            simp at k0
            go_wp2_with fail
            go_quiet (fail)
            go_wp2_with fail
            go_roundw
            case rel =>
              have hg4 : ∀ j, g4 = some j → w.heap.size ≤ j ∧ j ≠ wo.heap.size := fun j hj => by
                rcases HG4.out j hj with h | h
                · exact HG.out j h
                · have h1 := HX.out.size; have h2 := HB2.out.lt; have h3 := HO.out.size; omega
              refine ⟨i + 1, row.eraseIdx a, g4, S.setIfInBounds f (.bool true), by go_num, HN4.out.only (S := fun k => k = wo.heap.size) ((((Only.refl (fun k => k = wo.heap.size) w4).alloc _).drewN _).setCell (.inr (by simp)) _) (fun k hk e => ?_), HL'.out, ((HB4.out.alloc _).drewN _).set_ f _, ((HO4.out.alloc _).drewN _).setCell (.inl ?_) _, hg4⟩
              · rcases hk with hk | hk
                · omega
                · exact (hg4 k hk.symm).2 e
              · show w.heap.size ≤ wo.heap.size; omega
            case measure => simp [intOf]; omega
        · have hrow : row = [] := List.eq_nil_of_length_eq_zero (by omega)
          subst hrow
          obtain ⟨wp, rfl⟩ : ∃ wp : World, wp = wr := ⟨_, rfl⟩
          go_wp2_with fail
          go_loopw [13] (fun v wl => wl = wp ∧ ∃ k : Nat, k ≤ ss.length ∧ v = .int .i64 k) (fun v _ => ss.length - (intOf v).toNat)
          case atStart => exact ⟨rfl, 0, by omega, rfl⟩
          case round =>
            obtain ⟨rfl, k, hk, rfl⟩ := hrel
            by_cases hlt : k < ss.length
            · have y0 := HB2.out.cell k
              rw [HL.out.seen k hlt] at y0
              simp at y0
              have hi1 : (k : Int) < 300 := by omega
              go_wp2_with fail
              go_roundw
              case rel => exact ⟨trivial, k + 1, hlt, by go_num⟩
              case measure => simp [intOf]; omega
            · go_wp2_with fail
              refine (plost _ _ g' _ HN.out).mono ?_
              rintro e w5 ⟨rfl, rfl⟩
              go_wp2_with fail
              go_ret
              exact ⟨rfl, HO.out⟩
end Go.Proofs.Ythnjpglpglbbkaa
