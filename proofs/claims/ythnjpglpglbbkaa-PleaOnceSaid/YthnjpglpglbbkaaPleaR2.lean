/- Plea: the document's Move. -/
import Derived.Test.YthnjpglpglbbkaaPleaR
namespace Go.Proofs.Ythnjpglpglbbkaa
open Go.RowKit

section
variable {H : Hp} {w0 w : World} {L R : List Res}
/-- The length of the slice in a cell. -/
def slen (w : World) (a : Addr) : Nat := match w.cell? a with
  | some (.slice _ n _) => n
  | _ => 0
theorem slen_eq {w : World} {a : Addr} {A : Option Addr} {n c : Nat} (h : w.cell? a = some (.slice A n c)) : slen w a = n := by unfold slen; rw [h]
theorem rmove_ok (last : Int) (A1 A2 Ad : Option Addr) (c1 c2 cd : Nat) (op dr : List Ple) (head : H32) (done : List Int) (t : F8) (hb : op.length < 1000) (hdr : dr.length < 1000) (hd : done.length < 100000) (h1 : PSl H A1 op) (h2 : PSl H A2 dr) (hs : Sl H 1 Ad (i64s done)) (hf : Fz H w) :
    Calls Try.prog 72 #[rlv last A1 op.length c1 A2 dr.length c2, ha head, .slice Ad done.length cd, tv t.1] w (Outp H w fun H v => ∃ A n k A' n' k' A5 n5 c5, v = .tuple #[rlv last A n k A' n' k', .slice A5 n5 c5] ∧ n = (mvs head done (ff t) op dr).left.length ∧ PSl H A (mvs head done (ff t) op dr).left ∧
      n' = (trim (mvs head done (ff t) op dr).drop).length ∧ PSl H A' (trim (mvs head done (ff t) op dr).drop) ∧ n5 = (mvs head done (ff t) op dr).anew.length ∧ PSl H A5 (mvs head done (ff t) op dr).anew) := by
  have hM := Mem.start hf
  refine C_bevyref17_List_Move ?_
  unfold F_bevyref17_List_Move
  have et : tv t.1 = .agg (fl [.arr 8 (t.1.map (Value.int .i64))]).toArray := by simp [tv, fl, Fd.cells]
  rw [et]
  ((with_reducible (refine mm_box hM ?_; clear hM; intro _ _ hM; refine mm_box hM ?_; clear hM; intro _ _ hM; refine mm_box hM ?_; clear hM; intro _ _ hM; refine mm_new hM ?_; clear hM; intro _ _ hM; refine mop_c trivial ?_; refine mm_ld hM ?_; refine mop_c trivial ?_; refine mm_new hM ?_; clear hM; intro _ _ hM; refine mm_st hM ?_; clear hM; intro _ hM; refine mop_c trivial ?_; refine mm_ld hM ?_; refine mop_c trivial ?_; refine mm_ld hM ?_)))
  rename_i g4 _ g5 _ g7 _ g8 _ g10 _ _
  refine mm_apps0 hM h2 (by simp) (by omega) (fun A5 c5 w1 hM => ?_)
  ((with_reducible (refine mop_c trivial ?_; refine mm_st hM ?_; clear hM; intro _ hM)))
  refine ⟨fun x y w' => ∃ (i : Nat) (A3 : Option Addr) (c3 : Nat) (A4 : Option Addr) (c4 : Nat) (A5 : Option Addr) (c5 : Nat), x = .slice A3 (mvs head done (ff t) (op.take i) dr).anew.length c3 ∧ y = .int .i64 i ∧ i ≤ op.length ∧
    Mem H w [mprow A3 c3 (mvs head done (ff t) (op.take i) dr).anew, mprow A4 c4 (mvs head done (ff t) (op.take i) dr).left, mprow A5 c5 (mvs head done (ff t) (op.take i) dr).drop, fb g10 135 (rlf last A4 (mvs head done (ff t) (op.take i) dr).left.length c4 A5 (mvs head done (ff t) (op.take i) dr).drop.length c5),
      fb g8 135 (rlf 0 none 0 0 none 0 0), fb g7 118 [.arr 8 (t.1.map (Value.int .i64))], fb g5 30 [.arr 32 (u8s head.1)], fb g4 135 (rlf last A1 op.length c1 A2 dr.length c2)] w',
    fun _ y _ => match y with | .int _ i => op.length - i.toNat | _ => 0, ⟨0, none, 0, none, 0, A5, c5, rfl, rfl, by omega, (hM.row0 182 68).row0 182 68⟩, ?_⟩
  clear hM
  rintro x y u w2 ⟨i, A3, c3, A4, c4, A5, c5, rfl, rfl, hi, hM⟩
  have hlen := mvs_len head done (ff t) (op.take i) dr
  rw [List.length_take] at hlen
  ((with_reducible (refine mop_c trivial ?_; refine mm_ld hM ?_; refine mop_c trivial ?_)))
  ((with_reducible (refine mop_cS trivial ?_ ?_)))
  · intro hlt
    have hlt' : i < op.length := by omega
    ((with_reducible (refine mif_true ?_)))
    refine ⟨fun x w' => ∃ (A3 : Option Addr) (c3 : Nat) (A4 : Option Addr) (c4 : Nat) (A5 : Option Addr) (c5 : Nat), x = .slice A3 (mvs head done (ff t) (op.take (i + 1)) dr).anew.length c3 ∧
      Mem H w [mprow A3 c3 (mvs head done (ff t) (op.take (i + 1)) dr).anew, mprow A4 c4 (mvs head done (ff t) (op.take (i + 1)) dr).left, mprow A5 c5 (mvs head done (ff t) (op.take (i + 1)) dr).drop, fb g10 135 (rlf last A4 (mvs head done (ff t) (op.take (i + 1)) dr).left.length c4 A5 (mvs head done (ff t) (op.take (i + 1)) dr).drop.length c5),
      fb g8 135 (rlf 0 none 0 0 none 0 0), fb g7 118 [.arr 8 (t.1.map (Value.int .i64))], fb g5 30 [.arr 32 (u8s head.1)], fb g4 135 (rlf last A1 op.length c1 A2 dr.length c2)] w', ?_, ?_⟩
    · rw [mvs_succ _ _ _ _ _ _ hlt']
      generalize mvs head done (ff t) (op.take i) dr = s at hM hlen ⊢
      ((with_reducible (refine mop_c trivial ?_; refine mm_ld hM ?_)); (with_reducible refine mm_ixs ‹_› ?_ ?_ ?_); (focus (simp only [List.length_map]; omega)); (focus (simp only [List.length_map]; first | done | omega)); (with_reducible (intro _ _ hA)); (cases hA); (with_reducible refine mm_lds0 hM ‹_› (map_atI ?_) ?_); (focus omega); (with_reducible (refine mm_new hM ?_; clear hM; intro _ _ hM; refine mm_st hM ?_; clear hM; intro _ hM)))
      rename_i g13 _ _
      refine ⟨fun x w => x = .bool (decide (op[i].seq ∈ done ∨ op[i].epoch = head)) ∧ hM.now w, ?_, ?_⟩
      · ((with_reducible (refine mop_c trivial ?_; refine mm_ld hM ?_)))
        refine mm_pure hM (in_ok Ad cd _ done op[i].seq rfl (by omega) hs hM.fz) (fun w3 hM => ?_)
        cases hin : decide (op[i].seq ∈ done)
        · simp at hin
          ((with_reducible (refine mguard_yes ?_; refine mop_c trivial ?_; refine mguard_yes ?_; refine mm_ld hM ?_; refine mguard_yes ?_; refine mm_ld hM ?_; refine mguard_yes ?_)))
          ((with_reducible (refine mop_cS trivial ?_ ?_))) <;>
          · intro he
            ((with_reducible (refine mop_c trivial ?_)))
            exact ⟨by simp [hin, he], hM⟩
        · simp at hin
          ((with_reducible ((iterate 4 refine mguard_n1 ?_); refine mop_c trivial ?_)))
          exact ⟨by simp [hin], hM⟩
      · rintro x u w3 ⟨rfl, hM⟩
        by_cases h3 : op[i].seq ∈ done ∨ op[i].epoch = head
        · rw [decide_eq_true h3]
          have e : mv1 head done (ff t) s op[i] = ⟨s.left ++ [op[i]], s.anew, s.drop⟩ := by rw [mv1, if_pos h3]
          rw [e]
          simp only [mprow, List.length_append, List.length_cons, List.length_nil, Nat.zero_add] at hM ⊢
          ((with_reducible (refine mif_true ?_; refine mop_c trivial ?_; refine mm_ld hM ?_; refine mm_ld hM ?_; refine mm_bsl hM ?_ ?_ ?_)); (focus rfl); (focus (constructor <;> simp)); (with_reducible (clear hM; intro _ _ hM; refine mm_appo hM ?_ ?_)); (focus omega); (with_reducible (clear hM; intro _ _ _ hM; refine mop_c trivial ?_; refine mm_st hM ?_; clear hM; intro _ hM)))
          rw [psnoc s.left op[i]] at hM
          exact ⟨A3, c3, _, _, A5, c5, rfl, (hM.rm g13).perm (.swap ..)⟩
        · rw [decide_eq_false h3]
          ((with_reducible (refine mif_false ?_; refine mop_c trivial ?_; refine mm_ld hM ?_)))
          refine mm_pure hM (slot_ok op[i].chg hM.fz) (fun w4 hM => ?_)
          have hsl : slot op[i].chg < 8 := by unfold slot; omega
          ((with_reducible (refine mop_c ?_ ?_)); (focus omega))
          refine mm_lda hM (j := slot op[i].chg) (v := .int .i64 (ff t op[i].chg)) (by simp [t.2, hsl]) ?_
          ((with_reducible (refine mop_c trivial ?_; refine mm_st hM ?_; clear hM; intro _ hM; refine mop_c trivial ?_; refine mm_ld hM ?_)))
          ((with_reducible (refine mop_cS trivial ?_ ?_)))
          · intro h4
            have e : mv1 head done (ff t) s op[i] = ⟨s.left, s.anew, s.drop ++ [⟨op[i].seq, op[i].chg, op[i].epoch, ff t op[i].chg⟩]⟩ := by rw [mv1, if_neg h3, if_pos h4]
            rw [e]
            simp only [mprow, List.length_append, List.length_cons, List.length_nil, Nat.zero_add] at hM ⊢
            ((with_reducible (refine mif_true ?_; refine mop_c trivial ?_; refine mm_ld hM ?_; refine mm_ld hM ?_; refine mm_bsl hM ?_ ?_ ?_)); (focus rfl); (focus (constructor <;> simp)); (with_reducible (clear hM; intro _ _ hM; refine mm_appo hM ?_ ?_)); (focus omega); (with_reducible (clear hM; intro _ _ _ hM; refine mop_c trivial ?_; refine mm_st hM ?_; clear hM; intro _ hM)))
            rw [psnoc s.drop ⟨op[i].seq, op[i].chg, op[i].epoch, ff t op[i].chg⟩] at hM
            exact ⟨A3, c3, A4, c4, _, _, rfl, (hM.rm g13).perm ((List.Perm.swap ..).trans (.cons _ (.swap ..)))⟩
          · intro h4
            have e : mv1 head done (ff t) s op[i] = ⟨s.left ++ [⟨op[i].seq, op[i].chg, head, ff t op[i].chg⟩], s.anew ++ [⟨op[i].seq, op[i].chg, head, ff t op[i].chg⟩], s.drop⟩ := by rw [mv1, if_neg h3, if_neg h4]
            rw [e]
            simp only [mprow, List.length_append, List.length_cons, List.length_nil, Nat.zero_add] at hM ⊢
            ((with_reducible (refine mif_false ?_; refine mm_ld hM ?_; refine mop_c trivial ?_; refine mm_st hM ?_; clear hM; intro _ hM; refine mop_c trivial ?_; refine mm_ld hM ?_; refine mm_ld hM ?_; refine mm_bsl hM ?_ ?_ ?_)); (focus rfl); (focus (constructor <;> simp)); (with_reducible (clear hM; intro _ _ hM; refine mm_appo hM ?_ ?_)); (focus omega); (with_reducible (clear hM; intro _ _ _ hM; refine mop_c trivial ?_; refine mm_st hM ?_; clear hM; intro _ hM; refine mm_ld hM ?_; refine mm_bsl hM ?_ ?_ ?_)); (focus rfl); (focus (constructor <;> simp)); (with_reducible (clear hM; intro _ _ hM; refine mm_appo hM ?_ ?_)); (focus omega); (with_reducible (clear hM; intro _ _ _ hM)))
            rw [psnoc s.left ⟨op[i].seq, op[i].chg, head, ff t op[i].chg⟩, psnoc s.anew ⟨op[i].seq, op[i].chg, head, ff t op[i].chg⟩] at hM
            exact ⟨_, _, _, _, A5, c5, rfl, hM.rm g13⟩
    · rintro x u w3 ⟨A3, c3, A4, c4, A5, c5, rfl, hM⟩
      ((with_reducible (refine mop_c ?_ ?_)); (focus omega))
      exact ⟨⟨i + 1, A3, c3, A4, c4, A5, c5, rfl, by simp, by omega, hM⟩, by simp; omega⟩
  · intro hge
    have : i = op.length := by omega
    subst this
    rw [List.take_length] at hM hlen ⊢
    generalize mvs head done (ff t) op dr = s at hM hlen ⊢
    ((with_reducible (refine mif_false ?_)))
    have hc5 := ((hM.up A5).rowLen ⟨.refl _⟩).2.1
    obtain ⟨H', hl, hM, hs5, _⟩ := hM.fz1 A5
    refine ⟨fun w' => ∃ (k : Nat) (A : Option Addr) (c : Nat), k ≤ s.drop.length - 32 ∧ s.drop.length - k ≤ c ∧ PSl H' A (s.drop.drop k) ∧
      Mem H' w [mprow A3 c3 s.anew, mprow A4 c4 s.left, fb g10 135 (rlf last A4 s.left.length c4 A (s.drop.length - k) c),
      fb g8 135 (rlf 0 none 0 0 none 0 0), fb g7 118 [.arr 8 (t.1.map (Value.int .i64))], fb g5 30 [.arr 32 (u8s head.1)], fb g4 135 (rlf last A1 op.length c1 A2 dr.length c2)] w',
      fun w' => slen w' ⟨g10, 2, none⟩, ⟨0, A5, c5, by omega, by omega, hs5, hM⟩, ?_⟩
    clear hM
    rintro u w3 ⟨k, A, c, hk, hkc, hsk, hM⟩
    have hold : slen w3 ⟨g10, 2, none⟩ = s.drop.length - k := slen_eq (((hM.upB g10).blf ⟨⟨_, .refl _, fun _ => .refl _⟩⟩).1.cell 2)
    ((with_reducible (refine mop_c trivial ?_; refine mm_ld hM ?_; refine mop_c trivial ?_)))
    ((with_reducible (refine mop_cS trivial ?_ ?_)))
    · intro h32
      obtain ⟨b, o, rfl⟩ := hsk.some_ (by simp; omega)
      ((with_reducible (refine mif_true ?_; refine mop_c trivial ?_; refine mm_ld hM ?_; refine mop_c ?_ ?_)); (focus omega); (with_reducible (refine mop_c trivial ?_; refine mm_st hM ?_; clear hM; intro _ hM)))
      have hs6 := hsk.drop 1
      rw [← List.map_drop, List.drop_drop] at hs6
      have hnew := slen_eq (((hM.upB g10).blf ⟨⟨_, .refl _, fun _ => .refl _⟩⟩).1.cell 2)
      simp only [show Int.toNat 1 = 1 from rfl, Nat.sub_sub] at hM hnew
      refine ⟨⟨k + 1, _, _, by omega, ?_, hs6, hM⟩, ?_⟩
      · omega
      · show slen _ _ < slen _ _
        rw [hnew, hold]
        omega
    · intro h32
      have ht : trim s.drop = s.drop.drop k := by
        unfold trim
        rw [show s.drop.length - 32 = k by omega]
      rw [ht, List.length_drop]
      ((with_reducible (refine mif_false ?_; refine mm_ld hM ?_; refine mm_st hM ?_; clear hM; intro _ hM; refine rm_ld hM ?_)))
      obtain ⟨H2, hl2, hM, hs3, _⟩ := hM.fz1 A3
      obtain ⟨H3, hl3, hM, hs4, _⟩ := hM.fz1 A4
      exact hM.out (hl.trans (hl2.trans hl3)) ⟨_, _, _, _, _, _, _, _, _, rfl, rfl, hs4, rfl, hsk.mono (hl2.trans hl3).le, rfl, hs3.mono hl3.le⟩
end
end Go.Proofs.Ythnjpglpglbbkaa
