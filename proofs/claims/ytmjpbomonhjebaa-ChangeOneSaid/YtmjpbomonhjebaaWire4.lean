/- Wire: readers that know that they hold bytes; the document's readers. -/
import Derived.Test.YtmjpbomonhjebaaWire3
import Derived.Test.YtmjpbomonhjebaaMow
namespace Go.Proofs.Ytmjpbomonhjebaa
open Go.RowKit

theorem tk_le (n : Nat) (s : RS) : (tk n s).2.2.1.length ≤ s.1.length := by
  unfold tk
  split
  · exact Nat.le_refl _
  · split
    · exact Nat.le_refl _
    · simp
theorem nm_le (most : Int) (s : RS) : (nm most s).2.1.length ≤ s.1.length := by
  unfold nm
  split
  · exact Nat.le_refl _
  · split
    · simp
    · split
      · exact Nat.le_refl _
      · split
        · simp
        · split <;> simp
def endE (s : RS) : Int := if s.2 ≠ 0 then s.2 else if s.1 ≠ [] then 4 else 0
/-- A reader's bytes and error. -/
structure RdS where
  l : List Int
  e : Int
  ok : Byt l ∧ l.length ≤ 1000000000000
def RdS.rs (s : RdS) : RS := (s.l, s.e)
def nmS (most : Int) (s : RdS) : Int × RdS := ((nm most s.rs).1, ⟨(nm most s.rs).2.1, (nm most s.rs).2.2, nm_byt most s.rs s.ok.1, Nat.le_trans (nm_le most s.rs) s.ok.2⟩)
def hsS (s : RdS) : H32 × RdS := ((rdH s.rs).1, ⟨(rdH s.rs).2.1, (rdH s.rs).2.2, rdH_byt s.rs s.ok.1, Nat.le_trans (tk_le 32 s.rs) s.ok.2⟩)
def rwS (n : Nat) (s : RdS) : List Int × RdS := ((tk n s.rs).1, ⟨(tk n s.rs).2.2.1, (tk n s.rs).2.2.2, (tk_byt s.ok.1).2, Nat.le_trans (tk_le n s.rs) s.ok.2⟩)
def endS (s : RdS) : Int := endE s.rs
theorem nmS_ok {most : Int} {s : RdS} (h : (nmS most s).2.e = 0) : s.e = 0 ∧ s.l = numB (nmS most s).1 ++ (nmS most s).2.l := nm_ok most s.rs s.ok.1 h
theorem hsS_ok {s : RdS} (h : (hsS s).2.e = 0) : s.e = 0 ∧ s.l = (hsS s).1.1 ++ (hsS s).2.l := rdH_ok s.rs s.ok.1 h
theorem nmS_back {most n : Int} {s : RdS} {r : List Int} (h : 0 ≤ n ∧ n ≤ most) (hm : most ≤ 4611686018427387903) (hl : s.l = numB n ++ r) (he : s.e = 0) : (nmS most s).1 = n ∧ (nmS most s).2.l = r ∧ (nmS most s).2.e = 0 := by
  have := nm_back most n r h hm
  unfold nmS RdS.rs
  simp only [hl, he, this]
  exact ⟨trivial, trivial, trivial⟩
theorem hsS_back {h : H32} {s : RdS} {r : List Int} (hl : s.l = h.1 ++ r) (he : s.e = 0) : (hsS s).1 = h ∧ (hsS s).2.l = r ∧ (hsS s).2.e = 0 := by
  have := rdH_back h r
  unfold hsS RdS.rs
  simp only [hl, he, this]
  exact ⟨trivial, trivial, trivial⟩
theorem endS_ok {s : RdS} (h : endS s = 0) : s.e = 0 ∧ s.l = [] := by
  unfold endS endE RdS.rs at h
  by_cases h1 : s.e = 0
  · simp [h1] at h
    exact ⟨h1, h⟩
  · simp [h1] at h
theorem endS_back {s : RdS} (hl : s.l = []) (he : s.e = 0) : endS s = 0 := by
  unfold endS endE RdS.rs
  simp [hl, he]
theorem str_inj {a b : List Int} (ha : Byt a) (hb : Byt b) : strOfNums a = strOfNums b ↔ a = b := ⟨fun h => by rw [← ints_str a ha, h, ints_str b hb], fun h => by rw [h]⟩
abbrev rdC (s : RdS) : List Fd := [.one (.string (strOfNums s.l)), .one (.int .i64 s.e)]
abbrev rdO (g : Nat) (s : RdS) : Res := fb g 140 (rdC s)
abbrev rrO (g : Nat) (s : RdS) : Res := fb g 97 (rdC s)
theorem numB_byt (n : Int) (h : 0 ≤ n) (h2 : n ≤ 4611686018427387903) : Byt (numB n) := by
  unfold numB
  split
  · intro x hx
    rw [List.mem_singleton.1 hx]
    omega
  · split
    · intro x hx
      simp only [List.mem_cons, List.not_mem_nil, or_false] at hx
      rcases hx with rfl | rfl <;> omega
    · split
      · intro x hx
        simp only [List.mem_cons, List.not_mem_nil, or_false] at hx
        rcases hx with rfl | rfl | rfl | rfl <;> omega
      · intro x hx
        simp only [List.mem_cons, List.not_mem_nil, or_false] at hx
        rcases hx with rfl | rfl | rfl | rfl | rfl | rfl | rfl | rfl <;> omega
theorem u8s_set (l : List Int) (i : Nat) (x : Int) : (u8s l).set i (.int .u8 x) = u8s (l.set i x) := by simp [u8s, List.map_set]
theorem tk_set (K B : List Int) (i : Nat) (h : i < B.length) (h2 : i < K.length) : B.take (i + 1) ++ K.drop (i + 1) = (B.take i ++ K.drop i).set i (B.getD i 0) := by
  have e : B.getD i 0 = B[i] := by simp [h]
  rw [e, List.set_append_right _ _ (by simp; omega), List.take_succ_eq_append_getElem h, List.length_take, Nat.min_eq_left (by omega), Nat.sub_self, List.drop_eq_getElem_cons h2, List.append_assoc]
  rfl
section
variable {H : Hp} {w0 w : World} {L R : List Res} {g : Nat} {s : RS}
theorem rrnum_ok (most : Int) (hm : 0 ≤ most ∧ most ≤ 4611686018427387903) (hl : Byt s.1) (hz : s.1.length ≤ 1000000000000) (hM : Mem H w0 (rrR g s :: L) w) : Calls Try.prog 114 #[.pointer (some ⟨g, 0, none⟩), .int .i64 most] w fun en w' => ∃ v, en = .returned v ∧ v = .int .i64 (nm most s).1 ∧ Mem H w0 (rrR g (nm most s).2 :: L) w' := by
  refine C_bevyref01_Reader_Num ?_
  unfold F_bevyref01_Reader_Num
  obtain ⟨l, e⟩ := s
  simp only at hl hz
  ((with_reducible (refine mop_c trivial ?_; refine mop_c trivial ?_; refine mm_ld hM ?_)))
  ((with_reducible (refine mop_cS trivial ?_ ?_)))
  · intro h
    ((with_reducible (refine mif_true ?_)))
    refine ⟨_, rfl, ?_, ?_⟩ <;> (unfold nm; rw [if_pos h])
    exact hM
  · intro h0
    obtain rfl : e = 0 := by simpa using h0
    ((with_reducible (refine mif_false ?_; refine mop_c trivial ?_; refine mop_c trivial ?_; refine mm_ld hM ?_; refine mop_c trivial ?_)))
    rw [strOfNums_size]
    cases l with
    | nil =>
      refine mop_cT trivial rfl ?_
      ((with_reducible (refine mif_true ?_; refine mop_c trivial ?_; refine mop_c trivial ?_; refine mm_st hM ?_; clear hM; intro _ hM)))
      exact ⟨_, rfl, rfl, hM⟩
    | cons a r =>
      refine mop_cF trivial (by simp; omega) ?_
      have ha := hl a (by simp)
      ((with_reducible (refine mif_false ?_; refine mop_c trivial ?_; refine mop_c trivial ?_; refine mm_ld hM ?_)))
      refine mop_sixv (v := a) (by kernel_rfl) hl (by simp) rfl ?_
      ((with_reducible (refine mop_c ?_ ?_)); (focus omega))
      refine ⟨fun x y w' => ((x = .int .i64 1 ∧ y = .int .i64 0) ∨ (x = .int .i64 2 ∧ y = .int .i64 1 ∧ 64 ≤ a) ∨ (x = .int .i64 4 ∧ y = .int .i64 2 ∧ 128 ≤ a) ∨ (x = .int .i64 8 ∧ y = .int .i64 3 ∧ 192 ≤ a)) ∧ Mem H w0 (rrR g (a :: r, 0) :: L) w', fun _ y _ => match y with | .int _ i => (4 - i).toNat | _ => 0, ⟨.inl ⟨rfl, rfl⟩, hM⟩, ?_⟩
      clear hM
      rintro x y u w4 ⟨hxy, hM⟩
      by_cases hend : (x = .int .i64 (szN a) ∧ y = .int .i64 (a / 64))
      · obtain ⟨rfl, rfl⟩ := hend
        ((with_reducible (refine mop_c ?_ ?_)); (focus omega); (with_reducible (refine mop_cF trivial ?_ ?_)); (focus (first | assumption | omega | with_reducible rfl | exact fun h => Bool.noConfusion h)); (with_reducible (refine mif_false ?_; refine mop_c trivial ?_; refine mop_c trivial ?_; refine mm_ld hM ?_; refine mop_c trivial ?_)))
        have hsp := szN_pos a
        have hsz := strOfNums_size (a :: r)
        rw [nm_cons]
        by_cases h3 : (a :: r).length < szN a
        · rw [if_pos h3]
          refine mop_cT trivial (by rw [hsz]; omega) ?_
          ((with_reducible (refine mif_true ?_; refine mop_c trivial ?_; refine mop_c trivial ?_; refine mm_st hM ?_; clear hM; intro _ hM)))
          exact ⟨_, rfl, rfl, hM⟩
        · rw [if_neg h3]
          refine mop_cF trivial (by rw [hsz]; omega) ?_
          have hbl : ((a :: r).take (szN a)).length = szN a := by rw [List.length_take]; omega
          have hbb : Byt ((a :: r).take (szN a)) := hl.take _
          have hfo := form_iff (a :: r) hl (by show szN a ≤ _; omega) (by simp)
          simp only [List.headD_cons] at hfo
          ((with_reducible (refine mif_false ?_; refine mop_c ?_ ?_)); (focus omega))
          generalize hB : (a :: r).take (szN a) = B at hbl hbb hfo ⊢
          have hB1 : vl (B.take 1) = a % 64 := by
            subst hB
            obtain ⟨k, hk⟩ : ∃ k, szN a = k + 1 := ⟨szN a - 1, by omega⟩
            rw [hk]
            rfl
          refine ⟨fun x y w' => ∃ i : Nat, x = .int .i64 (vl (B.take i)) ∧ y = .int .i64 i ∧ 1 ≤ i ∧ i ≤ szN a ∧ Mem H w0 (rrR g (a :: r, 0) :: L) w', fun _ y _ => match y with | .int _ i => szN a - i.toNat | _ => 0, ⟨1, by rw [hB1], rfl, by omega, by omega, hM⟩, ?_⟩
          clear hM
          rintro x y u w5 ⟨i, rfl, rfl, hi1, hi2, hM⟩
          have hbd := vl_bd B hbb (i - 1) (by omega)
          rw [show i - 1 + 1 = i by omega] at hbd
          by_cases hlt : i < szN a
          · have hp : (256 : Int) ^ (i - 1) ≤ 256 ^ 6 := by
              obtain h | h | h | h | h | h | h : i - 1 = 0 ∨ i - 1 = 1 ∨ i - 1 = 2 ∨ i - 1 = 3 ∨ i - 1 = 4 ∨ i - 1 = 5 ∨ i - 1 = 6 := by omega
              all_goals rw [h]; decide
            have hp6 : (256 : Int) ^ 6 = 281474976710656 := by decide
            have hv : 0 ≤ vl (B.take i) ∧ vl (B.take i) < 18014398509481984 := by omega
            have hx := hbb.getD i
            have hg : (a :: r).getD i 0 = B.getD i 0 := by
              subst hB
              rw [List.getD_eq_getElem?_getD, List.getD_eq_getElem?_getD, List.getElem?_take, if_pos hlt]
            ((with_reducible (refine mop_cT trivial ?_ ?_)); (focus (first | assumption | omega | with_reducible rfl | exact fun h => Bool.noConfusion h)); (with_reducible (refine mif_true ?_; refine mop_c ?_ ?_)); (focus omega); (with_reducible (refine mop_c trivial ?_; refine mop_c trivial ?_; refine mm_ld hM ?_)))
            refine mop_sixv (v := B.getD i 0) (by kernel_rfl) hl (by show _ ∧ _ < ((a :: r).length : Int); omega) (by rw [Int.toNat_natCast]; exact hg) ?_
            ((with_reducible (refine mop_c ?_ ?_)); (focus omega); (with_reducible (refine mop_c ?_ ?_)); (focus omega); (with_reducible (refine mop_c ?_ ?_)); (focus omega))
            exact ⟨⟨i + 1, by rw [vl_succ B i hi1 (by omega)], rfl, by omega, by omega, hM⟩, by dsimp only; omega⟩
          · obtain rfl : i = szN a := by omega
            have hT : B.take (szN a) = B := List.take_of_length_le (by omega)
            rw [hT] at hbd ⊢
            have hvB : 0 ≤ vl B := hbd.1
            have hvT : vl B ≤ 4611686018427387903 := by
              have hp : (256 : Int) ^ (szN a - 1) ≤ 256 ^ 7 := by
                obtain h | h | h | h | h | h | h | h : szN a - 1 = 0 ∨ szN a - 1 = 1 ∨ szN a - 1 = 2 ∨ szN a - 1 = 3 ∨ szN a - 1 = 4 ∨ szN a - 1 = 5 ∨ szN a - 1 = 6 ∨ szN a - 1 = 7 := by omega
                all_goals rw [h]; decide
              have hp6 : (256 : Int) ^ 7 = 72057594037927936 := by decide
              omega
            ((with_reducible (refine mop_cF trivial ?_ ?_)); (focus (first | assumption | omega | with_reducible rfl | exact fun h => Bool.noConfusion h)); (with_reducible (refine mif_false ?_; refine mop_c trivial ?_; refine mop_c trivial ?_; refine mm_ld hM ?_; refine mop_c ?_ ?_)); (focus (simp only [and_true]; omega)); (with_reducible (refine mop_c trivial ?_; refine mop_c trivial ?_; refine mm_ld hM ?_; refine mop_c ?_ ?_)); (focus (simp only [and_true]; omega)); (with_reducible (refine mop_c trivial ?_; refine mop_c trivial ?_; refine mm_st hM ?_; clear hM; intro _ hM; refine mm_purC hM ?_ ?_)); (focus (first | exact trivial | assumption | omega)); (with_reducible (clear hM; intro _ hM)))
            have ex1 : (strOfNums (a :: r, (0 : Int)).1).extract 0 ((szN a : Nat) : Int).toNat = strOfNums B := by rw [Int.toNat_natCast, str_take hl, hB]
            have ex2 : (strOfNums (a :: r, (0 : Int)).1).extract ((szN a : Nat) : Int).toNat (strOfNums (a :: r, (0 : Int)).1).size = strOfNums ((a :: r).drop (szN a)) := by rw [Int.toNat_natCast, str_drop hl]
            rw [ex1]
            rw [ex2] at hM
            by_cases h4 : vl B < bdN a
            · rw [if_pos h4]
              refine mop_cT trivial (show strOfNums (numB (vl B)) ≠ strOfNums B from fun hc => hfo.2 h4 ((str_inj (numB_byt _ hvB hvT) hbb).1 hc)) ?_
              ((with_reducible (refine mif_true ?_; refine mop_c trivial ?_; refine mop_c trivial ?_; refine mm_st hM ?_; clear hM; intro _ hM)))
              exact ⟨_, rfl, rfl, hM⟩
            · rw [if_neg h4]
              refine mop_cF trivial (show ¬ strOfNums (numB (vl B)) ≠ strOfNums B from fun hn => hn (by rw [Classical.not_not.1 fun hc => h4 (hfo.1 hc)])) ?_
              ((with_reducible (refine mif_false ?_)))
              by_cases h5 : most < vl B
              · rw [if_pos h5]
                ((with_reducible (refine mop_cT trivial ?_ ?_)); (focus (first | assumption | omega | with_reducible rfl | exact fun h => Bool.noConfusion h)); (with_reducible (refine mif_true ?_; refine mop_c trivial ?_; refine mop_c trivial ?_; refine mm_st hM ?_; clear hM; intro _ hM)))
                exact ⟨_, rfl, rfl, hM⟩
              · rw [if_neg h5]
                ((with_reducible (refine mop_cF trivial ?_ ?_)); (focus (first | assumption | omega | with_reducible rfl | exact fun h => Bool.noConfusion h)); (with_reducible (refine mif_false ?_)))
                exact ⟨_, rfl, rfl, hM⟩
      · have hq : a / 64 = 0 ∨ a / 64 = 1 ∨ a / 64 = 2 ∨ a / 64 = 3 := by omega
        rcases hxy with ⟨rfl, rfl⟩ | ⟨rfl, rfl, h64⟩ | ⟨rfl, rfl, h64⟩ | ⟨rfl, rfl, h64⟩
        · have h1 : 0 < a / 64 := by
            rcases hq with h | h | h | h
            · exact absurd ⟨by rw [(szN1 (a := a) (by omega)).1]; rfl, by rw [h]⟩ hend
            all_goals omega
          ((with_reducible (refine mop_c ?_ ?_)); (focus omega); (with_reducible (refine mop_cT trivial ?_ ?_)); (focus (first | assumption | omega | with_reducible rfl | exact fun h => Bool.noConfusion h)); (with_reducible (refine mif_true ?_; refine mop_c ?_ ?_)); (focus omega); (with_reducible (refine mop_c ?_ ?_)); (focus omega))
          exact ⟨⟨.inr (.inl ⟨rfl, rfl, by omega⟩), hM⟩, by dsimp only; omega⟩
        · have h1 : 1 < a / 64 := by
            rcases hq with h | h | h | h
            · omega
            · exact absurd ⟨by rw [(szN2 (a := a) (by omega)).1]; rfl, by rw [h]⟩ hend
            all_goals omega
          ((with_reducible (refine mop_c ?_ ?_)); (focus omega); (with_reducible (refine mop_cT trivial ?_ ?_)); (focus (first | assumption | omega | with_reducible rfl | exact fun h => Bool.noConfusion h)); (with_reducible (refine mif_true ?_; refine mop_c ?_ ?_)); (focus omega); (with_reducible (refine mop_c ?_ ?_)); (focus omega))
          exact ⟨⟨.inr (.inr (.inl ⟨rfl, rfl, by omega⟩)), hM⟩, by dsimp only; omega⟩
        · have h1 : 2 < a / 64 := by
            rcases hq with h | h | h | h
            · omega
            · omega
            · exact absurd ⟨by rw [(szN4 (a := a) (by omega)).1]; rfl, by rw [h]⟩ hend
            all_goals omega
          ((with_reducible (refine mop_c ?_ ?_)); (focus omega); (with_reducible (refine mop_cT trivial ?_ ?_)); (focus (first | assumption | omega | with_reducible rfl | exact fun h => Bool.noConfusion h)); (with_reducible (refine mif_true ?_; refine mop_c ?_ ?_)); (focus omega); (with_reducible (refine mop_c ?_ ?_)); (focus omega))
          exact ⟨⟨.inr (.inr (.inr ⟨rfl, rfl, by omega⟩)), hM⟩, by dsimp only; omega⟩
        · exact absurd ⟨by rw [(szN8 (a := a) (by omega)).1]; rfl, by rw [show a / 64 = 3 by omega]⟩ hend
end
section
variable {H : Hp} {w0 w : World} {L R : List Res} {g : Nat} {s : RdS}
instance (g : Nat) (s : RdS) (most : Int) : OwnC Try.prog 64 [.pointer (some ⟨g, 0, none⟩), .int .i64 most] (rdO g s) (0 ≤ most ∧ most ≤ 4611686018427387903) (rdO g (nmS most s).2) (.int .i64 (nmS most s).1) :=
  ⟨fun h _ _ _ _ hM => (rnumr_ok (s := s.rs) most h s.ok.1 s.ok.2 hM).mono fun _ _ ⟨v, e, hv, hM⟩ => ⟨by rw [e, hv]; rfl, hM⟩⟩
instance (g : Nat) (s : RdS) : OwnC Try.prog 63 [.pointer (some ⟨g, 0, none⟩)] (rdO g s) True (rdO g (hsS s).2) (ha (hsS s).1) :=
  ⟨fun _ _ _ _ _ hM => (rhashr_ok (s := s.rs) s.ok.1 s.ok.2 hM).mono fun _ _ ⟨v, e, hv, hM⟩ => ⟨by rw [e, hv]; rfl, hM⟩⟩
instance (g : Nat) (s : RdS) (n : Int) : OwnC Try.prog 145 [.pointer (some ⟨g, 0, none⟩), .int .i64 n] (rrO g s) (0 ≤ n ∧ n ≤ 65536) (rrO g (rwS n.toNat s).2) (.string (strOfNums (rwS n.toNat s).1)) :=
  ⟨fun h _ _ _ _ hM => by
    obtain ⟨k, rfl⟩ := Int.eq_ofNat_of_zero_le h.1
    exact (rrRaw_ok (s := s.rs) k (by omega) s.ok.1 s.ok.2 hM).mono fun _ _ ⟨v, e, hv, hM⟩ => ⟨by rw [e, hv]; rfl, hM⟩⟩
theorem rerr_ok (hM : Mem H w0 (rdO g s :: L) w) : Calls Try.prog 112 #[.pointer (some ⟨g, 0, none⟩)] w fun en w' => en = .returned (.int .i64 s.e) ∧ Mem H w0 (rdO g s :: L) w' := by
  refine C_wire_Reader_Err ?_
  unfold F_wire_Reader_Err
  ((with_reducible (refine mop_c trivial ?_; refine mif_false ?_; refine mop_c trivial ?_; refine mop_c trivial ?_; refine mm_ld hM ?_)))
  exact ⟨rfl, hM⟩
instance (g : Nat) (s : RdS) : OwnC Try.prog 112 [.pointer (some ⟨g, 0, none⟩)] (rdO g s) True (rdO g s) (.int .i64 s.e) := ⟨fun _ _ _ _ _ hM => rerr_ok hM⟩
theorem rend_ok (hM : Mem H w0 (rdO g s :: L) w) : Calls Try.prog 65 #[.pointer (some ⟨g, 0, none⟩)] w fun en w' => en = .returned (.int .i64 (endS s)) ∧ Mem H w0 (rdO g s :: L) w' := by
  refine C_wire_Reader_End ?_
  unfold F_wire_Reader_End
  refine ⟨fun x w' => x = .bool (decide (s.e = 0 ∧ s.l ≠ [])) ∧ hM.now w', ?_, ?_⟩
  · ((with_reducible (refine mm_ownC hM ?_ (fun _ hM2 => ?_))); (focus (first | exact trivial | assumption | omega)); (with_reducible (replace hM := hM2; clear hM2)))
    ((with_reducible (refine mop_cS trivial ?_ ?_)))
    · intro h
      ((with_reducible (refine mguard_yes ?_; refine mop_c trivial ?_; refine mguard_yes ?_; refine mop_c trivial ?_; refine mguard_yes ?_; refine mop_c trivial ?_; refine mguard_yes ?_; refine mm_ld hM ?_; refine mguard_yes ?_)))
      by_cases h2 : s.l = []
      · refine mop_cF trivial (fun hn => hn (by rw [h2]; rfl)) ?_
        ((with_reducible (refine mop_c trivial ?_)))
        exact ⟨by simp [h2], hM⟩
      · refine mop_cT trivial (show strOfNums s.l ≠ ByteArray.mk #[] from fun h3 => h2 ((str_inj (b := []) s.ok.1 (fun x hx => by cases hx)).1 (by rw [h3]; rfl))) ?_
        ((with_reducible (refine mop_c trivial ?_)))
        exact ⟨by simp [h, h2], hM⟩
    · intro h
      ((with_reducible ((iterate 5 refine mguard_n2 ?_); refine mop_c trivial ?_)))
      exact ⟨by simp [h], hM⟩
  rintro x u w2 ⟨rfl, hM⟩
  by_cases h : s.e = 0 ∧ s.l ≠ []
  · rw [decide_eq_true h]
    ((with_reducible (refine mif_true ?_)))
    exact ⟨by unfold endS endE RdS.rs; simp [h.1, h.2], hM⟩
  · rw [decide_eq_false h]
    ((with_reducible (refine mif_false ?_; refine mm_ownC hM ?_ ?_)); (focus (first | exact trivial | assumption | omega)); (with_reducible (clear hM; intro _ hM)))
    refine ⟨?_, hM⟩
    unfold endS endE RdS.rs
    by_cases h1 : s.e = 0
    · have : s.l = [] := Classical.not_not.1 fun hc => h ⟨h1, hc⟩
      simp [h1, this]
    · simp [h1]
instance (g : Nat) (s : RdS) : OwnC Try.prog 65 [.pointer (some ⟨g, 0, none⟩)] (rdO g s) True (rdO g s) (.int .i64 (endS s)) := ⟨fun _ _ _ _ _ hM => rend_ok hM⟩
theorem rrend_ok (hM : Mem H w0 (rrO g s :: L) w) : Calls Try.prog 67 #[.pointer (some ⟨g, 0, none⟩)] w fun en w' => en = .returned (.int .i64 (endS s)) ∧ Mem H w0 (rrO g s :: L) w' := by
  refine C_bevyref01_Reader_End ?_
  unfold F_bevyref01_Reader_End
  ((with_reducible (refine mop_c trivial ?_; refine mop_c trivial ?_; refine mm_ld hM ?_)))
  ((with_reducible (refine mop_cS trivial ?_ ?_)))
  · intro h
    ((with_reducible (refine mif_true ?_; refine mop_c trivial ?_; refine mop_c trivial ?_; refine mm_ld hM ?_)))
    exact ⟨by unfold endS endE RdS.rs; simp [h], hM⟩
  · intro h
    have h0 : s.e = 0 := by omega
    ((with_reducible (refine mif_false ?_; refine mop_c trivial ?_; refine mop_c trivial ?_; refine mm_ld hM ?_; refine mop_c trivial ?_)))
    rw [strOfNums_size]
    ((with_reducible (refine mop_cS trivial ?_ ?_)))
    · intro h2
      ((with_reducible (refine mif_true ?_)))
      exact ⟨by
        have : s.l ≠ [] := by intro hc; rw [hc] at h2; simp at h2
        unfold endS endE RdS.rs; simp [h0, this], hM⟩
    · intro h2
      ((with_reducible (refine mif_false ?_)))
      exact ⟨by
        have : s.l = [] := List.eq_nil_of_length_eq_zero (by omega)
        unfold endS endE RdS.rs; simp [h0, this], hM⟩
instance (g : Nat) (s : RdS) : OwnC Try.prog 67 [.pointer (some ⟨g, 0, none⟩)] (rrO g s) True (rrO g s) (.int .i64 (endS s)) := ⟨fun _ _ _ _ _ hM => rrend_ok hM⟩
theorem from_ok (s : RdS) (he : s.e = 0) (hM : Mem H w0 L w) : Calls Try.prog 62 #[.string (strOfNums s.l)] w fun en w' => ∃ v, en = .returned v ∧ ∃ g, v = .pointer (some ⟨g, 0, none⟩) ∧ Mem H w0 (rdO g s :: L) w' := by
  refine C_wire_From ?_
  unfold F_wire_From
  ((with_reducible (refine mop_c trivial ?_; refine mm_box hM ?_; clear hM; intro _ _ hM)))
  rw [← he] at hM
  exact ⟨_, rfl, _, rfl, hM⟩
theorem rrhash_ok (hM : Mem H w0 (rrO g s :: L) w) : Calls Try.prog 113 #[.pointer (some ⟨g, 0, none⟩)] w fun en w' => en = .returned (ha (hsS s).1) ∧ Mem H w0 (rrO g (hsS s).2 :: L) w' := by
  refine C_bevyref01_Reader_Hash ?_
  unfold F_bevyref01_Reader_Hash
  ((with_reducible (refine mm_new hM ?_; clear hM; intro _ _ hM; refine mm_new hM ?_; clear hM; intro _ _ hM; refine mm_ownC hM ?_ ?_)); (focus (first | exact trivial | assumption | omega)); (with_reducible (clear hM; intro _ hM)))
  rename_i g2 _ g3 _ _
  have hb : Byt (rwS 32 s).1 := (tk_byt s.ok.1).1
  have hl : (rwS 32 s).1.length ≤ 32 := by rcases tk_len 32 s.rs with e | e <;> (show (tk 32 s.rs).1.length ≤ 32) <;> rw [e] <;> simp
  have hd : (rwS 32 s).1 ++ hzero.1.drop (rwS 32 s).1.length = (hsS s).1.1 := tk_hs s.ok.1
  have hz : (hzero.1).length = 32 := hzero.2.1
  generalize hB : (rwS 32 s).1 = B at hb hl hd
  have hM : Mem H w0 (fb g3 22 [.arr 32 (u8s (B.take 0 ++ hzero.1.drop 0))] :: fb g2 22 [.arr 32 (u8s hzero.1)] :: rrO g (hsS s).2 :: L) _ := hM
  refine ⟨fun x w' => ∃ i : Nat, x = .int .i64 i ∧ i ≤ B.length ∧ Mem H w0 (fb g3 22 [.arr 32 (u8s (B.take i ++ hzero.1.drop i))] :: fb g2 22 [.arr 32 (u8s hzero.1)] :: rrO g (hsS s).2 :: L) w', fun x _ => match x with | .int _ i => B.length - i.toNat | _ => 0, ⟨0, rfl, by omega, hM⟩, ?_⟩
  clear hM
  rintro x u w4 ⟨i, rfl, hi, hM⟩
  rw [show (rwS (Int.toNat 32) s).1 = B from hB]
  ((with_reducible (refine mop_c trivial ?_)))
  rw [strOfNums_size]
  ((with_reducible (refine mop_cS trivial ?_ ?_)))
  · intro h
    have hx := hb.getD i
    ((with_reducible (refine mif_true ?_)))
    refine mop_sixv (v := B.getD i 0) (by kernel_rfl) hb (by omega) (by rw [Int.toNat_natCast]) ?_
    ((with_reducible (refine mop_c ?_ ?_)); (focus omega); (with_reducible (refine mm_sta hM ?_ ?_)); (focus omega); (with_reducible (clear hM; intro _ hM; refine mop_c ?_ ?_)); (focus omega))
    refine ⟨⟨i + 1, rfl, by omega, ?_⟩, by dsimp only; omega⟩
    rw [tk_set hzero.1 B i (by omega) (by omega), ← u8s_set]
    rw [Int.toNat_natCast] at hM
    exact hM
  · intro h
    obtain rfl : i = B.length := by omega
    rw [List.take_length, hd] at hM
    ((with_reducible (refine mif_false ?_; refine mm_ld hM ?_; refine mm_st hM ?_; clear hM; intro _ hM; refine rm_ld hM ?_)))
    exact ⟨rfl, hM.sub⟩
instance (g : Nat) (s : RdS) : OwnC Try.prog 113 [.pointer (some ⟨g, 0, none⟩)] (rrO g s) True (rrO g (hsS s).2) (ha (hsS s).1) := ⟨fun _ _ _ _ _ hM => rrhash_ok hM⟩
instance (g : Nat) (s : RdS) (most : Int) : OwnC Try.prog 114 [.pointer (some ⟨g, 0, none⟩), .int .i64 most] (rrO g s) (0 ≤ most ∧ most ≤ 4611686018427387903) (rrO g (nmS most s).2) (.int .i64 (nmS most s).1) :=
  ⟨fun h _ _ _ _ hM => (rrnum_ok (s := s.rs) most h s.ok.1 s.ok.2 hM).mono fun _ _ ⟨v, e, hv, hM⟩ => ⟨by rw [e, hv]; rfl, hM⟩⟩
end
end Go.Proofs.Ytmjpbomonhjebaa
