/- Reading, plainly. -/
import Derived.Test.YtmjpbomonhjebaaWire2
namespace Go.Proofs.Ytmjpbomonhjebaa
open Go.RowKit

/-! ### Reading, plainly -/
theorem nm_ok (most : Int) (s : RS) (hl : Byt s.1) (h : (nm most s).2.2 = 0) : s.2 = 0 ∧ s.1 = numB (nm most s).1 ++ (nm most s).2.1 := by
  obtain ⟨l, e⟩ := s
  unfold nm at h ⊢
  by_cases h1 : e ≠ 0
  · rw [if_pos h1] at h
    exact absurd h h1
  · rw [if_neg h1] at h ⊢
    refine ⟨by simpa using h1, ?_⟩
    by_cases h2 : l = []
    · rw [if_pos h2] at h
      cases h
    · rw [if_neg h2] at h ⊢
      by_cases h3 : l.length < szN (l.headD 0)
      · rw [if_pos h3] at h
        cases h
      · rw [if_neg h3] at h ⊢
        by_cases h4 : vl (l.take (szN (l.headD 0))) < bdN (l.headD 0)
        · rw [if_pos h4] at h
          cases h
        · rw [if_neg h4] at h ⊢
          by_cases h5 : most < vl (l.take (szN (l.headD 0)))
          · rw [if_pos h5] at h
            cases h
          · rw [if_neg h5]
            have := form_iff l hl (by omega) h2
            have h6 : numB (vl (l.take (szN (l.headD 0)))) = l.take (szN (l.headD 0)) := Classical.not_not.1 (fun hc => h4 (this.1 hc))
            show l = numB (vl (l.take (szN (l.headD 0)))) ++ l.drop (szN (l.headD 0))
            rw [h6, List.take_append_drop]
theorem nm_byt (most : Int) (s : RS) (hl : Byt s.1) : Byt (nm most s).2.1 := by
  unfold nm
  split
  · exact hl
  · split
    · exact fun x hx => by cases hx
    · split
      · exact hl
      · split
        · exact hl.drop _
        · split
          · exact hl.drop _
          · exact hl.drop _
theorem nm_back (most n : Int) (r : List Int) (h : 0 ≤ n ∧ n ≤ most) (hm : most ≤ 4611686018427387903) : nm most (numB n ++ r, 0) = (n, (r, 0)) := by
  have key : szN ((numB n ++ r).headD 0) = (numB n).length ∧ vl (numB n) = n ∧ ¬ n < bdN ((numB n ++ r).headD 0) ∧ numB n ≠ [] := by
    unfold numB
    by_cases h1 : n < 64
    · rw [if_pos h1]
      refine ⟨(szN1 h1).1, by simp [vl]; omega, ?_, by simp⟩
      show ¬ n < bdN n
      rw [(szN1 h1).2]
      omega
    · rw [if_neg h1]
      by_cases h2 : n < 16384
      · rw [if_pos h2]
        have k := szN2 (a := 64 + n / 256) (by omega)
        refine ⟨k.1, by simp [vl]; omega, ?_, by simp⟩
        show ¬ n < bdN (64 + n / 256)
        rw [k.2]
        omega
      · rw [if_neg h2]
        by_cases h3 : n < 1073741824
        · rw [if_pos h3]
          have k := szN4 (a := 128 + n / 16777216) (by omega)
          refine ⟨k.1, by simp [vl]; omega, ?_, by simp⟩
          show ¬ n < bdN (128 + n / 16777216)
          rw [k.2]
          omega
        · rw [if_neg h3]
          have k := szN8 (a := 192 + n / 72057594037927936) (by omega)
          refine ⟨k.1, by simp [vl]; omega, ?_, by simp⟩
          show ¬ n < bdN (192 + n / 72057594037927936)
          rw [k.2]
          omega
  obtain ⟨k1, k2, k3, k4⟩ := key
  unfold nm
  simp only [k1, List.take_left, List.drop_left, k2]
  rw [if_neg (by simp), if_neg (by simp [k4]), if_neg (by simp), if_neg k3, if_neg (by omega)]
theorem rdH_ok (s : RS) (hl : Byt s.1) (h : (rdH s).2.2 = 0) : s.2 = 0 ∧ s.1 = (rdH s).1.1 ++ (rdH s).2.1 := by
  obtain ⟨l, e⟩ := s
  unfold rdH at h ⊢
  simp only at h ⊢
  unfold tk at h ⊢
  by_cases h1 : e ≠ 0
  · rw [if_pos h1] at h
    exact absurd h h1
  · rw [if_neg h1] at h ⊢
    refine ⟨by simpa using h1, ?_⟩
    by_cases h2 : l.length < 32
    · rw [if_pos h2] at h
      cases h
    · rw [if_neg h2]
      show l = (hs (l.take 32)).1 ++ l.drop 32
      unfold hs
      rw [dif_pos ⟨by simp; omega, hl.take 32⟩, List.take_append_drop]
theorem rdH_byt (s : RS) (hl : Byt s.1) : Byt (rdH s).2.1 := (tk_byt hl).2
theorem rdH_back (h : H32) (r : List Int) : rdH (h.1 ++ r, 0) = (h, (r, 0)) := by
  have hl := h.2.1
  unfold rdH tk
  rw [if_neg (by simp), if_neg (by simp [hl])]
  have e1 : (h.1 ++ r).take 32 = h.1 := List.take_left' hl
  have e2 : (h.1 ++ r).drop 32 = r := List.drop_left' hl
  simp only [e1, e2]
  unfold hs
  rw [dif_pos ⟨hl, h.2.2⟩]
end Go.Proofs.Ytmjpbomonhjebaa
