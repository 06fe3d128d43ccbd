/- The document's trees: copies, places, rows. -/
import Derived.Test.YtmjpbomonhjebaaTr8
namespace Go.Proofs.Ytmjpbomonhjebaa
open Go.RowKit Go.Lib

theorem Mem.join {H H' : Hp} {w0 w w' : World} {L L' : List Res} (h : Mem H w0 L w) (hc : Mem H' w L' w') (hn : ∀ b, b < w.heap.size → H b = none → H' b = none) : Mem H' w0 (L' ++ L) w' := by
  obtain ⟨B, hl, hs, hb⟩ := h.own
  obtain ⟨B1, hl1, hs1, hb1⟩ := hc.own
  refine ⟨⟨B1 ++ B, Hl.app.2 ⟨B1, B, rfl, hl1, hl⟩, ?_, fun b hm => ?_⟩, hc.fz⟩
  · exact St.call (A := []) (B' := B1) hs hs1 rfl rfl rfl (fun b hm => .inl (hb1 b hm).1) (fun b hm hn => .inr ⟨b, hm, hn, rfl⟩) (fun _ hm => by cases hm)
  · rcases List.mem_append.1 hm with hm | hm
    · exact hb1 b hm
    · exact ⟨(hb b hm).1, hn _ (hs.own b hm).lt (hb b hm).2⟩
def putD (l : List Int) (x : Int) (d : Bool) : List Int := if d = true then l else putL l x
theorem putL_nil (x : Int) : putL [] x = [x] := rfl
theorem putL_cons (y : Int) (r : List Int) (x : Int) : putL (y :: r) x = if y ≤ x then y :: putL r x else x :: y :: r := by
  unfold putL
  rw [List.takeWhile_cons, List.dropWhile_cons]
  by_cases h : y ≤ x
  · rw [decide_eq_true h, if_pos h]
    rfl
  · rw [decide_eq_false h, if_neg h]
    rfl
theorem putL_len (l : List Int) (x : Int) : (putL l x).length = l.length + 1 := by
  induction l with
  | nil => rfl
  | cons y r ih =>
    rw [putL_cons]
    split <;> simp [ih]
section
variable {H : Hp} {w0 w : World} {L R : List Res} {A B C : Option Addr} {a b c n : Nat} {t : Tr} {qs ps : List (List Fd)}
theorem rplace_ok (x : Int) (h1 : Sl H 97 A (t.ls.map Lf.fds)) (hl : t.ls.length ≤ maxLen) (hf : Fz H w) :
    Calls Try.prog 78 #[tv A t.ls.length a B n b, .int .i64 x] w fun en w' => en = .returned (.int .i64 (t.place x)) ∧ St w [] w' := by
  have hM := Mem.start hf
  have hl' : t.ls.length ≤ 9223372036854775807 := hl
  refine C_bevyref08_Place ?_
  unfold F_bevyref08_Place
  ((with_reducible (refine mm_box hM ?_; clear hM; intro _ _ hM)))
  refine ⟨fun v w' => ∃ i : Nat, v = .int .i64 i ∧ i ≤ t.ls.length ∧ (∀ j (hj : j < t.ls.length), j < i → decide (t.ls[j].name = x) = false) ∧ hM.now w', fun v _ => match v with | .int _ k => t.ls.length - k.toNat | _ => 0, ⟨0, rfl, by omega, fun j _ h => by omega, hM⟩, ?_⟩
  rintro v u w3 ⟨i, rfl, hi, hlo, hM⟩
  unfold Tr.place
  refine ⟨fun w' => i < t.ls.length ∧ 0 < x ∧ hM.now w', ?_, ?_⟩
  · ((with_reducible (refine mop_c trivial ?_; refine mm_ld hM ?_; refine mop_c trivial ?_)))
    ((with_reducible (refine mop_cS trivial ?_ ?_)))
    · intro hlt
      ((with_reducible (refine mguard_yes ?_; refine mop_c trivial ?_; refine mguard_yes ?_)))
      ((with_reducible (refine mop_cS trivial ?_ ?_)))
      · intro hx
        ((with_reducible (refine mop_c trivial ?_; refine mif_true ?_)))
        exact ⟨by omega, by omega, hM⟩
      · intro hx
        ((with_reducible (refine mop_c trivial ?_; refine mif_false ?_)))
        exact ⟨by rw [if_pos (by omega)], hM.st⟩
    · intro hge
      ((with_reducible (refine mguard_n2 ?_; refine mguard_n2 ?_; refine mop_c trivial ?_; refine mif_false ?_)))
      refine ⟨?_, hM.st⟩
      rw [fix_none fun j hj => hlo j hj (by omega)]
      split <;> rfl
  rintro u4 w4 ⟨hlt, hx, hM⟩
  ((with_reducible (refine mop_c trivial ?_; refine mm_ld hM ?_)); (with_reducible refine mm_ixs ‹_› ?_ ?_ ?_); (focus (simp only [List.length_map]; omega)); (focus (simp only [List.length_map]; first | done | omega)); (with_reducible (intro _ _ hA)); (cases hA); (with_reducible (refine mop_c trivial ?_)); (with_reducible refine mm_lds hM ‹_› (map_atI ?_) ?_); (focus omega))
  ((with_reducible (refine mop_cS trivial ?_ ?_)))
  · intro h
    ((with_reducible (refine mif_true ?_)))
    exact ⟨by rw [if_neg (by omega), fix_at hlt hlo (decide_eq_true h)], hM.st⟩
  · intro h
    ((with_reducible (refine mif_false ?_; refine mop_c ?_ ?_)); (focus omega))
    refine ⟨⟨i + 1, rfl, by omega, fun j hj hji => ?_, hM⟩, by simp only; omega⟩
    rcases Nat.lt_or_ge j i with h2 | h2
    · exact hlo j hj h2
    · obtain rfl : j = i := by omega
      exact decide_eq_false h
theorem rnone_ok (p : Int) (h1 : Sl H 97 A (t.ls.map Lf.fds)) (hl : t.ls.length ≤ maxLen) (hf : Fz H w) : Calls Try.prog 84 #[tv A t.ls.length a B n b, .int .i64 p] w fun en w' => en = .returned (.bool (decide (t.nobody p))) ∧ St w [] w' := by
  have hM := Mem.start hf
  have hl' : t.ls.length ≤ 9223372036854775807 := hl
  refine C_bevyref08_None ?_
  unfold F_bevyref08_None
  ((with_reducible (refine mm_box hM ?_; clear hM; intro _ _ hM)))
  ((with_reducible (refine mop_cS trivial ?_ ?_)))
  · intro h
    ((with_reducible ((iterate 5 refine mguard_n1 ?_); refine mop_c trivial ?_; (iterate 7 refine mguard_n1 ?_); refine mop_c trivial ?_)))
    exact ⟨by rw [decide_eq_true (show t.nobody p from .inl (.inl h))], hM.st⟩
  · intro h
    ((with_reducible (refine mguard_yes ?_; refine mop_c trivial ?_; refine mguard_yes ?_; refine mop_c trivial ?_; refine mguard_yes ?_; refine mm_ld hM ?_; refine mguard_yes ?_; refine mop_c trivial ?_; refine mguard_yes ?_)))
    ((with_reducible (refine mop_cS trivial ?_ ?_)))
    · intro h2
      ((with_reducible (refine mop_c trivial ?_; (iterate 7 refine mguard_n1 ?_); refine mop_c trivial ?_)))
      exact ⟨by rw [decide_eq_true (show t.nobody p from .inl (.inr h2))], hM.st⟩
    · intro h2
      have h3 : p.toNat < t.ls.length := by omega
      have h4 := nameAt_at (ls := t.ls) (p := p) (by omega) h3
      ((with_reducible (refine mop_c trivial ?_; refine mguard_yes ?_; refine mop_c trivial ?_; refine mguard_yes ?_; refine mm_ld hM ?_; refine mguard_yes ?_; refine mop_c trivial ?_; refine mguard_yes ?_)); (with_reducible refine mm_ixs ‹_› ?_ ?_ ?_); (focus (simp only [List.length_map]; omega)); (focus (simp only [List.length_map]; first | done | omega)); (with_reducible (intro _ _ hA)); (cases hA); (with_reducible (refine mguard_yes ?_; refine mop_c trivial ?_; refine mguard_yes ?_)); (with_reducible refine mm_lds hM ‹_› (map_at ?_) ?_); (focus omega); (with_reducible (refine mguard_yes ?_)))
      rw [← h4]
      ((with_reducible (refine mop_cS trivial ?_ ?_)))
      · intro h5
        ((with_reducible (refine mop_c trivial ?_)))
        exact ⟨by rw [decide_eq_true (show t.nobody p from .inr h5)], hM.st⟩
      · intro h5
        ((with_reducible (refine mop_c trivial ?_)))
        exact ⟨by rw [decide_eq_false (show ¬ t.nobody p from fun k => k.elim (fun k => k.elim h h2) h5)], hM.st⟩
theorem rcopy_ok (h1 : Sl H 97 A (t.ls.map Lf.fds)) (h2 : Sl H 66 B qs) (h3 : All2 (PnF H) qs t.ps) (hl : t.ls.length ≤ 1000) (hp : t.ps.length ≤ 1000) (hlo : ∀ p ∈ t.ps, p.loose.length ≤ 1000) (hM : Mem H w0 L w) :
    Calls Try.prog 79 #[tv A t.ls.length a B t.ps.length b] w fun en w' => ∃ v, en = .returned v ∧ ∃ A' a' B' b' X, v = tv A' t.ls.length a' B' t.ps.length b' ∧ X.map (·.1) = t.ps ∧
      Mem H w0 (rowR 52 97 A' t.ls.length a' (t.ls.map Lf.fds) :: rowR 104 66 B' t.ps.length b' (X.map xrow) :: allR X :: L) w' := by
  have hq : qs.length = t.ps.length := h3.len
  refine C_bevyref08_Copy ?_
  unfold F_bevyref08_Copy
  ((with_reducible (refine mm_box hM ?_; clear hM; intro _ _ hM; refine mm_new hM ?_; clear hM; intro _ _ hM; refine mop_c trivial ?_; refine mm_new hM ?_; clear hM; intro _ _ hM; refine mm_st hM ?_; clear hM; intro _ hM)))
  rename_i g1 _ g2 _ g3 _ _
  have h0 : Mem H w0 (rowR 52 97 none 0 0 ((t.ls.take 0).map Lf.fds) :: _) _ := hM.row0 52 97
  refine ⟨fun v w' => ∃ (i : Nat) (A' : Option Addr) (a' : Nat), v = .int .i64 i ∧ i ≤ t.ls.length ∧ Mem H w0 (fb g3 49 (tfd A' i a' none 0 0) :: fb g2 49 (tfd none 0 0 none 0 0) :: fb g1 49 (tfd A t.ls.length a B t.ps.length b) :: rowR 52 97 A' i a' ((t.ls.take i).map Lf.fds) :: L) w', fun v _ => match v with | .int _ k => t.ls.length - k.toNat | _ => 0, ⟨0, none, 0, rfl, by omega, h0.same⟩, ?_⟩
  clear hM h0
  rintro v u w3 ⟨i, A', a', rfl, hi, hM⟩
  ((with_reducible (refine mop_c trivial ?_; refine mm_ld hM ?_; refine mop_c trivial ?_)))
  ((with_reducible (refine mop_cS trivial ?_ ?_)))
  · intro hlt
    have hlt' : i < t.ls.length := by omega
    ((with_reducible (refine mif_true ?_; refine dp_c trivial ?_; refine dm_ld hM ?_; refine dp_c trivial ?_; refine dm_ld hM ?_)); (with_reducible refine dp_ixs ‹_› ?_ ?_ ?_); (focus (simp only [List.length_map]; omega)); (focus (simp only [List.length_map]; first | done | omega)); (with_reducible (intro _ _ hA)); (cases hA); (with_reducible refine dm_lds0 hM ‹_› (map_atI ?_) ?_); (focus omega); (with_reducible (refine dS_bsl hM ?_ ?_ ?_)); (focus rfl); (focus (constructor <;> simp)); (with_reducible (clear hM; intro _ _ hM; refine dS_appF hM ?_ ?_)); (focus omega); (with_reducible (clear hM; intro _ _ _ hM; refine dp_c trivial ?_; refine dS_st hM ?_; clear hM; intro _ hM; refine mm_end hM ?_; clear hM; intro _ hM; refine mop_c ?_ ?_)); (focus omega))
    rename_i A3 c3 _ _ _
    have e : (t.ls.take i).map Lf.fds ++ [t.ls[i].fds] = (t.ls.take (i + 1)).map Lf.fds := by
      rw [List.take_succ_eq_append_getElem hlt', List.map_append]
      rfl
    rw [e] at hM
    exact ⟨⟨i + 1, A3, c3, rfl, by omega, hM.same⟩, by simp only; omega⟩
  · intro hge
    obtain rfl : i = t.ls.length := by omega
    rw [List.take_length] at hM
    ((with_reducible (refine mif_false ?_)))
    have h0 : Mem H w0 (rowR 104 66 none 0 0 (([] : List Xp).map xrow) :: _) _ := hM.row0 104 66
    refine ⟨fun v w' => ∃ (j : Nat) (B' : Option Addr) (b' : Nat) (X : List Xp), v = .int .i64 j ∧ j ≤ t.ps.length ∧ X.map (·.1) = t.ps.take j ∧ Mem H w0 (fb g3 49 (tfd A' t.ls.length a' B' j b') :: fb g2 49 (tfd none 0 0 none 0 0) :: fb g1 49 (tfd A t.ls.length a B t.ps.length b) :: rowR 52 97 A' t.ls.length a' (t.ls.map Lf.fds) :: rowR 104 66 B' j b' (X.map xrow) :: allR X :: L) w', fun v _ => match v with | .int _ k => t.ps.length - k.toNat | _ => 0, ⟨0, none, 0, [], rfl, by omega, rfl, h0.all0.same⟩, ?_⟩
    clear hM h0
    rintro v u2 w4 ⟨j, B', b', X, rfl, hj, hX, hM⟩
    ((with_reducible (refine mop_c trivial ?_; refine mm_ld hM ?_; refine mop_c trivial ?_)))
    ((with_reducible (refine mop_cS trivial ?_ ?_)))
    · intro hlt
      have hlt' : j < t.ps.length := by omega
      obtain ⟨q, hq1, C, c, rfl, hC, hcl⟩ := h3.at_ (i := j) hlt'
      obtain ⟨p, hpe⟩ : ∃ p, t.ps[j] = p := ⟨_, rfl⟩
      have hpl := hlo p (hpe ▸ List.getElem_mem _)
      rw [hpe] at hq1 hC
      ((with_reducible (refine mif_true ?_; refine mop_c trivial ?_; refine mm_ld hM ?_)))
      refine mm_ixs h2 (by omega) hq.symm (fun bb oo hB => ?_)
      cases hB
      refine mm_lds0 hM h2 hq1 ?_
      ((with_reducible (refine mm_new hM ?_; clear hM; intro _ _ hM; refine mm_st hM ?_; clear hM; intro _ hM; refine mop_c trivial ?_; refine mm_ld hM ?_; refine mop_c trivial ?_; refine mm_st hM ?_; clear hM; intro _ hM)))
      rename_i g6 _ _ _
      have h0 : Mem H w0 (rowR 3 1 none 0 0 (ints8 (p.loose.take 0)) :: _) _ := hM.row0 3 1
      refine ⟨fun v w' => ∃ (k : Nat) (C' : Option Addr) (c' : Nat), v = .int .i64 k ∧ k ≤ p.loose.length ∧ Mem H w0 (fb g6 104 [.one (.bool p.set), .arr 32 (u8s p.pub.1), .arr 32 (u8s p.abv.1), .one (.slice C' k c')] :: rowR 3 1 C' k c' (ints8 (p.loose.take k)) :: fb g3 49 (tfd A' t.ls.length a' B' j b') :: fb g2 49 (tfd none 0 0 none 0 0) :: fb g1 49 (tfd A t.ls.length a (some ⟨bb, oo, none⟩) t.ps.length b) :: rowR 52 97 A' t.ls.length a' (t.ls.map Lf.fds) :: rowR 104 66 B' j b' (X.map xrow) :: allR X :: L) w', fun v _ => match v with | .int _ k => p.loose.length - k.toNat | _ => 0, ⟨0, none, 0, rfl, by omega, h0.same⟩, ?_⟩
      clear hM h0
      rintro v u3 w5 ⟨k, C', c', rfl, hk, hM⟩
      ((with_reducible (refine mop_c trivial ?_)))
      ((with_reducible (refine mop_cS trivial ?_ ?_)))
      · intro hlt2
        have hlt3 : k < p.loose.length := by omega
        have e1 := ints8_at (l := p.loose) (i := k) hlt3
        ((with_reducible (refine mif_true ?_; refine dp_c trivial ?_; refine dm_ld hM ?_)); (with_reducible refine dp_ixs ‹_› ?_ ?_ ?_); (focus (simp only [List.length_map]; omega)); (focus (simp only [List.length_map]; first | done | omega)); (with_reducible (intro _ _ hA)); (cases hA); (with_reducible refine dm_lds0 hM ‹_› (map_atI ?_) ?_); (focus omega); (with_reducible (refine dS_bsl hM ?_ ?_ ?_)); (focus rfl); (focus (constructor <;> simp)); (with_reducible (clear hM; intro _ _ hM; refine dS_appF hM ?_ ?_)); (focus omega); (with_reducible (clear hM; intro _ _ _ hM; refine dp_c trivial ?_; refine dS_st hM ?_; clear hM; intro _ hM; refine mm_end hM ?_; clear hM; intro _ hM; refine mop_c ?_ ?_)); (focus omega))
        rename_i A3 c3 _ _ _
        have e : ints8 (p.loose.take k) ++ [[.one (.int .i64 p.loose[k])]] = ints8 (p.loose.take (k + 1)) := by
          rw [List.take_succ_eq_append_getElem hlt3, ints8_app]
          rfl
        rw [e] at hM
        exact ⟨⟨k + 1, A3, c3, rfl, by omega, hM.same⟩, by simp only; omega⟩
      · intro hge2
        obtain rfl : k = p.loose.length := by omega
        rw [List.take_length] at hM
        ((with_reducible (refine mif_false ?_; refine mop_c trivial ?_; refine mm_ld hM ?_; refine mm_ld hM ?_; refine mm_bsl hM ?_ ?_ ?_)); (focus rfl); (focus (constructor <;> simp)); (with_reducible (clear hM; intro _ _ hM; refine mm_appo hM ?_ ?_)); (focus omega); (with_reducible (clear hM; intro _ _ _ hM; refine mop_c trivial ?_; refine mm_st hM ?_; clear hM; intro _ hM; refine mop_c ?_ ?_)); (focus omega))
        rename_i A3 c3 _ _
        have e : X.map xrow ++ [[.one (.bool p.set), .arr 32 (u8s p.pub.1), .arr 32 (u8s p.abv.1), .one (.slice C' p.loose.length c')]] = (X ++ [(p, C', c')]).map xrow := by simp
        rw [e] at hM
        have hM : Mem H w0 (allR X :: xres (p, C', c') :: fb g3 49 (tfd A' t.ls.length a' A3 (j + 1) c3) :: fb g2 49 (tfd none 0 0 none 0 0) :: fb g1 49 (tfd A t.ls.length a (some ⟨bb, oo, none⟩) t.ps.length b) :: rowR 52 97 A' t.ls.length a' (t.ls.map Lf.fds) :: rowR 104 66 A3 (j + 1) c3 ((X ++ [(p, C', c')]).map xrow) :: L) _ := hM.sub
        refine ⟨⟨j + 1, A3, c3, X ++ [(p, C', c')], rfl, by omega, ?_, hM.addk.same⟩, by simp only; omega⟩
        rw [List.map_append, hX, List.take_succ_eq_append_getElem hlt', hpe]
        rfl
    · intro hge2
      obtain rfl : j = t.ps.length := by omega
      rw [List.take_length] at hX
      ((with_reducible (refine mif_false ?_; refine mm_ld hM ?_; refine mm_st hM ?_; clear hM; intro _ hM; refine rm_ld hM ?_)))
      exact ⟨_, rfl, _, _, _, _, _, rfl, hX, hM.sub⟩
theorem rput_ok (l : List Int) (x : Int) (hl : l.length ≤ 1000) (hs : Sl H 1 A (ints8 l)) (hf : Fz H w) :
    Calls Try.prog 80 #[.slice A l.length a, .int .i64 x] w fun en w' => ∃ v, en = .returned v ∧ ∃ A' a', v = .slice A' (putL l x).length a' ∧ Mem H w [rowR 3 1 A' (putL l x).length a' (ints8 (putL l x))] w' := by
  have hM := Mem.start hf
  refine C_bevyref08_put ?_
  unfold F_bevyref08_put
  have h0 : Mem H w [rowR 3 1 none 0 0 (ints8 [])] _ := hM.row0 3 1
  refine ⟨fun v u y w' => ∃ (i : Nat) (d : Bool) (o : List Int) (C : Option Addr) (c : Nat), v = .slice C o.length c ∧ u = .bool d ∧ y = .int .i64 i ∧ i ≤ l.length ∧ o.length ≤ i + d.toNat ∧ putL l x = o ++ putD (l.drop i) x d ∧ Mem H w [rowR 3 1 C o.length c (ints8 o)] w', fun _ _ y _ => match y with | .int _ k => l.length - k.toNat | _ => 0, ⟨0, false, [], none, 0, rfl, rfl, rfl, by omega, by simp, rfl, h0⟩, ?_⟩
  clear hM h0
  rintro v u y u2 w2 ⟨i, d, o, C, c, rfl, rfl, rfl, hi, ho, he, hM⟩
  have hd1 : d.toNat ≤ 1 := Bool.toNat_le d
  ((with_reducible (refine mop_c trivial ?_)))
  ((with_reducible (refine mop_cS trivial ?_ ?_)))
  · intro hlt
    have hlt' : i < l.length := by omega
    have e1 := ints8_at (l := l) (i := i) hlt'
    have hdr : l.drop i = l[i] :: l.drop (i + 1) := List.drop_eq_getElem_cons hlt'
    ((with_reducible (refine mif_true ?_)))
    refine ⟨fun v u w' => ∃ (d' : Bool) (o' : List Int) (C' : Option Addr) (c' : Nat), v = .slice C' o'.length c' ∧ u = .bool d' ∧ o'.length ≤ i + d'.toNat ∧ putL l x = o' ++ l[i] :: putD (l.drop (i + 1)) x d' ∧ Mem H w [rowR 3 1 C' o'.length c' (ints8 o')] w', ?_, ?_⟩
    · skip
      refine ⟨fun v w' => v = .bool (!d && decide (x < l[i])) ∧ hM.now w', ?_, ?_⟩
      · ((with_reducible (refine mop_c trivial ?_)))
        cases d
        · rw [Bool.not_false]
          ((with_reducible (refine mguard_yes ?_; refine mop_c trivial ?_; refine mguard_yes ?_; refine mop_c trivial ?_; refine mguard_yes ?_)); (with_reducible refine mm_ixs ‹_› ?_ ?_ ?_); (focus (simp only [List.length_map]; omega)); (focus (simp only [List.length_map]; first | done | omega)); (with_reducible (intro _ _ hA)); (cases hA); (with_reducible (refine mguard_yes ?_)); (with_reducible refine mm_lds0 hM ‹_› (map_atI ?_) ?_); (focus omega); (with_reducible (refine mguard_yes ?_; refine mop_c trivial ?_; refine mguard_yes ?_)))
          ((with_reducible (refine mop_cS trivial ?_ ?_)))
          · intro h
            ((with_reducible (refine mop_c trivial ?_)))
            exact ⟨by rw [decide_eq_true (show x < l[i] by omega)]; rfl, hM⟩
          · intro h
            ((with_reducible (refine mop_c trivial ?_)))
            exact ⟨by rw [decide_eq_false (show ¬ x < l[i] by omega)]; rfl, hM⟩
        · rw [Bool.not_true]
          ((with_reducible ((iterate 6 refine mguard_n2 ?_); refine mop_c trivial ?_)))
          exact ⟨rfl, hM⟩
      rintro v u3 w3 ⟨rfl, hM⟩
      rw [hdr] at he
      by_cases hc : d = false ∧ x < l[i]
      · obtain ⟨rfl, hx⟩ := hc
        rw [Bool.not_false, Bool.true_and, decide_eq_true hx]
        ((with_reducible (refine mif_true ?_; refine mm_bsl hM ?_ ?_ ?_)); (focus rfl); (focus (constructor <;> simp)); (with_reducible (clear hM; intro _ _ hM; refine mm_appo hM ?_ ?_)); (focus omega); (with_reducible (clear hM; intro _ _ _ hM)))
        rename_i A3 c3 _
        have e : ints8 o ++ [[.one (.int .i64 x)]] = ints8 (o ++ [x]) := by rw [ints8_app]; rfl
        rw [e] at hM
        have hl3 : o.length + 1 = (o ++ [x]).length := by simp
        rw [hl3] at hM ⊢
        refine ⟨true, o ++ [x], A3, c3, rfl, rfl, by simp at ho ⊢; omega, ?_, hM.sub⟩
        rw [he]
        unfold putD
        rw [if_neg (by simp), putL_cons, if_neg (by omega)]
        simp
      · have hb : (!d && decide (x < l[i])) = false := by
          cases d
          · rw [Bool.not_false, Bool.true_and, decide_eq_false (fun h => hc ⟨rfl, h⟩)]
          · rfl
        rw [hb]
        ((with_reducible (refine mif_false ?_)))
        refine ⟨d, o, C, c, rfl, rfl, by omega, ?_, hM⟩
        rw [he]
        congr 1
        cases d
        · unfold putD
          rw [if_neg (by simp), if_neg (by simp), putL_cons, if_pos (by have : ¬ x < l[i] := fun h => hc ⟨rfl, h⟩; omega)]
        · rfl
    · clear hM
      rintro v u u4 w4 ⟨d', o', C', c', rfl, rfl, ho', he', hM⟩
      have hd2 : d'.toNat ≤ 1 := Bool.toNat_le d'
      ((with_reducible refine mm_ixs ‹_› ?_ ?_ ?_); (focus (simp only [List.length_map]; omega)); (focus (simp only [List.length_map]; first | done | omega)); (with_reducible (intro _ _ hA)); (cases hA); (with_reducible refine mm_lds0 hM ‹_› (map_atI ?_) ?_); (focus omega); (with_reducible (refine mm_bsl hM ?_ ?_ ?_)); (focus rfl); (focus (constructor <;> simp)); (with_reducible (clear hM; intro _ _ hM; refine mm_appo hM ?_ ?_)); (focus omega); (with_reducible (clear hM; intro _ _ _ hM; refine mop_c ?_ ?_)); (focus omega))
      rename_i A3 c3 _
      have e : ints8 o' ++ [[.one (.int .i64 l[i])]] = ints8 (o' ++ [l[i]]) := by rw [ints8_app]; rfl
      rw [e] at hM
      have hl3 : o'.length + 1 = (o' ++ [l[i]]).length := by simp
      rw [hl3] at hM ⊢
      exact ⟨⟨i + 1, d', o' ++ [l[i]], A3, c3, rfl, rfl, rfl, by omega, by simp; omega, by rw [he']; simp, hM.sub⟩, by simp only; omega⟩
  · intro hge
    obtain rfl : i = l.length := by omega
    rw [List.drop_length] at he
    ((with_reducible (refine mif_false ?_)))
    refine ⟨fun v w' => ∃ A' a', v = .slice A' (putL l x).length a' ∧ Mem H w [rowR 3 1 A' (putL l x).length a' (ints8 (putL l x))] w', ?_, ?_⟩
    · ((with_reducible (refine mop_c trivial ?_)))
      cases d
      · rw [Bool.not_false]
        ((with_reducible (refine mif_true ?_; refine mm_bsl hM ?_ ?_ ?_)); (focus rfl); (focus (constructor <;> simp)); (with_reducible (clear hM; intro _ _ hM; refine mm_appo hM ?_ ?_)); (focus omega); (with_reducible (clear hM; intro _ _ _ hM)))
        rename_i A3 c3 _
        have e : ints8 o ++ [[.one (.int .i64 x)]] = ints8 (o ++ [x]) := by rw [ints8_app]; rfl
        have e2 : putL l x = o ++ [x] := he
        rw [e] at hM
        rw [e2]
        have hl3 : o.length + 1 = (o ++ [x]).length := by simp
        rw [hl3] at hM ⊢
        exact ⟨A3, c3, rfl, hM.sub⟩
      · rw [Bool.not_true]
        ((with_reducible (refine mif_false ?_)))
        have e2 : putL l x = o := by rw [he]; simp [putD]
        rw [e2]
        exact ⟨C, c, rfl, hM⟩
    · clear hM
      rintro v u4 w4 ⟨A', a', rfl, hM⟩
      exact ⟨_, rfl, A', a', rfl, hM⟩
end
end Go.Proofs.Ytmjpbomonhjebaa
