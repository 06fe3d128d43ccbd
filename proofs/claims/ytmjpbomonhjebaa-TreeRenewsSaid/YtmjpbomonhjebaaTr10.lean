/- The document's trees: a leaf put in, taken out, another key. -/
import Derived.Test.YtmjpbomonhjebaaTr9
namespace Go.Proofs.Ytmjpbomonhjebaa
open Go.RowKit Go.Lib

theorem Mem.weak {H H' : Hp} {w0 w : World} {L : List Res} (h : Mem H' w0 L w) (hl : H.le H') : Mem H w0 L w := by
  obtain ⟨B, h1, h2, h3⟩ := h.own
  refine ⟨⟨B, h1, h2, fun b hm => ⟨(h3 b hm).1, ?_⟩⟩, h.fz.mono hl⟩
  cases hh : H b.g with
  | none => rfl
  | some c =>
    have := hl _ _ hh
    rw [(h3 b hm).2] at this
    cases this
theorem set_take_drop {α β : Type} {f : α → β} {Z : List α} {G P : List β} {i : Nat} {y : α} (hZ : Z.map f = G.take i ++ P.drop i) (hG : G.length = P.length) (hi : i < P.length) (hy : f y = G[i]) : (Z.set i y).map f = G.take (i + 1) ++ P.drop (i + 1) := by
  rw [List.map_set, hZ, hy]
  refine List.ext_getElem (by simp; omega) fun j h1 h2 => ?_
  simp only [List.getElem_set, List.getElem_append, List.length_take, List.getElem_take, List.getElem_drop]
  by_cases e : i = j
  · subst e
    simp
    omega
  · by_cases h : j < i
    · have h3 : j < min i G.length := by omega
      have h4 : j < min (i + 1) G.length := by omega
      simp [e, h3, h4]
    · have h3 : ¬ j < min i G.length := by omega
      have h4 : ¬ j < min (i + 1) G.length := by omega
      simp only [e, if_false, h3, dif_neg, not_false_eq_true, h4]
      congr 1
      omega
theorem take_drop_get {α β : Type} {f : α → β} {Z : List α} {G P : List β} {i : Nat} (hZ : Z.map f = G.take i ++ P.drop i) (hG : G.length = P.length) (hi : i < P.length) (hz : i < Z.length) : f Z[i] = P[i] := by
  have h1 : (Z.map f)[i]? = some (f Z[i]) := by rw [List.getElem?_map, List.getElem?_eq_getElem hz]; rfl
  rw [hZ, List.getElem?_append_right (by simp; omega)] at h1
  have h2 : min i G.length = i := by omega
  rw [List.length_take, h2, Nat.sub_self, List.getElem?_drop, Nat.add_zero, List.getElem?_eq_getElem hi] at h1
  exact (Option.some.inj h1).symm
def slen (w : World) (a : Addr) : Nat := match w.cell? a with
  | some (.slice _ n _) => n
  | _ => 0
theorem slen_eq {w : World} {a : Addr} {A : Option Addr} {n c : Nat} (h : w.cell? a = some (.slice A n c)) : slen w a = n := by unfold slen; rw [h]
section
variable {H : Hp} {w0 w : World} {L R : List Res} {A B C : Option Addr} {a b c n : Nat} {t : Tr} {qs ps : List (List Fd)}
theorem rblank_ok {p : Int} (hR : t.Rt) (h1 : Sl H 97 A (t.ls.map Lf.fds)) (h2 : Sl H 66 B qs) (h3 : All2 (PnF H) qs t.ps) (hM : Mem H w0 L w) :
    Calls Try.prog 85 #[tv A t.ls.length a B t.ps.length b, .int .i64 p] w fun en w' => ∃ v, en = .returned v ∧ ∃ A' a' B' b' X, v = tv A' t.ls.length a' B' t.ps.length b' ∧ X.map (·.1) = blankR t.size p t.ps ∧
      Mem H w0 (rowR 52 97 A' t.ls.length a' (t.ls.map Lf.fds) :: rowR 104 66 B' t.ps.length b' (X.map xrow) :: allR X :: L) w' := by
  have hlen := hR.len
  refine C_bevyref08_blank ?_
  unfold F_bevyref08_blank
  ((with_reducible (refine mm_box hM ?_; clear hM; intro _ _ hM; refine mm_new hM ?_; clear hM; intro _ _ hM; refine mm_ld hM ?_)))
  rename_i g1 _ g2 _
  refine mm_own (rcopy_ok h1 h2 h3 (by omega) (by omega) (fun p hp => by have := (hR.loose p hp).1; omega) hM) ?_
  rintro v w' ⟨A', a', B', b', X, rfl, hX, hM⟩
  ((with_reducible (refine mm_st hM ?_; clear hM; intro _ hM)))
  have hbl : (blankR t.size p t.ps).length = t.ps.length := by unfold blankR; simp
  refine ⟨fun v w' => ∃ (i : Nat) (Z : List Xp), v = .int .i64 i ∧ i ≤ t.ps.length ∧ Z.length = t.ps.length ∧ Z.map (·.1) = (blankR t.size p t.ps).take i ++ t.ps.drop i ∧ Mem H w0 (fb g1 49 (tfd A' t.ls.length a' B' t.ps.length b') :: fb g2 49 (tfd none 0 0 none 0 0) :: rowR 52 97 A' t.ls.length a' (t.ls.map Lf.fds) :: rowR 104 66 B' t.ps.length b' (Z.map xrow) :: allR Z :: L) w', fun v _ => match v with | .int _ k => t.ps.length - k.toNat | _ => 0, ⟨0, X, rfl, by omega, by rw [← hX, List.length_map], by simpa using hX, hM.same⟩, ?_⟩
  clear hM
  rintro v u w3 ⟨i, Z, rfl, hi, hZl, hZ, hM⟩
  ((with_reducible (refine mop_c trivial ?_; refine mm_ld hM ?_; refine mop_c trivial ?_)))
  ((with_reducible (refine mop_cS trivial ?_ ?_)))
  · intro hlt
    have hlt' : i < t.ps.length := by omega
    have hget : (blankR t.size p t.ps)[i]'(by omega) = if hld t.size (2 * i + 1) p then Pn.zero else t.ps[i] := by
      unfold blankR
      rw [List.getElem_mapIdx]
    ((with_reducible (refine mif_true ?_)))
    refine ⟨fun w' => ∃ (Z' : List Xp), Z'.length = t.ps.length ∧ Z'.map (·.1) = (blankR t.size p t.ps).take (i + 1) ++ t.ps.drop (i + 1) ∧ Mem H w0 (fb g1 49 (tfd A' t.ls.length a' B' t.ps.length b') :: fb g2 49 (tfd none 0 0 none 0 0) :: rowR 52 97 A' t.ls.length a' (t.ls.map Lf.fds) :: rowR 104 66 B' t.ps.length b' (Z'.map xrow) :: allR Z' :: L) w', ?_, ?_⟩
    · ((with_reducible (refine mop_c trivial ?_; refine mm_ld hM ?_; refine mop_c trivial ?_; refine mop_c ?_ ?_)); (focus omega); (with_reducible (refine mop_c ?_ ?_)); (focus omega); (with_reducible (refine mm_purC hM ?_ ?_)); (focus (first | exact trivial | assumption | omega)); (with_reducible (clear hM; intro _ hM)))
      show mif (.bool (decide (hld t.size (2 * i + 1) p))) _ _
      by_cases hh : hld t.size (2 * i + 1) p
      · rw [if_pos hh] at hget
        rw [decide_eq_true hh]
        ((with_reducible (refine mif_true ?_; refine mop_c trivial ?_; refine mm_ld hM ?_; refine mop_c trivial ?_; refine mm_ixr hM ?_ ?_)); (focus omega); (with_reducible (intro _ hA)); (cases hA); (with_reducible (refine mm_str hM ?_ ?_)); (focus omega); (with_reducible (clear hM; intro _ hM)))
        rw [← xrow0, Int.toNat_natCast, ← List.map_set] at hM
        have hM := (hM.at_ (allR Z)).blankk (j := i) (by omega)
        exact ⟨Z.set i x0, by simpa using hZl, set_take_drop hZ hbl hlt' hget.symm, hM.same⟩
      · rw [if_neg hh] at hget
        rw [decide_eq_false hh]
        ((with_reducible (refine mif_false ?_)))
        refine ⟨Z, hZl, ?_, hM⟩
        rw [hZ, List.take_succ_eq_append_getElem (by omega), hget, List.append_assoc, List.drop_eq_getElem_cons hlt']
        rfl
    · clear hM
      rintro u4 w4 ⟨Z', hZl', hZ', hM⟩
      ((with_reducible (refine mop_c ?_ ?_)); (focus omega))
      exact ⟨⟨i + 1, Z', rfl, by omega, hZl', hZ', hM⟩, by simp only; omega⟩
  · intro hge
    obtain rfl : i = t.ps.length := by omega
    rw [List.drop_length, List.append_nil, List.take_of_length_le (by omega)] at hZ
    ((with_reducible (refine mif_false ?_; refine mm_ld hM ?_; refine mm_st hM ?_; clear hM; intro _ hM; refine rm_ld hM ?_)))
    exact ⟨_, rfl, _, _, _, _, _, rfl, hZ, hM.sub⟩
theorem Tr.Rt.blankR_loose {t : Tr} (h : t.Rt) {p : Int} : ∀ q ∈ blankR t.size p t.ps, q.loose.length ≤ 64 := fun q hq => by
  unfold blankR at hq
  obtain ⟨i, hi, rfl⟩ := List.getElem_of_mem hq
  rw [List.getElem_mapIdx]
  split
  · simp [Pn.zero]
  · exact (h.loose _ (List.getElem_mem _)).1
theorem rrenew_q {Q : Hp → Value → Prop} (p : Int) (pub : H32) (hq : ∀ H' v1 r, t.renR p pub = r → TrF H' v1 r.1 → Q H' (.tuple #[v1, .int .i64 r.2])) (hR : t.Rt) (h1 : Sl H 97 A (t.ls.map Lf.fds)) (h2 : Sl H 66 B qs) (h3 : All2 (PnF H) qs t.ps) (hf : Fz H w) :
    Calls Try.prog 41 #[tv A t.ls.length a B t.ps.length b, .int .i64 p, ha pub] w (Outp H w Q) := by
  obtain ⟨w1, hw1⟩ : ∃ w1, w1 = w := ⟨_, rfl⟩
  rw [← hw1]
  rw [← hw1] at hf
  have hM := Mem.start hf
  have hlen := hR.len
  refine C_bevyref08_Renew ?_
  unfold F_bevyref08_Renew
  unfold Tr.renR at hq
  ((with_reducible (refine mm_box hM ?_; clear hM; intro _ _ hM; refine mm_box hM ?_; clear hM; intro _ _ hM; refine mm_new hM ?_; clear hM; intro _ _ hM; refine mm_ld hM ?_)))
  rename_i g1 _ g5 _ g2 _
  refine mm_pure hM (rnone_ok p h1 (by simp only [maxLen]; omega) hM.fz) (fun w hM => ?_)
  by_cases hn : t.nobody p
  · rw [if_pos hn] at hq
    rw [decide_eq_true hn]
    ((with_reducible (refine mif_true ?_; refine mop_c trivial ?_; refine mm_st hM ?_; clear hM; intro _ hM; refine rm_ld hM ?_)))
    exact hM.out (Le.refl _ _) (hq _ _ _ rfl (trF_none H))
  rw [if_neg hn] at hq
  rw [decide_eq_false hn]
  obtain ⟨hb0, hb1, hb2⟩ := Tr.body hn
  ((with_reducible (refine mif_false ?_; refine mm_ld hM ?_)))
  refine mm_own (rblank_ok (p := p) hR h1 h2 h3 hM) ?_
  rintro v w' ⟨A', a', B', b', X, rfl, hX, hM⟩
  have hXl : X.length = t.ps.length := by have := congrArg List.length hX; simpa [blankR] using this
  obtain ⟨g4, rfl⟩ := hM.rowAt ⟨.refl _⟩ (by omega)
  obtain ⟨l0, hl0⟩ : ∃ l0, t.ls[p.toNat] = l0 := ⟨_, rfl⟩
  have hk0 : (t.ls.map Lf.fds)[p.toNat]? = some l0.fds := by rw [← hl0]; exact map_at hb1
  ((with_reducible (refine mm_st hM ?_; clear hM; intro _ hM; refine mop_c trivial ?_; refine mm_ld hM ?_; refine mm_ld hM ?_; refine mm_ixr hM ?_ ?_)); (focus omega); (with_reducible (intro _ hA)); (cases hA); (with_reducible (refine mop_c trivial ?_)))
  refine mm_stf hM hk0 (fun w' hM => ?_)
  have hz : [Fd.one (.int .i64 l0.name), .arr 32 (u8s pub.1), .arr 32 (u8s l0.ver.1), .arr 32 (u8s l0.abv.1)] = (l0.key pub l0.abv).fds := rfl
  rw [hz] at hM
  have hk1 : ((t.ls.map Lf.fds).set p.toNat (l0.key pub l0.abv).fds)[p.toNat]? = some (l0.key pub l0.abv).fds := by
    rw [List.getElem?_set_self (by simpa using hb1)]
  ((with_reducible (refine mop_c trivial ?_; refine mm_ld hM ?_; refine mop_c trivial ?_; refine mm_ixr hM ?_ ?_)); (focus omega); (with_reducible (intro _ hA)); (cases hA); (with_reducible (refine mop_c trivial ?_)))
  refine mm_stf hM hk1 (fun w' hM => ?_)
  have hz3 : [Fd.one (.int .i64 (l0.key pub l0.abv).name), .arr 32 (u8s (l0.key pub l0.abv).pub.1), .arr 32 (u8s (l0.key pub l0.abv).ver.1), .arr 32 (u8s hzero.1)] = (l0.key pub hzero).fds := rfl
  rw [hz3, List.set_set, ← List.map_set] at hM
  have hmod : t.ls.set p.toNat (l0.key pub hzero) = t.ls.modify p.toNat (·.key pub hzero) := by
    refine List.ext_getElem (by simp) fun i k1 k2 => ?_
    simp only [List.getElem_modify, List.getElem_set]
    split
    · rename_i e
      subst e
      rw [hl0]
    · rfl
  rw [hmod] at hM
  have hsl : (t.ls.modify p.toNat (·.key pub hzero)).length = t.ls.length := List.length_modify ..
  obtain ⟨ls2, hls⟩ : ∃ ls2, t.ls.modify p.toNat (·.key pub hzero) = ls2 := ⟨_, rfl⟩
  rw [hls] at hM hsl hq
  rw [← hsl, ← hXl] at hM
  ((with_reducible (refine mm_ld hM ?_; refine mm_st hM ?_; clear hM; intro _ hM; refine rm_ld hM ?_)))
  have hM : Mem H w1 [rowR 52 97 (some ⟨g4, 0, none⟩) ls2.length a' (ls2.map Lf.fds), rowR 104 66 B' X.length b' (X.map xrow), allR X] _ := hM.sub
  obtain ⟨H4, l4, hM, hT⟩ := hM.frzT (fun x hx => by
    have hm : x.1 ∈ blankR t.size p t.ps := hX ▸ List.mem_map_of_mem hx
    have := hR.blankR_loose _ hm
    simp only [maxLen]
    omega)
  refine hM.out l4 (hq _ _ _ rfl ?_)
  rw [hX] at hT
  exact hT
theorem rremove_q {Q : Hp → Value → Prop} (p : Int) (hq : ∀ H' v1 r, t.remR p = r → TrF H' v1 r.1 → Q H' (.tuple #[v1, .int .i64 r.2])) (hR : t.Rt) (h1 : Sl H 97 A (t.ls.map Lf.fds)) (h2 : Sl H 66 B qs) (h3 : All2 (PnF H) qs t.ps) (hf : Fz H w) :
    Calls Try.prog 39 #[tv A t.ls.length a B t.ps.length b, .int .i64 p] w (Outp H w Q) := by
  obtain ⟨w1, hw1⟩ : ∃ w1, w1 = w := ⟨_, rfl⟩
  rw [← hw1]
  rw [← hw1] at hf
  have hM := Mem.start hf
  have hlen := hR.len
  refine C_bevyref08_Remove ?_
  unfold F_bevyref08_Remove
  unfold Tr.remR at hq
  ((with_reducible (refine mm_box hM ?_; clear hM; intro _ _ hM; refine mm_new hM ?_; clear hM; intro _ _ hM; refine mm_ld hM ?_)))
  rename_i g1 _ g2 _
  refine mm_pure hM (rnone_ok p h1 (by simp only [maxLen]; omega) hM.fz) (fun w hM => ?_)
  by_cases hn : t.nobody p
  · rw [if_pos hn] at hq
    rw [decide_eq_true hn]
    ((with_reducible (refine mif_true ?_; refine mop_c trivial ?_; refine mm_st hM ?_; clear hM; intro _ hM; refine rm_ld hM ?_)))
    exact hM.out (Le.refl _ _) (hq _ _ _ rfl (trF_none H))
  rw [if_neg hn] at hq
  rw [decide_eq_false hn]
  obtain ⟨hb0, hb1, hb2⟩ := Tr.body hn
  ((with_reducible (refine mif_false ?_; refine mm_ld hM ?_)))
  refine mm_own (rblank_ok (p := p) hR h1 h2 h3 hM) ?_
  rintro v w' ⟨A', a', B', b', X, rfl, hX, hM⟩
  have hXl : X.length = t.ps.length := by have := congrArg List.length hX; simpa [blankR] using this
  obtain ⟨g4, rfl⟩ := hM.rowAt ⟨.refl _⟩ (by omega)
  ((with_reducible (refine mm_st hM ?_; clear hM; intro _ hM; refine mop_c trivial ?_; refine mm_ld hM ?_; refine mop_c trivial ?_; refine mm_ixr hM ?_ ?_)); (focus omega); (with_reducible (intro _ hA)); (cases hA); (with_reducible (refine mm_str hM ?_ ?_)); (focus omega); (with_reducible (clear hM; intro _ hM)))
  have hz : [Fd.one (.int .i64 0), .arr 32 (u8s hzero.1), .arr 32 (u8s hzero.1), .arr 32 (u8s hzero.1)] = Lf.zero.fds := rfl
  rw [hz, ← List.map_set] at hM
  have hsl : (t.ls.set p.toNat Lf.zero).length = t.ls.length := List.length_set
  obtain ⟨ls2, hls⟩ : ∃ ls2, t.ls.set p.toNat Lf.zero = ls2 := ⟨_, rfl⟩
  rw [hls] at hM hsl hq
  rw [← hsl, ← hXl] at hM
  have hM : Mem H w1 [fb g1 49 (tfd (some ⟨g4, 0, none⟩) ls2.length a' B' X.length b'), fb g2 49 (tfd none 0 0 none 0 0), rowR 52 97 (some ⟨g4, 0, none⟩) ls2.length a' (ls2.map Lf.fds), rowR 104 66 B' X.length b' (X.map xrow), allR X] _ := hM.sub
  refine ⟨fun w' => (∃ i, i ≤ ls2.length ∧ keepN ls2 ls2.length = keepN ls2 i ∧ Mem H w1 [fb g1 49 (tfd (some ⟨g4, 0, none⟩) i a' B' (i - 1) b'), fb g2 49 (tfd none 0 0 none 0 0), rowR 52 97 (some ⟨g4, 0, none⟩) i a' ((ls2.take i).map Lf.fds), rowR 104 66 B' (i - 1) b' ((X.take (i - 1)).map xrow), allR (X.take (i - 1))] w'), fun w' => slen w' ⟨g1, 0, none⟩, ⟨ls2.length, by omega, rfl, ?_⟩, ?_⟩
  · rw [List.take_length, show ls2.length - 1 = X.length by omega, List.take_length]
    exact hM
  clear hM
  rintro u w3 ⟨i, hi, hk, hM⟩
  have hold : slen w3 ⟨g1, 0, none⟩ = i := slen_eq (((hM.upB g1).blf ⟨⟨_, .refl _, fun _ => .refl _⟩⟩).1.cell 0)
  obtain ⟨-, ca1, -, -⟩ := (hM.up (some ⟨g4, 0, none⟩)).rowLen ⟨.refl _⟩
  obtain ⟨-, cb1, -, -⟩ := (hM.up B').rowLen ⟨.refl _⟩
  have e1 : (ls2.take i).length = i := by rw [List.length_take]; omega
  have e2 : (X.take (i - 1)).length = i - 1 := by rw [List.length_take]; omega
  have hfin : keepN ls2 i = i → ∀ w3, Mem H w1 [rowR 52 97 (some ⟨g4, 0, none⟩) i a' ((ls2.take i).map Lf.fds), rowR 104 66 B' (i - 1) b' ((X.take (i - 1)).map xrow), allR (X.take (i - 1))] w3 → Outp H w1 Q (.returned (.tuple #[.agg (fl (tfd (some ⟨g4, 0, none⟩) i a' B' (i - 1) b')).toArray, .int .i64 0])) w3 := fun hi2 w3 hM => by
    rw [hi2] at hk
    have hM : Mem H w1 [rowR 52 97 (some ⟨g4, 0, none⟩) (ls2.take i).length a' ((ls2.take i).map Lf.fds), rowR 104 66 B' (X.take (i - 1)).length b' ((X.take (i - 1)).map xrow), allR (X.take (i - 1))] w3 := by
      rw [e1, e2]
      exact hM
    obtain ⟨H4, l4, hM, hT⟩ := hM.frzT (fun x hx => by
      have hm : x.1 ∈ blankR t.size p t.ps := hX ▸ List.mem_map_of_mem (List.mem_of_mem_take hx)
      have := hR.blankR_loose _ hm
      simp only [maxLen]
      omega)
    rw [e1, e2] at hT
    refine hM.out l4 (hq _ _ _ rfl ?_)
    show TrF H4 _ (cut ls2 (blankR t.size p t.ps))
    unfold cut
    rw [hk]
    rw [List.map_take, hX] at hT
    exact hT
  refine ⟨fun w' => (0 < i ∧ keepN ls2 i = keepN ls2 (i - 1)) ∧ w' = w3, ?_, ?_⟩
  · ((with_reducible (refine mop_c trivial ?_; refine mm_ld hM ?_; refine mop_c trivial ?_)))
    ((with_reducible (refine mop_cS trivial ?_ ?_)))
    · intro hpos
      have hix : ((i : Int) - 1).toNat < (ls2.take i).length := by omega
      have hix2 : ((i : Int) - 1).toNat < ls2.length := by omega
      have hna := nameAt_at (ls := ls2) (p := (i : Int) - 1) (by omega) hix2
      have hk0 : ((ls2.take i).map Lf.fds)[((i : Int) - 1).toNat]? = some (ls2[((i : Int) - 1).toNat]).fds := by
        rw [map_at hix, List.getElem_take]
      ((with_reducible (refine mguard_yes ?_; refine mop_c trivial ?_; refine mguard_yes ?_; refine mm_ld hM ?_; refine mguard_yes ?_; refine mop_c trivial ?_; refine mguard_yes ?_; refine mm_ld hM ?_; refine mguard_yes ?_; refine mop_c trivial ?_; refine mguard_yes ?_; refine mop_c ?_ ?_)); (focus omega); (with_reducible (refine mguard_yes ?_; refine mm_ixr hM ?_ ?_)); (focus omega); (with_reducible (intro _ hA)); (cases hA); (with_reducible (refine mguard_yes ?_; refine mop_c trivial ?_; refine mguard_yes ?_; refine mm_ldr hM (map_at ?_) ?_)); (focus omega); (with_reducible (refine mguard_yes ?_)))
      rw [List.getElem_take, ← hna]
      have hkn : keepN ls2 i = if nameAt ls2 ((i : Int) - 1) = 0 then keepN ls2 (i - 1) else i := by
        cases i with
        | zero => omega
        | succ i =>
          rw [keepN]
          simp
      ((with_reducible (refine mop_cS trivial ?_ ?_)))
      · intro h0
        ((with_reducible (refine mop_c trivial ?_; refine mif_true ?_)))
        exact ⟨⟨by omega, by rw [hkn, if_pos h0]⟩, rfl⟩
      · intro h0
        rw [if_neg h0] at hkn
        ((with_reducible (refine mop_c trivial ?_; refine mif_false ?_; refine mm_ld hM ?_; refine mm_st hM ?_; clear hM; intro _ hM; refine rm_ld hM ?_)))
        exact hfin hkn _ hM.sub
    · intro hz
      ((with_reducible ((iterate 10 refine mguard_n2 ?_); refine mop_c trivial ?_; refine mif_false ?_; refine mm_ld hM ?_; refine mm_st hM ?_; clear hM; intro _ hM; refine rm_ld hM ?_)))
      obtain rfl : i = 0 := by omega
      exact hfin rfl _ hM.sub
  · rintro u7 w7 ⟨⟨hpos, hk2⟩, rfl⟩
    ((with_reducible (refine mop_c trivial ?_; refine mm_ld hM ?_; refine mop_c trivial ?_; refine mm_ld hM ?_; refine mop_c trivial ?_; refine mop_c ?_ ?_)); (focus omega); (with_reducible (refine mop_c ?_ ?_)); (focus omega); (with_reducible (refine mop_c trivial ?_; refine mm_st hM ?_; clear hM; intro _ hM; refine mop_c trivial ?_; refine mm_ld hM ?_; refine mop_c trivial ?_)))
    ((with_reducible (refine mop_cS trivial ?_ ?_)))
    · intro hp2
      ((with_reducible (refine mif_true ?_; refine mop_c trivial ?_; refine mm_ld hM ?_; refine mop_c trivial ?_; refine mm_ld hM ?_; refine mop_c trivial ?_; refine mop_c ?_ ?_)); (focus omega); (with_reducible (refine mop_c ?_ ?_)); (focus omega); (with_reducible (refine mop_c trivial ?_; refine mm_st hM ?_; clear hM; intro _ hM)))
      rw [show ((i : Int) - 1).toNat = i - 1 by omega, show (((i - 1 : Nat) : Int) - 1).toNat = i - 1 - 1 by omega] at hM
      have hnew := slen_eq (((hM.upB g1).blf ⟨⟨_, .refl _, fun _ => .refl _⟩⟩).1.cell 0)
      have hM := (hM.up (some ⟨g4, 0, none⟩)).short (k := i - 1) (by omega)
      have hM := (hM.up B').short (k := i - 1 - 1) (by omega)
      have hM := (hM.at_ (allR (X.take (i - 1)))).dropk (i - 1 - 1)
      rw [← List.map_take, ← List.map_take, List.take_take, List.take_take, show min (i - 1) i = i - 1 by omega, show min (i - 1 - 1) (i - 1) = i - 1 - 1 by omega] at hM
      refine ⟨⟨i - 1, by omega, by rw [hk, hk2], hM.same⟩, ?_⟩
      show slen _ _ < slen _ _
      rw [hnew, hold]
      omega
    · intro hp2
      ((with_reducible (refine mif_false ?_)))
      rw [show ((i : Int) - 1).toNat = i - 1 by omega] at hM
      have hnew := slen_eq (((hM.upB g1).blf ⟨⟨_, .refl _, fun _ => .refl _⟩⟩).1.cell 0)
      have hM := (hM.up (some ⟨g4, 0, none⟩)).short (k := i - 1) (by omega)
      have hM := (hM.up B').short (k := i - 1) (by omega)
      have hM := (hM.at_ (allR (X.take (i - 1)))).dropk (i - 1 - 1)
      have e9 : i - 1 - 1 = i - 1 := by omega
      rw [← List.map_take, ← List.map_take, List.take_take, List.take_take, List.take_take, e9, Nat.min_self, show min (i - 1) i = i - 1 by omega] at hM
      refine ⟨⟨i - 1, by omega, by rw [hk, hk2], ?_⟩, ?_⟩
      · rw [e9]
        exact hM.same
      show slen _ _ < slen _ _
      rw [hnew, hold]
      omega
end
end Go.Proofs.Ytmjpbomonhjebaa
