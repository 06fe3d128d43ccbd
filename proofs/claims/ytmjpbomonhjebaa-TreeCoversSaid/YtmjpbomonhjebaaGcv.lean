/- Acts on trees: their data, what a law is given of them, the place they name. -/
import Derived.Test.YtmjpbomonhjebaaGpl
import Derived.Test.YtmjpbomonhjebaaTrRd
namespace Go.Proofs.Ytmjpbomonhjebaa
open Go.RowKit Go.Lib

structure Ac where
  op : Int
  name : Int
  at_ : Int
  key : Int
abbrev Ac.fds (x : Ac) : List Fd := [.one (.int .u8 x.op), .one (.int .i64 x.name), .one (.int .i64 x.at_), .one (.int .u8 x.key)]
def Ac.good (x : Ac) : Prop := (0 ≤ x.op ∧ x.op < 256) ∧ 0 ≤ x.key ∧ x.key < 256
def plcA (n : Nat) (a : Int) : Int := a % 18446744073709551616 % ((n : Int) + 1)
abbrev Ac.leaf (x : Ac) : Lf := ⟨x.name, hset (hset hzero 0 x.key) 1 1, hset (hset hzero 0 x.key) 1 2, hset hzero 0 (x.key % 3)⟩
theorem rdr_ac : Rdr Try.prog 121 4 (fun _ fs (x : Ac) => fs = x.fds ∧ x.good) :=
  (rdr_struct (sz := 4) Try.underlying121 (by kernel_rfl) (Rdf.cons rdr_u8 rfl rfl rfl (Rdf.cons rdr_i64 rfl rfl rfl (Rdf.cons rdr_i64 rfl rfl rfl (Rdf.cons rdr_u8 rfl rfl rfl (Rdf.nil _)))))).map fun _ fs x _ h => by
    obtain ⟨g1, h1, rfl, _, ⟨rfl, b1⟩, g2, h2, rfl, _, ⟨rfl, _⟩, g3, h3, rfl, _, ⟨rfl, _⟩, g4, h4, rfl, _, ⟨rfl, b4⟩, rfl⟩ := h
    have := bounds_u8 b1
    have := bounds_u8 b4
    exact ⟨⟨x.1, x.2.1, x.2.2.1, x.2.2.2.1⟩, rfl, ⟨by simp only; omega, by simp only; omega⟩⟩
theorem rdr_acs : Rdr Try.prog 67 1 (fun H fs (xs : List Ac) => ∃ A cap, fs = [.one (.slice A xs.length cap)] ∧ xs.length ≤ maxLen ∧ Sl H 4 A (xs.map Ac.fds) ∧ ∀ x ∈ xs, x.good) :=
  (rdr_slice Try.underlying67 (by kernel_rfl) (by omega) rdr_ac).map fun H fs xs _ ⟨A, cap, ps, h1, h2, h3, h4⟩ => by
    obtain ⟨rfl, hg⟩ := All2.eq_map h4
    exact ⟨xs, A, cap, h1, h2, h3, hg⟩
theorem none_rt : Tr.none.Rt := Tr.rt.1 (by decide)
section
variable {H : Hp} {w0 w : World} {L R : List Res} {t : Tr} {v : Value}
theorem place_c (x : Ac) (hl : t.ls.length ≤ 1000) (h : TrF H v t) (hf : Fz H w) : Calls Try.prog 86 #[v, .agg (fl x.fds).toArray] w fun en w' => en = .returned (.int .i64 (plcA t.ls.length x.at_)) ∧ St w [] w' := by
  obtain ⟨A, a, B, b, q, rfl, -⟩ := h.ex
  have hM := Mem.start hf
  refine C_bevylaw08_place ?_
  unfold F_bevylaw08_place
  ((with_reducible (refine mm_box hM ?_; clear hM; intro _ _ hM; refine mm_box hM ?_; clear hM; intro _ _ hM; refine mop_c trivial ?_; refine mm_ld hM ?_; refine mop_c trivial ?_; refine mop_c trivial ?_; refine mm_ld hM ?_; refine mop_c trivial ?_; refine mop_c ?_ ?_)); (focus omega); (with_reducible (refine mop_c trivial ?_; refine mop_c ?_ ?_)); (focus omega))
  rw [show ((t.ls.length : Int) + 1) % 18446744073709551616 = (t.ls.length : Int) + 1 by omega]
  have hp : 0 ≤ x.at_ % 18446744073709551616 % ((t.ls.length : Int) + 1) ∧ x.at_ % 18446744073709551616 % ((t.ls.length : Int) + 1) < (t.ls.length : Int) + 1 := ⟨Int.emod_nonneg _ (by omega), Int.emod_lt_of_pos _ (by omega)⟩
  have hpe : plcA t.ls.length x.at_ = x.at_ % 18446744073709551616 % ((t.ls.length : Int) + 1) := rfl
  rw [← hpe] at hp ⊢
  ((with_reducible (refine mop_c ?_ ?_)); (focus omega))
  exact ⟨rfl, hM.st⟩
end
end Go.Proofs.Ytmjpbomonhjebaa
/- The nodes that a node resolves to, plainly; what they hold. -/
namespace Go.Proofs.Ytmjpbomonhjebaa
open Go.RowKit Go.Lib

def resL : Nat → Tr → Int → List Int
  | 0, t, x => if 0 < (leafAt t (x / 2)).name then [x] else []
  | f + 1, t, x => if x % 2 = 0 then (if 0 < (leafAt t (x / 2)).name then [x] else []) else if (parAt t (x / 2)).set = true then x :: (parAt t (x / 2)).loose.map (2 * ·) else resL f t (lf t.size x) ++ resL f t (rt t.size x)
theorem resL_leaf {f : Nat} {t : Tr} {x : Int} (h : x % 2 = 0) : resL f t x = if 0 < (leafAt t (x / 2)).name then [x] else [] := by
  cases f with
  | zero => rfl
  | succ f => rw [resL, if_pos h]
theorem parAt_mem {t : Tr} {x : Int} (h : (x / 2).toNat < t.ps.length) : parAt t (x / 2) = t.ps[(x / 2).toNat] := by
  unfold parAt
  rw [List.getD_eq_getElem?_getD, List.getElem?_eq_getElem h]
  rfl
theorem leafAt_name {t : Tr} {i : Int} (h0 : 0 ≤ i) : (leafAt t i).name = nameAt t.ls i := by
  unfold leafAt nameAt
  rw [List.getD_eq_getElem?_getD]
  cases t.ls[i.toNat]? <;> rfl
theorem resL_len {t : Tr} (h : t.Rt) : ∀ (f : Nat) (x : Int), thr t.size x → (resL f t x).length ≤ 65 * 2 ^ f
  | 0, x, _ => by
    unfold resL
    split <;> simp
  | f + 1, x, ht => by
    have hp : 0 < 2 ^ f := Nat.pow_pos (by decide)
    have h2 : (2 : Nat) ^ (f + 1) = 2 ^ f * 2 := Nat.pow_succ 2 f
    unfold resL
    by_cases he : x % 2 = 0
    · rw [if_pos he]
      split <;> simp <;> omega
    · rw [if_neg he]
      have hlen := h.len
      obtain ⟨k1, k2, k3⟩ := id ht
      have hts : t.size = t.ls.length := rfl
      have hix : (x / 2).toNat < t.ps.length := by omega
      by_cases hs : (parAt t (x / 2)).set = true
      · rw [if_pos hs, parAt_mem hix]
        have := (h.loose _ (List.getElem_mem hix)).1
        simp only [List.length_cons, List.length_map]
        omega
      · rw [if_neg hs]
        obtain ⟨⟨t1, t2⟩, -⟩ := lr_eq ht (by omega)
        have := resL_len h f _ t1
        have := resL_len h f _ t2
        rw [List.length_append]
        omega
/-- How many of a row stand over a leaf, how many are it. -/
def ovr (n k : Int) (l : List Int) : Nat := l.countP fun y => decide (y ≠ 2 * k ∧ hld n y k)
def slf (k : Int) (l : List Int) : Nat := l.countP fun y => decide (y = 2 * k)
theorem hld_leaf {n p k : Int} (h : thr n (2 * p)) : hld n (2 * p) k ↔ p = k := by
  obtain ⟨-, e1, e2⟩ := even_eq h (by omega)
  unfold hld
  omega
theorem loose_cnt {n k : Int} {l : List Int} (hp : l.Pairwise (· < ·)) (ht : ∀ p ∈ l, thr n (2 * p)) : ovr n k (l.map (2 * ·)) = 0 ∧ slf k (l.map (2 * ·)) ≤ 1 ∧ (k ∉ l → slf k (l.map (2 * ·)) = 0) := by
  induction l with
  | nil => simp [ovr, slf]
  | cons p r ih =>
    obtain ⟨h1, h2⟩ := List.pairwise_cons.1 hp
    obtain ⟨i1, i2, i3⟩ := ih h2 fun q hq => ht q (List.mem_cons_of_mem _ hq)
    have hp := hld_leaf (k := k) (ht p (List.mem_cons_self ..))
    unfold ovr slf at *
    simp only [List.map_cons, List.countP_cons, List.mem_cons, not_or]
    by_cases e : p = k
    · subst e
      have hnm : p ∉ r := fun hm => by have := h1 p hm; omega
      have := i3 hnm
      refine ⟨?_, ?_, fun h => absurd rfl h.1⟩
      · rw [i1]
        simp
      · rw [this]
        simp
    · have e2 : ¬ 2 * p = 2 * k := by omega
      refine ⟨?_, ?_, fun h => ?_⟩
      · rw [i1, decide_eq_false (fun h => e (hp.1 h.2))]
        simp
      · rw [decide_eq_false e2, if_neg (by simp), Nat.add_zero]
        exact i2
      · rw [decide_eq_false e2, i3 h.2]
        simp
theorem ovr_app (n k : Int) (a b : List Int) : ovr n k (a ++ b) = ovr n k a + ovr n k b := List.countP_append
theorem slf_app (k : Int) (a b : List Int) : slf k (a ++ b) = slf k a + slf k b := List.countP_append
theorem cover {t : Tr} (h : t.Rt) (k : Int) : ∀ (f : Nat) (x : Int), level x ≤ f → thr t.size x →
    (¬ hld t.size x k → ovr t.size k (resL f t x) = 0 ∧ slf k (resL f t x) = 0) ∧
    (hld t.size x k → (nameAt t.ls k = 0 → slf k (resL f t x) = 0) ∧ (nameAt t.ls k ≠ 0 → ovr t.size k (resL f t x) ≤ 1 ∧ slf k (resL f t x) ≤ 1 ∧ 1 ≤ ovr t.size k (resL f t x) + slf k (resL f t x))) := by
  have hlen := h.len
  obtain ⟨ha, hb⟩ := h.parts
  have hts : t.size = t.ls.length := rfl
  have hleaf : ∀ (f : Nat) (x : Int), x % 2 = 0 → thr t.size x → (¬ hld t.size x k → ovr t.size k (resL f t x) = 0 ∧ slf k (resL f t x) = 0) ∧
    (hld t.size x k → (nameAt t.ls k = 0 → slf k (resL f t x) = 0) ∧ (nameAt t.ls k ≠ 0 → ovr t.size k (resL f t x) ≤ 1 ∧ slf k (resL f t x) ≤ 1 ∧ 1 ≤ ovr t.size k (resL f t x) + slf k (resL f t x))) := fun f x he ht => by
    obtain ⟨p, rfl⟩ : ∃ p, x = 2 * p := ⟨x / 2, by omega⟩
    have hp0 : 0 ≤ p := by have := ht.2.1; omega
    rw [resL_leaf (by omega), leafAt_name (by omega), show 2 * p / 2 = p by omega, hld_leaf ht]
    have hnn := name_nonneg ha.1 p
    refine ⟨fun hk => ?_, fun hk => ?_⟩
    · have e2 : ¬ 2 * p = 2 * k := by omega
      have e3 : ¬ (2 * p ≠ 2 * k ∧ hld t.size (2 * p) k) := fun h => hk ((hld_leaf ht).1 h.2)
      unfold ovr slf
      split
      · simp only [List.countP_cons, List.countP_nil, decide_eq_false e2, decide_eq_false e3]
        simp
      · simp
    · subst hk
      refine ⟨fun h0 => ?_, fun h0 => ?_⟩
      · rw [if_neg (by omega)]
        rfl
      · rw [if_pos (by omega)]
        unfold ovr slf
        simp
  intro f
  induction f with
  | zero =>
    intro x hx ht
    exact hleaf 0 x (by have := level_odd x; omega) ht
  | succ f ih =>
    intro x hx ht
    by_cases he : x % 2 = 0
    · exact hleaf (f + 1) x he ht
    have ho : x % 2 = 1 := by omega
    obtain ⟨k1, k2, k3⟩ := id ht
    have hix : (x / 2).toNat < t.ps.length := by omega
    rw [resL, if_neg he]
    by_cases hs : (parAt t (x / 2)).set = true
    · rw [if_pos hs, parAt_mem hix]
      obtain ⟨-, d, e⟩ := hb (x / 2).toNat hix
      have hxe : 2 * (((x / 2).toNat : Nat) : Int) + 1 = x := by omega
      rw [hxe] at d
      generalize t.ps[(x / 2).toNat].loose = lo at d e ⊢
      obtain ⟨c1, c2, c3⟩ := loose_cnt (n := t.size) (k := k) e fun p hp => by
        obtain ⟨q0, q1, -⟩ := hld_rng (d p hp).1
        exact ⟨k1, by omega, by omega⟩
      have hx2 : ¬ x = 2 * k := by omega
      have eo : ovr t.size k (x :: lo.map (2 * ·)) = (if hld t.size x k then 1 else 0) := by
        unfold ovr at *
        rw [List.countP_cons, c1]
        by_cases hh : hld t.size x k
        · rw [if_pos hh, decide_eq_true ⟨hx2, hh⟩]
          rfl
        · rw [if_neg hh, decide_eq_false (fun h => hh h.2)]
          rfl
      have es : slf k (x :: lo.map (2 * ·)) = slf k (lo.map (2 * ·)) := by
        unfold slf
        rw [List.countP_cons, decide_eq_false hx2]
        rfl
      rw [eo, es]
      refine ⟨fun hh => ?_, fun hh => ?_⟩
      · rw [if_neg hh]
        exact ⟨rfl, c3 fun hm => hh (d k hm).1⟩
      · rw [if_pos hh]
        refine ⟨fun h0 => c3 fun hm => (d k hm).2 h0, fun _ => ⟨by omega, c2, by omega⟩⟩
    · rw [if_neg hs, ovr_app, slf_app]
      obtain ⟨⟨t1, t2⟩, ⟨l1, l2⟩, ⟨f1, f2, f3⟩, -⟩ := lr_eq ht ho
      obtain ⟨a1, a2⟩ := ih _ (by omega) t1
      obtain ⟨b1, b2⟩ := ih _ (by omega) t2
      have hk := hld_kids (p := k) ht ho
      refine ⟨fun hh => ?_, fun hh => ?_⟩
      · have hn := mt hk.2 hh
        rw [not_or] at hn
        obtain ⟨u1, u2⟩ := a1 hn.1
        obtain ⟨v1, v2⟩ := b1 hn.2
        rw [u1, u2, v1, v2]
        exact ⟨rfl, rfl⟩
      · rcases hk.1 hh with hl | hr
        · have hnr : ¬ hld t.size (rt t.size x) k := fun hr => by unfold hld at hl hr; omega
          obtain ⟨v1, v2⟩ := b1 hnr
          rw [v1, v2]
          simpa using a2 hl
        · have hnl : ¬ hld t.size (lf t.size x) k := fun hl => by unfold hld at hl hr; omega
          obtain ⟨v1, v2⟩ := a1 hnl
          rw [v1, v2]
          simpa using b2 hr
theorem root_all_fin : ∀ n : Fin 65, 1 ≤ n.val → fro (n.val : Int) (root n.val) = 0 ∧ til (n.val : Int) (root n.val) = n.val := by decide +kernel
theorem root_all {n k : Int} (h : 1 ≤ n ∧ n ≤ 64) (hk : 0 ≤ k ∧ k < n) : hld n (root n) k := by
  have := root_all_fin ⟨n.toNat, by omega⟩ (by simp only; omega)
  simp only [Int.toNat_of_nonneg (show 0 ≤ n by omega)] at this
  unfold hld
  omega
end Go.Proofs.Ytmjpbomonhjebaa
/- The nodes that a node resolves to: the program. -/
namespace Go.Proofs.Ytmjpbomonhjebaa
open Go.RowKit Go.Lib

theorem ints8_snoc (l : List Int) (x : Int) : ints8 (l ++ [x]) = ints8 l ++ [[.one (.int .i64 x)]] := by simp [ints8]
section
variable {H : Hp} {w0 w : World} {L R : List Res} {A B K : Option Addr} {a b kc gt go gw gn : Nat} {t : Tr} {qs : List (List Fd)}
theorem resLeaf_ok {f : Nat} {x : Int} (hR : t.Rt) (h1 : Sl H 97 A (t.ls.map Lf.fds)) (he : x % 2 = 0) (ht : thr t.size x) (out : List Int) (ho : out.length ≤ 100000) (hM : Mem H w0 (fb gt 49 (tfd A t.ls.length a B t.ps.length b) :: fb go 69 [.one (.slice K out.length kc)] :: fb gw 123 [.one (.func (.func 88) #[] #[.pointer (some ⟨gt, 0, none⟩), .pointer (some ⟨go, 0, none⟩), .pointer (some ⟨gw, 0, none⟩), .pointer (some ⟨gn, 0, none⟩)])] :: fb gn 3 [.one (.int .i64 t.ls.length)] :: rowR 3 1 K out.length kc (ints8 (out)) :: L) w) :
    Calls Try.prog 88 #[.int .i64 x, .pointer (some ⟨gt, 0, none⟩), .pointer (some ⟨go, 0, none⟩), .pointer (some ⟨gw, 0, none⟩), .pointer (some ⟨gn, 0, none⟩)] w fun en w' => ∃ v, en = .returned v ∧ v = .tuple #[] ∧ ∃ K' kc', Mem H w0 (fb gt 49 (tfd A t.ls.length a B t.ps.length b) :: fb go 69 [.one (.slice K' (out ++ resL f t x).length kc')] :: fb gw 123 [.one (.func (.func 88) #[] #[.pointer (some ⟨gt, 0, none⟩), .pointer (some ⟨go, 0, none⟩), .pointer (some ⟨gw, 0, none⟩), .pointer (some ⟨gn, 0, none⟩)])] :: fb gn 3 [.one (.int .i64 t.ls.length)] :: rowR 3 1 K' (out ++ resL f t x).length kc' (ints8 (out ++ resL f t x)) :: L) w' := by
  have hlen := hR.len
  have hts : t.size = t.ls.length := rfl
  obtain ⟨k1, k2, k3⟩ := id ht
  have hix : (x / 2).toNat < t.ls.length := by omega
  have hla : leafAt t (x / 2) = t.ls[(x / 2).toNat] := by
    unfold leafAt
    rw [List.getD_eq_getElem?_getD, List.getElem?_eq_getElem hix]
    rfl
  rw [resL_leaf he, hla]
  refine C_tree_Resolve_1 ?_
  unfold F_tree_Resolve_1
  ((with_reducible (refine mop_c ?_ ?_)); (focus omega); (with_reducible (refine mop_cT trivial ?_ ?_)); (focus (first | assumption | omega | with_reducible rfl | exact fun h => Bool.noConfusion h)); (with_reducible (refine mif_true ?_; refine mop_c trivial ?_; refine mm_ld hM ?_; refine mop_c ?_ ?_)); (focus omega); (with_reducible refine mm_ixs ‹_› ?_ ?_ ?_); (focus (simp only [List.length_map]; omega)); (focus (simp only [List.length_map]; first | done | omega)); (with_reducible (intro _ _ hA)); (cases hA); (with_reducible (refine mop_c trivial ?_)); (with_reducible refine mm_lds hM ‹_› (map_at ?_) ?_); (focus omega))
  ((with_reducible (refine mop_cS trivial ?_ ?_)))
  · intro hn
    rw [if_pos hn, List.length_append, List.length_singleton, ints8_snoc]
    ((with_reducible (refine mif_true ?_; refine mm_ld hM ?_; refine mm_bsl hM ?_ ?_ ?_)); (focus rfl); (focus (constructor <;> simp)); (with_reducible (clear hM; intro _ _ hM; refine mm_appo hM ?_ ?_)); (focus omega); (with_reducible (clear hM; intro _ _ _ hM; refine mm_st hM ?_; clear hM; intro _ hM)))
    rename_i A2 c2 _ _
    exact ⟨_, rfl, rfl, A2, c2, hM.sub⟩
  · intro hn
    rw [if_neg hn, List.append_nil]
    ((with_reducible (refine mif_false ?_)))
    exact ⟨_, rfl, rfl, K, kc, hM⟩
theorem resolve1_ok (hR : t.Rt) (h1 : Sl H 97 A (t.ls.map Lf.fds)) (h2 : Sl H 66 B qs) (h3 : All2 (PnF H) qs t.ps) : ∀ (f : Nat) (x : Int), level x ≤ f → f ≤ 8 → thr t.size x → ∀ (out : List Int) (K : Option Addr) (kc : Nat) (w : World), out.length + 65 * 2 ^ f ≤ 50000 → Mem H w0 (fb gt 49 (tfd A t.ls.length a B t.ps.length b) :: fb go 69 [.one (.slice K out.length kc)] :: fb gw 123 [.one (.func (.func 88) #[] #[.pointer (some ⟨gt, 0, none⟩), .pointer (some ⟨go, 0, none⟩), .pointer (some ⟨gw, 0, none⟩), .pointer (some ⟨gn, 0, none⟩)])] :: fb gn 3 [.one (.int .i64 t.ls.length)] :: rowR 3 1 K out.length kc (ints8 (out)) :: L) w →
    Calls Try.prog 88 #[.int .i64 x, .pointer (some ⟨gt, 0, none⟩), .pointer (some ⟨go, 0, none⟩), .pointer (some ⟨gw, 0, none⟩), .pointer (some ⟨gn, 0, none⟩)] w fun en w' => ∃ v, en = .returned v ∧ v = .tuple #[] ∧ ∃ K' kc', Mem H w0 (fb gt 49 (tfd A t.ls.length a B t.ps.length b) :: fb go 69 [.one (.slice K' (out ++ resL f t x).length kc')] :: fb gw 123 [.one (.func (.func 88) #[] #[.pointer (some ⟨gt, 0, none⟩), .pointer (some ⟨go, 0, none⟩), .pointer (some ⟨gw, 0, none⟩), .pointer (some ⟨gn, 0, none⟩)])] :: fb gn 3 [.one (.int .i64 t.ls.length)] :: rowR 3 1 K' (out ++ resL f t x).length kc' (ints8 (out ++ resL f t x)) :: L) w' := by
  have hlen := hR.len
  have hts : t.size = t.ls.length := rfl
  have hq : qs.length = t.ps.length := h3.len
  intro f
  induction f with
  | zero =>
    intro x hx _ ht out K kc w ho hM
    have he : x % 2 = 0 := by
      have := level_odd x
      omega
    exact resLeaf_ok hR h1 he ht out (by omega) hM
  | succ f ih =>
    intro x hx hf8 ht out K kc w ho hM
    have hp2 : 0 < 2 ^ f := Nat.pow_pos (by decide)
    have h22 : (2 : Nat) ^ (f + 1) = 2 ^ f * 2 := Nat.pow_succ 2 f
    generalize (2 : Nat) ^ (f + 1) = q2 at *
    by_cases he : x % 2 = 0
    · exact resLeaf_ok hR h1 he ht out (by omega) hM
    have hodd : x % 2 = 1 := by omega
    obtain ⟨k1, k2, k3⟩ := id ht
    obtain ⟨⟨t1, t2⟩, ⟨l1, l2⟩, -⟩ := lr_eq ht hodd
    have hix : (x / 2).toNat < t.ps.length := by omega
    obtain ⟨q, hq1, C, c, rfl, hC, hcl⟩ := h3.at_ (i := (x / 2).toNat) hix
    obtain ⟨p, hpe⟩ : ∃ p, t.ps[(x / 2).toNat] = p := ⟨_, rfl⟩
    have hpa : parAt t (x / 2) = p := by
      unfold parAt
      rw [List.getD_eq_getElem?_getD, List.getElem?_eq_getElem hix, hpe]
      rfl
    have hlo := hR.loose p (hpe ▸ List.getElem_mem _)
    obtain ⟨-, hd, -⟩ := hR.parts.2 _ hix
    rw [hpe] at hq1 hC hcl hd
    have hres : resL (f + 1) t x = if p.set = true then x :: p.loose.map (2 * ·) else resL f t (lf t.size x) ++ resL f t (rt t.size x) := by
      rw [resL, if_neg he, hpa]
    rw [hres]
    refine C_tree_Resolve_1 ?_
    unfold F_tree_Resolve_1
    ((with_reducible (refine mop_c ?_ ?_)); (focus omega); (with_reducible (refine mop_cF trivial ?_ ?_)); (focus (first | assumption | omega | with_reducible rfl | exact fun h => Bool.noConfusion h)); (with_reducible (refine mif_false ?_; refine mop_c trivial ?_; refine mm_ld hM ?_; refine mop_c ?_ ?_)); (focus omega))
    refine mm_ixs h2 (by omega) hq.symm (fun bb oo hB => ?_)
    cases hB
    ((with_reducible (refine mop_c trivial ?_)))
    refine mm_lds0 hM h2 hq1 ?_
    rcases Bool.eq_false_or_eq_true p.set with hset | hset
    · rw [hset, if_pos rfl]
      ((with_reducible (refine mif_true ?_; refine mm_ld hM ?_; refine mm_bsl hM ?_ ?_ ?_)); (focus rfl); (focus (constructor <;> simp)); (with_reducible (clear hM; intro _ _ hM; refine mm_appo hM ?_ ?_)); (focus omega); (with_reducible (clear hM; intro _ _ _ hM; refine mm_st hM ?_; clear hM; intro _ hM; refine mop_c trivial ?_; refine mm_ld hM ?_; refine mop_c ?_ ?_)); (focus omega); (with_reducible (refine mop_c ?_ ?_)); (focus omega); (with_reducible (refine mop_c trivial ?_)))
      rename_i A2 c2 _ _
      refine mm_lds hM h2 hq1 ?_
      ((with_reducible (refine mop_c trivial ?_)))
      refine ⟨fun v w' => ∃ (k : Nat) (K' : Option Addr) (kc' : Nat), v = .int .i64 k ∧ k ≤ p.loose.length ∧ Mem H w0 (fb gt 49 (tfd A t.ls.length a (some ⟨bb, oo, none⟩) t.ps.length b) :: fb go 69 [.one (.slice K' (out ++ x :: (p.loose.take k).map (2 * ·)).length kc')] :: fb gw 123 [.one (.func (.func 88) #[] #[.pointer (some ⟨gt, 0, none⟩), .pointer (some ⟨go, 0, none⟩), .pointer (some ⟨gw, 0, none⟩), .pointer (some ⟨gn, 0, none⟩)])] :: fb gn 3 [.one (.int .i64 t.ls.length)] :: rowR 3 1 K' (out ++ x :: (p.loose.take k).map (2 * ·)).length kc' (ints8 (out ++ x :: (p.loose.take k).map (2 * ·))) :: L) w', fun v _ => match v with | .int _ k => p.loose.length - k.toNat | _ => 0, ⟨0, A2, c2, rfl, by omega, ?_⟩, ?_⟩
      · rw [List.take_zero, List.map_nil, List.length_append, List.length_singleton, ints8_snoc]
        exact hM.sub
      clear hM
      rintro v u w3 ⟨k, K', kc', rfl, hk, hM⟩
      have hol : (out ++ x :: (p.loose.take k).map (2 * ·)).length = out.length + (k + 1) := by
        simp
        omega
      ((with_reducible (refine mop_cS trivial ?_ ?_)))
      · intro hlt
        have hlt' : k < p.loose.length := by omega
        have e1 := ints8_at (l := p.loose) (i := k) hlt'
        have hq := hld_rng (hd _ (List.getElem_mem hlt')).1
        ((with_reducible (refine mif_true ?_)); (with_reducible refine mm_ixs ‹_› ?_ ?_ ?_); (focus (simp only [List.length_map]; omega)); (focus (simp only [List.length_map]; first | done | omega)); (with_reducible (intro _ _ hA)); (cases hA); (with_reducible refine mm_lds0 hM ‹_› (map_atI ?_) ?_); (focus omega); (with_reducible (refine mm_ld hM ?_; refine mop_c ?_ ?_)); (focus omega); (with_reducible (refine mm_bsl hM ?_ ?_ ?_)); (focus rfl); (focus (constructor <;> simp)); (with_reducible (clear hM; intro _ _ hM; refine mm_appo hM ?_ ?_)); (focus omega); (with_reducible (clear hM; intro _ _ _ hM; refine mm_st hM ?_; clear hM; intro _ hM; refine mop_c ?_ ?_)); (focus omega))
        rename_i A3 c3 _ _
        refine ⟨⟨k + 1, A3, c3, rfl, by omega, ?_⟩, by simp only; omega⟩
        have e : out ++ x :: (p.loose.take (k + 1)).map (2 * ·) = (out ++ x :: (p.loose.take k).map (2 * ·)) ++ [2 * p.loose[k]] := by
          rw [List.take_succ_eq_append_getElem hlt', List.map_append, List.append_assoc]
          rfl
        rw [e, List.length_append, List.length_singleton, ints8_snoc]
        exact hM.sub
      · intro hge
        obtain rfl : k = p.loose.length := by omega
        rw [List.take_length] at hM
        ((with_reducible (refine mif_false ?_)))
        exact ⟨_, rfl, rfl, _, _, hM⟩
    · rw [hset, if_neg (by simp)]
      have z1 := resL_len hR f _ t1
      ((with_reducible (refine mif_false ?_; refine dm_ld hM ?_; refine dm_ld hM ?_; refine dm_purC hM ?_ (fun _ _ hM => ?_))); (focus (first | exact trivial | assumption | omega)))
      refine df_no hM (fun w hM => ?_)
      refine mop_callv (ih (lf t.size x) (by omega) (by omega) t1 out K kc w (by omega) hM) ?_
      rintro e w' ⟨v, rfl, rfl, K1, kc1, hM⟩
      dsimp only
      ((with_reducible (refine mm_end hM ?_; clear hM; intro _ hM; refine dm_ld hM ?_; refine dm_ld hM ?_; refine dm_purC hM ?_ (fun _ _ hM => ?_))); (focus (first | exact trivial | assumption | omega)))
      refine df_no hM (fun w hM => ?_)
      refine mop_callv (ih (rt t.size x) (by omega) (by omega) t2 (out ++ resL f t (lf t.size x)) K1 kc1 w (by rw [List.length_append]; omega) hM) ?_
      rintro e w' ⟨v, rfl, rfl, K2, kc2, hM⟩
      dsimp only
      ((with_reducible (refine mm_end hM ?_; clear hM; intro _ hM)))
      rw [← List.append_assoc]
      exact ⟨_, rfl, rfl, _, _, hM⟩
def resT (t : Tr) (x : Int) : List Int := if thr t.size x then resL 8 t x else []
theorem resolve_ok (x : Int) (hx : x ≤ 1000) (hR : t.Rt) {v : Value} (h : TrF H v t) (hf : Fz H w) : Calls Try.prog 43 #[v, .int .i64 x] w (Outp H w fun H' r => ∃ K kc, r = .slice K (resT t x).length kc ∧ Sl H' 1 K (ints8 (resT t x))) := by
  obtain ⟨A, a, B, b, q, rfl, h1, h2, h3⟩ := h.ex
  obtain ⟨w1, hw1⟩ : ∃ w1, w1 = w := ⟨_, rfl⟩
  rw [← hw1]
  rw [← hw1] at hf
  have hlen := hR.len
  have hts : t.size = t.ls.length := rfl
  have hM := Mem.start hf
  refine C_tree_Resolve ?_
  unfold F_tree_Resolve
  ((with_reducible (refine mm_box hM ?_; clear hM; intro _ _ hM; refine mm_ld hM ?_)))
  rename_i g1 _
  refine mm_pure hM (sound_ok h1 h2 h3 h.len.1 h.len.2 hM.fz) (fun w hM => ?_)
  rw [if_pos (Tr.rt.2 hR)]
  ((with_reducible (refine mm_st hM ?_; clear hM; intro _ hM; refine mop_c trivial ?_; refine mm_ld hM ?_; refine mop_c trivial ?_; refine mm_new hM ?_; clear hM; intro _ _ hM; refine mm_st hM ?_; clear hM; intro _ hM; refine mm_new hM ?_; clear hM; intro _ _ hM; refine mm_new hM ?_; clear hM; intro _ _ hM; refine mop_c trivial ?_; refine mm_st hM ?_; clear hM; intro _ hM)))
  rename_i _ g2 _ _ g3 _ g4 _ _
  refine ⟨fun w' => ∃ K kc, Mem H w1 [fb g3 69 [.one (.slice K (resT t x).length kc)], rowR 3 1 K (resT t x).length kc (ints8 (resT t x))] w', ?_, ?_⟩
  · refine ⟨fun v w' => v = .bool (decide (thr t.size x)) ∧ hM.now w', ?_, ?_⟩
    · ((with_reducible (refine mop_cS trivial ?_ ?_)))
      · intro c1
        ((with_reducible (refine mguard_yes ?_; refine mop_c trivial ?_; refine mguard_yes ?_; refine mm_ld hM ?_; refine mguard_yes ?_; refine mop_c ?_ ?_)); (focus omega); (with_reducible (refine mguard_yes ?_; refine mop_c ?_ ?_)); (focus omega); (with_reducible (refine mguard_yes ?_)))
        refine ⟨?_, hM⟩
        rw [if_pos rfl, Value.bool.injEq, decide_eq_decide]
        unfold thr
        omega
      · intro c1
        ((with_reducible ((iterate 5 refine mguard_n2 ?_); refine mop_c trivial ?_)))
        exact ⟨by rw [decide_eq_false (by unfold thr; omega)], hM⟩
    rintro v u w2 ⟨rfl, hM⟩
    by_cases c : thr t.size x
    · rw [decide_eq_true c]
      have hr : resT t x = resL 8 t x := if_pos c
      rw [hr]
      have h0 : Mem H w1 (rowR 3 1 none 0 0 (ints8 []) :: _) _ := hM.row0 3 1
      have hM : Mem H w1 (fb g1 49 (tfd A t.ls.length a B t.ps.length b) :: fb g3 69 [.one (.slice none 0 0)] :: fb g4 123 [.one (.func (.func 88) #[] #[.pointer (some ⟨g1, 0, none⟩), .pointer (some ⟨g3, 0, none⟩), .pointer (some ⟨g4, 0, none⟩), .pointer (some ⟨g2, 0, none⟩)])] :: fb g2 3 [.one (.int .i64 t.ls.length)] :: rowR 3 1 none 0 0 (ints8 []) :: []) _ := h0.sub
      ((with_reducible (refine mif_true ?_; refine mm_ld hM ?_)))
      refine mop_callv (resolve1_ok (t := t) hR h1 h2 h3 8 x (by have := lev_rng 8 x; unfold level; omega) (by omega) c [] none 0 _ (by simp) hM) ?_
      rintro e w' ⟨v, rfl, rfl, K1, kc1, hM⟩
      dsimp only
      rw [List.nil_append] at hM
      skip
      exact ⟨K1, kc1, hM.sub⟩
    · rw [decide_eq_false c]
      have hr : resT t x = [] := if_neg c
      rw [hr]
      ((with_reducible (refine mif_false ?_)))
      have h0 : Mem H w1 (rowR 3 1 none 0 0 (ints8 []) :: _) _ := hM.row0 3 1
      exact ⟨none, 0, h0.sub⟩
  clear hM
  rintro u w2 ⟨K, kc, hM⟩
  ((with_reducible (refine mm_ld hM ?_)))
  have hM : Mem H w1 [rowR 3 1 K (resT t x).length kc (ints8 (resT t x))] _ := hM.sub
  obtain ⟨H4, l4, hM, hs, -⟩ := hM.fz0
  exact hM.out l4 ⟨K, kc, rfl, hs⟩
end
end Go.Proofs.Ytmjpbomonhjebaa
/- A tree that grows from acts is right. -/
namespace Go.Proofs.Ytmjpbomonhjebaa
open Go.RowKit Go.Lib

section
variable {H : Hp} {w0 w : World} {L R : List Res} {K : Option Addr} {kc : Nat}
theorem grown_ok (xs : List Ac) (hl : xs.length ≤ maxLen) (hs : Sl H 4 K (xs.map Ac.fds)) (hg : ∀ x ∈ xs, x.good) (hf : Fz H w) :
    Calls Try.prog 42 #[.slice K xs.length kc] w (Outp H w fun H' r => ∃ t, TrF H' r t ∧ t.Rt) := by
  obtain ⟨w1, hw1⟩ : ∃ w1, w1 = w := ⟨_, rfl⟩
  rw [← hw1]
  rw [← hw1] at hf
  have hM := Mem.start hf
  have hl' : xs.length ≤ 9223372036854775807 := hl
  refine C_bevylaw08_grown ?_
  unfold F_bevylaw08_grown
  ((with_reducible (refine mm_new hM ?_; clear hM; intro _ _ hM; refine mop_c trivial ?_; refine mm_new hM ?_; clear hM; intro _ _ hM; refine mm_st hM ?_; clear hM; intro _ hM)))
  rename_i g2 _ g3 _ _
  refine ⟨fun v w' => ∃ (i : Nat) (t : Tr) (H1 : Hp) (A : Option Addr) (a : Nat) (B : Option Addr) (b : Nat), v = .int .i64 i ∧ i ≤ xs.length ∧ t.Rt ∧ Le w1 H H1 ∧ TrF H1 (tv A t.ls.length a B t.ps.length b) t ∧ Mem H1 w1 [fb g3 49 (tfd A t.ls.length a B t.ps.length b), fb g2 49 (tfd none 0 0 none 0 0)] w', fun v _ => match v with | .int _ k => xs.length - k.toNat | _ => 0, ⟨0, Tr.none, H, none, 0, none, 0, rfl, by omega, none_rt, Le.refl _ _, trF_none _, hM⟩, ?_⟩
  clear hM
  rintro v u w3 ⟨i, t, H1, A, a, B, b, rfl, hi, hR, l1, hT, hM⟩
  have hlen := hR.len
  have hs1 := hs.mono l1.le
  ((with_reducible (refine mop_c trivial ?_)))
  ((with_reducible (refine mop_cS trivial ?_ ?_)))
  · intro hlt
    have hlt' : i < xs.length := by omega
    have hx := hg _ (List.getElem_mem hlt')
    ((with_reducible (refine mif_true ?_)))
    refine ⟨fun w' => ∃ (t' : Tr) (H2 : Hp) (A : Option Addr) (a : Nat) (B : Option Addr) (b : Nat), t'.Rt ∧ Le w1 H H2 ∧ TrF H2 (tv A t'.ls.length a B t'.ps.length b) t' ∧ Mem H2 w1 [fb g3 49 (tfd A t'.ls.length a B t'.ps.length b), fb g2 49 (tfd none 0 0 none 0 0)] w', ?_, ?_⟩
    · ((with_reducible refine mm_ixs ‹_› ?_ ?_ ?_); (focus (simp only [List.length_map]; omega)); (focus (simp only [List.length_map]; first | done | omega)); (with_reducible (intro _ _ hA)); (cases hA); (with_reducible refine mm_lds0 hM ‹_› (map_atI ?_) ?_); (focus omega); (with_reducible (refine mm_new hM ?_; clear hM; intro _ _ hM; refine mm_st hM ?_; clear hM; intro _ hM; refine mm_ld hM ?_; refine mm_ld hM ?_)))
      generalize xs[i] = x at *
      obtain ⟨hx1, hx2⟩ := hx
      rename_i g5 _ _
      refine mm_pure hM (place_c x (by omega) hT hM.fz) (fun w hM => ?_)
      generalize plcA t.ls.length x.at_ = p
      ((with_reducible (refine mm_ld hM ?_; refine mm_new hM ?_; clear hM; intro _ _ hM; refine mm_st hM ?_; clear hM; intro _ hM)))
      rename_i g7 _ _
      refine ⟨fun v w' => ∃ (e : Int) (r : Tr) (H2 : Hp) (A2 : Option Addr) (a2 : Nat) (B2 : Option Addr) (b2 : Nat), v = .int .i64 e ∧ (e = 0 → r.Rt) ∧ Le w1 H1 H2 ∧ TrF H2 (tv A2 r.ls.length a2 B2 r.ps.length b2) r ∧ Mem H2 w1 [fb g7 49 (tfd A2 r.ls.length a2 B2 r.ps.length b2), fb g3 49 (tfd A t.ls.length a B t.ps.length b), fb g2 49 (tfd none 0 0 none 0 0)] w', ?_, ?_⟩
      · ((with_reducible (refine mop_c trivial ?_; refine mm_ld hM ?_; refine mop_c ?_ ?_)); (focus omega))
        ((with_reducible (refine mop_cS trivial ?_ ?_)))
        · intro c0
          ((with_reducible (refine mif_true ?_; refine mm_ld hM ?_; refine mop_c trivial ?_; refine mm_ld hM ?_; refine mop_c trivial ?_; refine mm_ld hM ?_; refine mop_c ?_ ?_)); (focus (simp only [and_true]; omega)); (with_reducible (refine mop_c trivial ?_)))
          refine mm_call hM (radd_c ⟨x.name, hset (hset hzero 0 x.key) 1 1, hzero, hzero⟩ hR hT hM.fz) ?_
          rintro H3 v w4 l3 hM ⟨v1, rfl, hT2⟩
          obtain ⟨A2, a2, B2, b2, q2, rfl, -⟩ := hT2.ex
          ((with_reducible ((iterate 3 refine mop_c trivial ?_); refine mm_st hM ?_; clear hM; intro _ hM)))
          exact ⟨_, _, H3, A2, a2, B2, b2, rfl, add_rt hR _, l3, hT2, hM.sub⟩
        intro c0
        ((with_reducible (refine mif_false ?_)))
        ((with_reducible (refine mop_cS trivial ?_ ?_)))
        · intro c1
          ((with_reducible (refine mif_true ?_; refine mm_ld hM ?_; refine mop_c trivial ?_; refine mm_ld hM ?_; refine mop_c ?_ ?_)); (focus (simp only [and_true]; omega)))
          refine mm_call hM (rrenew_c p (hset hzero 0 x.key) hR hT hM.fz) ?_
          rintro H3 v w4 l3 hM ⟨v1, rfl, hT2⟩
          obtain ⟨A2, a2, B2, b2, q2, rfl, -⟩ := hT2.ex
          ((with_reducible (refine mop_c trivial ?_; refine mop_c trivial ?_; refine mm_st hM ?_; clear hM; intro _ hM)))
          exact ⟨_, _, H3, A2, a2, B2, b2, rfl, ren_rt hR p _, l3, hT2, hM.sub⟩
        intro c1
        ((with_reducible (refine mif_false ?_)))
        ((with_reducible (refine mop_cS trivial ?_ ?_)))
        · intro c2
          ((with_reducible (refine mif_true ?_; refine mm_ld hM ?_)))
          refine mm_call hM (rremove_c p hR hT hM.fz) ?_
          rintro H3 v w4 l3 hM ⟨v1, rfl, hT2⟩
          obtain ⟨A2, a2, B2, b2, q2, rfl, -⟩ := hT2.ex
          ((with_reducible (refine mop_c trivial ?_; refine mop_c trivial ?_; refine mm_st hM ?_; clear hM; intro _ hM)))
          exact ⟨_, _, H3, A2, a2, B2, b2, rfl, rem_rt hR p, l3, hT2, hM.sub⟩
        intro c2
        have c3 : x.op % 4 = 3 := by omega
        ((with_reducible (refine mif_false ?_; refine mop_cT trivial ?_ ?_)); (focus (first | assumption | omega | with_reducible rfl | exact fun h => Bool.noConfusion h)); (with_reducible (refine mif_true ?_; refine dm_ld hM ?_; refine dp_c trivial ?_; refine dm_ld hM ?_; refine dp_c ?_ ?_)); (focus (simp only [and_true]; omega)); (with_reducible (refine dm_ld hM ?_; refine dp_c trivial ?_; refine dm_ld hM ?_)))
        have hkl := keyL_len (dirL t.size p).length x.key
        have hdl := dirL_len t.size p
        refine dm_call hM (fun w hM => keys_ok p x.key hx2 (by omega) hT hM.fz) ?_
        rintro H3 v w4 hx3 l3 hM ⟨K, kc, rfl, hK⟩
        generalize keyL (dirL t.size p).length x.key = keys at *
        refine dm_call hM (fun w hM => rpath_c p (hset hzero 0 x.key) keys (by omega) hK hR (hT.mono l3.le) hM.fz) ?_
        rintro H4 v w5 hx4 l4 hM ⟨v1, rfl, hT2⟩
        obtain ⟨A2, a2, B2, b2, q2, rfl, -⟩ := hT2.ex
        ((with_reducible (refine dp_c trivial ?_; refine dp_c trivial ?_; refine dS_st hM ?_; clear hM; intro _ hM; refine mm_end hM ?_; clear hM; intro _ hM)))
        exact ⟨_, _, H4, A2, a2, B2, b2, rfl, path_rt hR p _ keys, l3.trans l4, hT2, hM.sub⟩
      clear hM
      rintro v u5 w5 ⟨e, r, H2, A2, a2, B2, b2, rfl, hrt, l2, hT2, hM⟩
      by_cases he : e = 0
      · ((with_reducible (refine mop_cT trivial ?_ ?_)); (focus (first | assumption | omega | with_reducible rfl | exact fun h => Bool.noConfusion h)); (with_reducible (refine mif_true ?_; refine mm_ld hM ?_; refine mm_st hM ?_; clear hM; intro _ hM)))
        exact ⟨r, H2, A2, a2, B2, b2, hrt he, l1.trans l2, hT2, hM.sub⟩
      · ((with_reducible (refine mop_cF trivial ?_ ?_)); (focus (first | assumption | omega | with_reducible rfl | exact fun h => Bool.noConfusion h)); (with_reducible (refine mif_false ?_)))
        exact ⟨t, H2, A, a, B, b, hR, l1.trans l2, hT.mono l2.le, hM.sub⟩
    clear hM
    rintro u6 w6 ⟨r, H2, A2, a2, B2, b2, hR2, l2, hT2, hM⟩
    ((with_reducible (refine mop_c ?_ ?_)); (focus omega))
    exact ⟨⟨i + 1, r, H2, A2, a2, B2, b2, rfl, by omega, hR2, l2, hT2, hM⟩, by simp only; omega⟩
  · intro hge
    ((with_reducible (refine mif_false ?_; refine mm_ld hM ?_; refine mm_st hM ?_; clear hM; intro _ hM; refine rm_ld hM ?_)))
    exact hM.out l1 ⟨t, hT, hR⟩
end
end Go.Proofs.Ytmjpbomonhjebaa
/- What the root resolves to covers each member once. -/
namespace Go.Proofs.Ytmjpbomonhjebaa
open Go.RowKit Go.Lib

theorem ovr_snoc (n k : Int) (l : List Int) (y : Int) : ovr n k (l ++ [y]) = ovr n k l + if y ≠ 2 * k ∧ hld n y k then 1 else 0 := by
  unfold ovr
  rw [List.countP_append, List.countP_cons, List.countP_nil]
  by_cases c : y ≠ 2 * k ∧ hld n y k
  · rw [decide_eq_true c, if_pos rfl, if_pos c]
  · rw [decide_eq_false c, if_neg c]
    rfl
theorem slf_snoc (k : Int) (l : List Int) (y : Int) : slf k (l ++ [y]) = slf k l + if y = 2 * k then 1 else 0 := by
  unfold slf
  rw [List.countP_append, List.countP_cons, List.countP_nil]
  by_cases c : y = 2 * k
  · rw [decide_eq_true c, if_pos rfl, if_pos c]
  · rw [decide_eq_false c, if_neg c]
    rfl
theorem ovr_le (n k : Int) (l : List Int) : ovr n k l ≤ l.length := List.countP_le_length
theorem slf_le (k : Int) (l : List Int) : slf k l ≤ l.length := List.countP_le_length
theorem resT_len {t : Tr} (h : t.Rt) (x : Int) : (resT t x).length ≤ 16640 := by
  unfold resT
  split
  · rename_i c
    exact resL_len h 8 x c
  · simp
theorem coverT {t : Tr} (h : t.Rt) (hn : 1 ≤ t.ls.length) (k : Int) (hk : 0 ≤ k ∧ k < t.size) :
    (nameAt t.ls k = 0 → slf k (resT t (root t.size)) = 0) ∧ (nameAt t.ls k ≠ 0 → ovr t.size k (resT t (root t.size)) ≤ 1 ∧ slf k (resT t (root t.size)) ≤ 1 ∧ 1 ≤ ovr t.size k (resT t (root t.size)) + slf k (resT t (root t.size))) := by
  have hlen := h.len
  have hts : t.size = t.ls.length := rfl
  have hr := root_thr (n := t.size) (by omega)
  unfold resT
  rw [if_pos hr]
  exact (cover h k 8 _ (by have := lev_rng 8 (root t.size); unfold level; omega) hr).2 (root_all (by omega) hk)
section
variable {H : Hp} {w0 w : World} {L R : List Res} {K : Option Addr} {kc : Nat}
theorem treeCovers_ok (xs : List Ac) (hl : xs.length ≤ maxLen) (hs : Sl H 4 K (xs.map Ac.fds)) (hg : ∀ x ∈ xs, x.good) (hf : Fz H w) :
    Calls Try.prog 12 #[.slice K xs.length kc] w fun en w' => en = .returned (.bool true) ∧ St w [] w' := by
  have hM := Mem.start hf
  have hl' : xs.length ≤ 9223372036854775807 := hl
  refine C_bevylaw08_TreeCovers ?_
  unfold F_bevylaw08_TreeCovers
  refine ⟨fun v w' => v = .bool (decide (100 < xs.length)) ∧ hM.now w', ?_, ?_⟩
  · ((with_reducible (refine mm_purC hM ?_ (fun _ hM2 => ?_))); (focus (first | exact trivial | assumption | omega)); (with_reducible (replace hM := hM2; clear hM2; refine mop_c trivial ?_; refine mguard_yes ?_; refine mop_c trivial ?_; refine mguard_yes ?_; refine mop_c trivial ?_; refine mguard_yes ?_)))
    ((with_reducible (refine mop_cS trivial ?_ ?_)))
    · intro h
      ((with_reducible (refine mop_c trivial ?_)))
      exact ⟨by rw [decide_eq_true (by omega)], hM⟩
    · intro h
      ((with_reducible (refine mop_c trivial ?_)))
      exact ⟨by rw [decide_eq_false (by omega)], hM⟩
  rintro v u w2 ⟨rfl, hM⟩
  by_cases hc : 100 < xs.length
  · rw [decide_eq_true hc]
    ((with_reducible (refine mif_true ?_; refine mm_purC hM ?_ ?_)); (focus (first | exact trivial | assumption | omega)); (with_reducible (clear hM; intro _ hM)))
    exact ⟨rfl, hM.st⟩
  rw [decide_eq_false hc]
  ((with_reducible (refine mif_false ?_)))
  refine mm_call hM (grown_ok xs hl hs hg hM.fz) ?_
  rintro H1 v w4 l1 hM ⟨t, hT, hR⟩
  have hlen := hR.len
  have hts : t.size = t.ls.length := rfl
  have hTe := hT
  obtain ⟨A, a, B, b, q, rfl, hA1, -⟩ := hTe.ex
  ((with_reducible (refine mm_new hM ?_; clear hM; intro _ _ hM; refine mm_st hM ?_; clear hM; intro _ hM; refine mop_c trivial ?_; refine mm_ld hM ?_; refine mop_c trivial ?_)))
  ((with_reducible (refine mop_cS trivial ?_ ?_)))
  · intro h0
    ((with_reducible (refine mif_true ?_; refine mm_ld hM ?_)))
    refine mm_call hM (resolve_ok 0 (by omega) hR hT hM.fz) ?_
    rintro H2 v w5 l2 hM ⟨C, c, rfl, hC⟩
    have e0 : resT t 0 = [] := by
      unfold resT
      rw [if_neg]
      unfold thr
      omega
    rw [e0]
    ((with_reducible (refine mop_c trivial ?_)))
    exact ⟨rfl, hM.st⟩
  intro h0
  have hn1 : 1 ≤ t.ls.length := by omega
  ((with_reducible (refine mif_false ?_; refine dm_ld hM ?_; refine dm_purC hM ?_ (fun _ _ hM => ?_))); (focus (first | exact trivial | assumption | omega)))
  have hrt := root_thr (n := t.size) (by omega)
  rw [← hts]
  refine dm_call hM (fun w hM => resolve_ok (root t.size) (by have := hrt.2.2; omega) hR hT hM.fz) ?_
  rintro H2 v w5 hx2 l2 hM ⟨C, c, rfl, hC⟩
  have hcov := fun k => coverT hR hn1 k
  have hrl := resT_len hR (root t.size)
  generalize resT t (root t.size) = all at *
  have hA2 := hA1.mono l2.le
  clear hA1
  ((with_reducible (refine mm_end hM ?_; clear hM; intro _ hM)))
  rename_i g3 _ _ _ _
  refine ⟨fun v w' => ∃ k : Nat, v = .int .i64 k ∧ k ≤ t.ls.length ∧ hM.now w', fun v _ => match v with | .int _ k => t.ls.length - k.toNat | _ => 0, ⟨0, rfl, by omega, hM⟩, ?_⟩
  rintro v u w6 ⟨k, rfl, hk, hM⟩
  ((with_reducible (refine mop_cS trivial ?_ ?_)))
  · intro hlt
    have hlt' : k < t.ls.length := by omega
    obtain ⟨cv1, cv2⟩ := hcov k (by omega)
    rw [nameAt_get hlt'] at cv1 cv2
    ((with_reducible (refine mif_true ?_)))
    refine ⟨fun w' => hM.now w', ?_, ?_⟩
    · skip
      refine ⟨fun v1 v2 v3 w' => ∃ i : Nat, v1 = .int .i64 (ovr t.size k (all.take i)) ∧ v2 = .int .i64 (slf k (all.take i)) ∧ v3 = .int .i64 i ∧ i ≤ all.length ∧ hM.now w', fun _ _ v _ => match v with | .int _ k => all.length - k.toNat | _ => 0, ⟨0, rfl, rfl, rfl, by omega, hM⟩, ?_⟩
      rintro v1 v2 v3 u w7 ⟨i, rfl, rfl, rfl, hi, hM⟩
      ((with_reducible (refine mop_c trivial ?_)))
      ((with_reducible (refine mop_cS trivial ?_ ?_)))
      · intro hil
        have hil' : i < all.length := by omega
        have e1 := ints8_at (l := all) (i := i) hil'
        have b1 := ovr_le t.size k (all.take i)
        have b2 := slf_le k (all.take i)
        rw [List.length_take] at b1 b2
        have o1 : ovr t.size k (all.take (i + 1)) = ovr t.size k (all.take i) + if all[i] ≠ 2 * (k : Int) ∧ hld t.size all[i] k then 1 else 0 := by rw [List.take_succ_eq_append_getElem hil']; exact ovr_snoc ..
        have s1 : slf k (all.take (i + 1)) = slf k (all.take i) + if all[i] = 2 * (k : Int) then 1 else 0 := by rw [List.take_succ_eq_append_getElem hil']; exact slf_snoc ..
        ((with_reducible (refine mif_true ?_)))
        refine ⟨fun v1 v2 w' => v1 = .int .i64 (ovr t.size k (all.take (i + 1))) ∧ v2 = .int .i64 (slf k (all.take (i + 1))) ∧ hM.now w', ?_, ?_⟩
        · ((with_reducible refine mm_ixs ‹_› ?_ ?_ ?_); (focus (simp only [List.length_map]; omega)); (focus (simp only [List.length_map]; first | done | omega)); (with_reducible (intro _ _ hA)); (cases hA); (with_reducible refine mm_lds0 hM ‹_› (map_atI ?_) ?_); (focus omega); (with_reducible (refine mop_c ?_ ?_)); (focus omega))
          ((with_reducible (refine mop_cS trivial ?_ ?_)))
          · intro c1
            rw [o1, s1, if_neg (by omega), if_pos c1]
            ((with_reducible (refine mif_true ?_; refine mop_c ?_ ?_)); (focus omega))
            exact ⟨by simp, by simp, hM⟩
          · intro c1
            rw [o1, s1, if_neg c1]
            ((with_reducible (refine mif_false ?_)); (with_reducible refine mm_ixs ‹_› ?_ ?_ ?_); (focus (simp only [List.length_map]; omega)); (focus (simp only [List.length_map]; first | done | omega)); (with_reducible (intro _ _ hA)); (cases hA); (with_reducible refine mm_lds0 hM ‹_› (map_atI ?_) ?_); (focus omega); (with_reducible (refine mm_purC hM ?_ (fun _ hM2 => ?_))); (focus (first | exact trivial | assumption | omega)); (with_reducible (replace hM := hM2; clear hM2)))
            by_cases c2 : hld t.size all[i] k
            · rw [if_pos ⟨c1, c2⟩, decide_eq_true c2]
              ((with_reducible (refine mif_true ?_; refine mop_c ?_ ?_)); (focus omega))
              exact ⟨by simp, by simp, hM⟩
            · rw [if_neg (fun h => c2 h.2), decide_eq_false c2]
              ((with_reducible (refine mif_false ?_)))
              exact ⟨by simp, by simp, hM⟩
        rintro v1 v2 u w8 ⟨rfl, rfl, hM⟩
        ((with_reducible (refine mop_c ?_ ?_)); (focus omega))
        exact ⟨⟨i + 1, rfl, rfl, rfl, by omega, hM⟩, by simp only; omega⟩
      · intro hil
        obtain rfl : i = all.length := by omega
        rw [List.take_length]
        have b1 := ovr_le t.size k all
        have b2 := slf_le k all
        generalize ovr t.size k all = ov at *
        generalize slf k all = sl at *
        ((with_reducible (refine mif_false ?_; refine mop_c trivial ?_; refine mm_ld hM ?_)); (with_reducible refine mm_ixs ‹_› ?_ ?_ ?_); (focus (simp only [List.length_map]; omega)); (focus (simp only [List.length_map]; first | done | omega)); (with_reducible (intro _ _ hA)); (cases hA); (with_reducible (refine mop_c trivial ?_)); (with_reducible refine mm_lds hM ‹_› (map_atI ?_) ?_); (focus omega))
        ((with_reducible (refine mop_cS trivial ?_ ?_)))
        · intro z0
          have := cv1 z0
          ((with_reducible (refine mif_true ?_; refine mop_cF trivial ?_ ?_)); (focus (first | assumption | omega | with_reducible rfl | exact fun h => Bool.noConfusion h)); (with_reducible (refine mif_false ?_)))
          exact hM
        · intro z0
          obtain ⟨d1, d2, d3⟩ := cv2 z0
          ((with_reducible (refine mif_false ?_)))
          refine ⟨fun v w' => v = .bool false ∧ hM.now w', ?_, ?_⟩
          · ((with_reducible (refine mop_cF trivial ?_ ?_)); (focus (first | assumption | omega | with_reducible rfl | exact fun h => Bool.noConfusion h)); (with_reducible (refine mguard_yes ?_; refine mop_c trivial ?_; refine mguard_yes ?_; refine mop_cF trivial ?_ ?_)); (focus (first | assumption | omega | with_reducible rfl | exact fun h => Bool.noConfusion h)); (with_reducible (refine mop_c trivial ?_; refine mguard_yes ?_; refine mop_c trivial ?_; refine mguard_yes ?_; refine mop_c trivial ?_; refine mguard_yes ?_; refine mop_c ?_ ?_)); (focus omega); (with_reducible (refine mguard_yes ?_; refine mop_cF trivial ?_ ?_)); (focus (first | assumption | omega | with_reducible rfl | exact fun h => Bool.noConfusion h)); (with_reducible (refine mop_c trivial ?_)))
            exact ⟨rfl, hM⟩
          rintro v u w8 ⟨rfl, hM⟩
          ((with_reducible (refine mif_false ?_)))
          exact hM
    rintro u w7 hM
    ((with_reducible (refine mop_c ?_ ?_)); (focus omega))
    exact ⟨⟨k + 1, rfl, by omega, hM⟩, by simp only; omega⟩
  · intro hge
    ((with_reducible (refine mif_false ?_)))
    exact ⟨rfl, hM.st⟩
end
end Go.Proofs.Ytmjpbomonhjebaa
