/- A number put into a rising row; searching; where a name is. -/
import Derived.Test.YtmjpbomonhjebaaTr1
import Derived.Test.YtmjpbomonhjebaaTr2
import Derived.Test.YtmjpbomonhjebaaMci
namespace Go.Proofs.Ytmjpbomonhjebaa
open Go.RowKit Go.Lib

theorem lay_mid (A X B Y : List Value) (h : X.length = Y.length) : lay (A ++ (X ++ B)) Y A.length = A ++ (Y ++ B) := by
  have := lay_in A X B Y 0 (by omega)
  rw [Nat.add_zero] at this
  rw [this]
  congr 2
  unfold lay
  rw [Nat.zero_add, List.take_zero, List.nil_append, List.drop_eq_nil_of_le (by omega), List.append_nil]
theorem lay_midN {A X B Y cs : List Value} {o : Nat} (e : cs = A ++ (X ++ B)) (ho : o = A.length) (h : X.length = Y.length) : lay cs Y o = A ++ (Y ++ B) := by
  subst e ho
  exact lay_mid A X B Y h
theorem split_drop {α : Type} (V : List α) (i : Nat) (h : i < V.length) : V = V.take i ++ ([V[i]] ++ V.drop (i + 1)) := by simp
theorem split_app {α : Type} (V : List α) (i : Nat) (h : i < V.length) : V.take i ++ ([V[i]] ++ V.drop (i + 1)) = V := (split_drop V i h).symm
theorem lay_shift (V sp : List Value) (x : Value) (i : Nat) (hi : i < V.length) (hsp : 0 < sp.length) : lay (lay (V ++ sp) (V.drop i) (i + 1)) [x] i = V.take i ++ ([x] ++ (V.drop i ++ sp.drop 1)) := by
  obtain ⟨u, sp', rfl⟩ : ∃ u r, sp = u :: r := by
    cases sp with
    | nil => simp at hsp
    | cons u r => exact ⟨u, r, rfl⟩
  have ht : (V.take i).length = i := by simp; omega
  have h1 : lay (V ++ u :: sp') (V.drop i) (i + 1) = (V.take i ++ [V[i]]) ++ (V.drop i ++ sp') := lay_midN (X := V.drop (i + 1) ++ [u]) (by
    rw [← List.append_assoc, ← List.append_assoc, List.append_assoc (V.take i), split_app V i hi, List.append_assoc]
    rfl) (by simp; omega) (by simp; omega)
  rw [h1, List.append_assoc]
  exact lay_midN (X := [V[i]]) rfl ht.symm rfl
theorem lay_grow (V : List Value) (x z : Value) (i m : Nat) (hi : i < V.length) : lay (lay (V.take i ++ List.replicate (V.length + 1 - i + m) z) [x] i) (V.drop i) (i + 1) = V.take i ++ ([x] ++ (V.drop i ++ List.replicate m z)) := by
  have ht : (V.take i).length = i := by simp; omega
  have h1 : lay (V.take i ++ List.replicate (V.length + 1 - i + m) z) [x] i = V.take i ++ ([x] ++ List.replicate (V.length - i + m) z) := lay_midN (X := [z]) (by
    rw [show V.length + 1 - i + m = V.length - i + m + 1 by omega, List.replicate_succ]
    rfl) ht.symm rfl
  rw [h1]
  refine (lay_midN (A := V.take i ++ [x]) (X := List.replicate (V.length - i) z) (B := List.replicate m z) ?_ (by simp; omega) (by simp)).trans (by simp)
  rw [List.replicate_append_replicate]
  simp
theorem vals_ints8 (l : List Int) : fls (ints8 l) = l.map (Value.int .i64) := fls_ints8 l
theorem one_vals (l : List Int) : ∀ v ∈ l.map (Value.int .i64), v.oneCell' = true := by
  intro v hv
  obtain ⟨_, _, rfl⟩ := List.mem_map.1 hv
  rfl
theorem p_sliceL {P : Program} {t : TypeId} {sz n cap : Nat} {a : Option Addr} {kk : IntKind} {ll : Int} [cs : SliS P t sz] (h0 : 0 ≤ ll) (h1 : ll ≤ n) : ∃ v, Pur P (o_slice t (.slice a n cap) (some (.int kk ll)) none none) v := ⟨_, fun w => by
  have h2 := run_slice_l (P := P) w t a n cap cs.ok.1 kk ll h0 h1
  have h3 : (sizeOf (P.elem t)).run P w = .ok sz w := run_size cs.ok.2 w
  simp only [o_slice, sv, Sem.run_bind, run_sliceAt_slice w t _ _ _ _ cs.ok.1, h2, h3, Result.andThen_ok]
  rfl⟩
instance {P : Program} (t ty : TypeId) (ks : List Bool) (a : Option Addr) (n cap : Nat) [h : IsSl P t] : StepC P (o_builtin .cap #[t] ty ks [.slice a n cap]) True (.int .i64 cap) := ⟨fun _ w => by
  obtain ⟨e, h⟩ := h.ok
  simp [o_builtin, invoke, Builtin.cap_, run_underlying h, go_sem]⟩
section
variable {H : Hp} {w0 w : World} {L R R2 : List Res} {A : Option Addr} {cap g vb e e2 : Nat} {cs cs2 : List Value} {K : Value → World → Prop} {X : List PanicEntry → World → Prop}
theorem Mem.bkNe (h : Mem H w0 L w) [k : AtK L g e cs R] [k2 : AtK R vb e2 cs2 R2] : g ≠ vb ∧ Blf w g e cs ∧ Blf w vb e2 cs2 := by
  obtain ⟨B, ⟨B1, B2, rfl, rfl, B3, B4, rfl, rfl, _⟩, hs, _⟩ := (h.perm (k.perm.trans (k2.perm.cons _))).own
  refine ⟨?_, (hs.own ⟨g, e, cs, true⟩ (by simp)).blf, (hs.own ⟨vb, e2, cs2, true⟩ (by simp)).blf⟩
  have := (List.pairwise_cons.1 hs.ne).1 ⟨vb, e2, cs2, true⟩ (by simp)
  exact this
theorem Mem.bkCell (h : Mem H w0 L w) [k : AtK L g e cs R] (j : Nat) : w.cell? ⟨g, j, none⟩ = cs[j]? := by
  rw [h.bkBlf.cell]
theorem run_ocall_ext {P : Program} {f : Nat} {w' : World} {args : List Value} {v : Value} (h : (callFunc f args.toArray).run P w = .ok (.value v) w') : (o_call (fv f) args).run P w = .ok (.value v) w' := by
  simp [o_call, fv, Deferred.ofValue, invoke, h]
theorem mm_ovl {o la ca lb cb : Nat} (h : Mem H w0 L w) [k : AtK L g 3 cs R] [k2 : AtK R vb 3 cs2 R2] (hc : cs ≠ []) (hk : K (.bool false) w) : mop Try.prog (o_call (fv 128) [.slice (some ⟨vb, 0, none⟩) la ca, .slice (some ⟨g, o, none⟩) lb cb]) w K X := by
  obtain ⟨hne, ⟨fr, hb, h1⟩, ⟨fr2, hb2, h2⟩⟩ := h.bkNe (g := g) (vb := vb)
  obtain rfl : fr = (0, 0) := h1.resolve_right fun h => absurd h.2 (by decide)
  obtain rfl : fr2 = (0, 0) := h2.resolve_right fun h => absurd h.2 (by decide)
  refine mop_run (run_ocall_ext ?_) hk
  rw [run_callFunc_extern Try.func128 (by kernel_rfl) (by kernel_rfl) (by kernel_rfl) (e := Extern.SlicesOverlaps.overlaps #[69, 69] #[4]) (by kernel_rfl)]
  show ((Extern.SlicesOverlaps.overlaps #[69, 69] #[4] #[.slice (some ⟨vb, 0, none⟩) la ca, .slice (some ⟨g, o, none⟩) lb cb]).run Try.prog w).andThen _ = _
  rw [Lib.run_overlaps_apart w 69 4 3 (by kernel_rfl) 1 (fun w => run_size (by kernel_rfl) w) ⟨vb, 0, none⟩ ⟨g, o, none⟩ la ca lb cb (fun e => hne e.symm) 3 3 cs2.length cs.length (by simp [World.shape?, hb2]) (by simp [World.shape?, hb]) (by cases cs with
    | nil => exact absurd rfl hc
    | cons => simp) (by simp [World.frozen?, hb2]) (by simp [World.frozen?, hb2])]
  rfl
theorem insert_ok (l : List Int) (i : Nat) (x : Int) (hi : i ≤ l.length) (hl : l.length < 1000000) (hM : Mem H w0 (rowR 3 1 A l.length cap (ints8 l) :: rowR 3 1 (some ⟨vb, 0, none⟩) 1 1 [[.one (.int .i64 x)]] :: L) w) :
    Calls Try.prog 77 #[.slice A l.length cap, .int .i64 i, .slice (some ⟨vb, 0, none⟩) 1 1] w fun en w' => ∃ v, en = .returned v ∧ ∃ A' cap', v = .slice A' (l.length + 1) cap' ∧ Mem H w0 (rowR 3 1 A' (l.length + 1) cap' (ints8 (l.take i ++ x :: l.drop i)) :: L) w' := by
  obtain ⟨-, hcl, hcm, -⟩ := hM.rowLen ⟨.refl _⟩
  have hcm' : cap ≤ 9223372036854775807 := hcm
  refine C_slices_Insert_int_int ?_
  unfold F_slices_Insert_int_int
  obtain ⟨v0, hv0⟩ := p_sliceL (P := Try.prog) (t := 69) (a := A) (n := l.length) (cap := cap) (kk := .i64) (ll := i) (by omega) (by omega)
  refine mop_pur hv0 ?_
  ((with_reducible (refine mop_c trivial ?_; refine mop_cF trivial ?_ ?_)); (focus (first | assumption | omega | with_reducible rfl | exact fun h => Bool.noConfusion h)); (with_reducible (refine mif_false ?_; refine mop_c trivial ?_)))
  ((with_reducible (refine mop_cS trivial ?_ ?_)))
  · intro he
    obtain rfl : i = l.length := by omega
    ((with_reducible (refine mif_true ?_; refine mm_appo hM ?_ ?_)); (focus omega); (with_reducible (clear hM; intro _ _ _ hM)))
    refine ⟨_, rfl, _, _, rfl, ?_⟩
    rw [List.take_length, List.drop_length, ints8_app]
    exact hM
  · intro hne
    have hlt : i < l.length := by omega
    obtain ⟨gg, rfl⟩ := hM.rowAt ⟨.refl _⟩ (by omega)
    obtain ⟨sp, h5, h6, h7, hE, hlen, hM⟩ := hM.raw (g := gg)
    obtain ⟨sp2, h52, -, -, -, -, hM⟩ := hM.raw (g := vb)
    obtain rfl : sp2 = [] := by simp [fls, fl, Fd.cells] at h52; exact h52
    rw [vals_ints8] at h5 hM
    have hone := one_vals l
    have hvl : (l.map (Value.int .i64)).length = l.length := by simp
    generalize hV : l.map (Value.int .i64) = V at *
    rw [show fls [[Fd.one (.int .i64 x)]] ++ [] = [.int .i64 x] from rfl] at hM
    have hg1 : ∀ j v, (V.drop i)[j]? = some v → (V ++ sp)[0 + (i : Int).toNat * 1 + j]? = some v := fun j v hj => by
      rw [List.getElem?_drop] at hj
      rw [show 0 + (i : Int).toNat * 1 + j = i + j by omega, List.getElem?_append_left (List.getElem?_eq_some_iff.1 hj).1]
      exact hj
    have hnil : V ++ sp ≠ [] := fun e => by
      have : (V ++ sp).length = 0 := by rw [e]; rfl
      omega
    have hone2 : ∀ v ∈ V.drop i, v.oneCell' = true := fun v hv => hone v (List.mem_of_mem_drop hv)
    have hfin : fls (ints8 (l.take i ++ x :: l.drop i)) = V.take i ++ ([.int .i64 x] ++ V.drop i) := by
      rw [vals_ints8, ← hV]
      simp
    have hels := els_ints8 (l.take i ++ x :: l.drop i)
    have hll : (ints8 (l.take i ++ x :: l.drop i)).length = l.length + 1 := by simp [ints8]; omega
    ((with_reducible (refine mif_false ?_; refine mop_c ?_ ?_)); (focus omega); (with_reducible (refine mop_c trivial ?_)))
    ((with_reducible (refine mop_cS trivial ?_ ?_)))
    · intro hroom
      ((with_reducible (refine mif_true ?_; refine mop_c ?_ ?_)); (focus omega); (with_reducible (refine mop_c ?_ ?_)); (focus omega); (with_reducible (refine mop_c ?_ ?_)); (focus omega))
      rw [show ((l.length : Int) + ((1 : Nat) : Int) - (i : Int)) = ((l.length + 1 - i : Nat) : Int) by omega, Int.toNat_natCast]
      refine mm_apz (g := gg) (z := .int .i64 0) (kn := .i64) hM (by kernel_rfl) (by kernel_rfl) rfl (by rw [List.length_append]; omega) (by omega) (by omega) ⟨by omega, by omega⟩ (fun g2 cap2 m w2 hc2 hc3 hM => ?_)
      ((with_reducible (refine mop_c ?_ ?_)); (focus omega))
      refine mm_cpk (g := g2) (vs := [.int .i64 x]) hM (by simp; omega) (fun j v hj => by rw [Addr.add_lit, Nat.zero_add, hM.bkCell (g := vb)]; exact hj) (by simp; omega) (fun v hv => by rw [List.mem_singleton.1 hv]; rfl) (fun w3 hM => ?_)
      ((with_reducible (refine dp_c ?_ ?_)); (focus omega); (with_reducible (refine dp_c ?_ ?_)); (focus omega); (with_reducible (refine dp_c ?_ ?_)); (focus omega))
      refine dm_cpk (g := g2) (vs := V.drop i) hM (by simp; omega) (fun w' hM j v hj => by rw [Addr.add_lit, hM.bkCell (g := gg)]; exact hg1 j v hj) (by rw [lay_length _ _ _ (by simp; omega)]; simp; omega) hone2 (fun w4 hM => ?_)
      ((with_reducible (refine mm_end hM ?_; clear hM; intro _ hM)))
      have hgr := lay_grow V (.int .i64 x) (.int .i64 0) i m (by omega)
      rw [show 0 + (i : Int).toNat * 1 = i by omega, show 0 + ((i : Int) + ((1 : Nat) : Int)).toNat * 1 = i + 1 by omega, List.take_append_of_le_length (by omega), show l.length + 1 - i + m = V.length + 1 - i + m by omega, hgr, ← List.append_assoc, ← List.append_assoc, List.append_assoc (V.take i), ← hfin] at hM
      have hM := hM.unraw hels hll (cap := cap2) ?_ (by omega) hc3
      refine ⟨_, rfl, some ⟨g2, 0, none⟩, cap2, ?_, hM.sub⟩
      · congr 1
        omega
      · rw [List.length_append, els_ints8 _ |>.len, hll]
        simp
        omega
    · intro hroom
      ((with_reducible (refine mif_false ?_; refine mop_c ?_ ?_)); (focus omega); (with_reducible (refine mop_c ?_ ?_)); (focus omega); (with_reducible (refine mop_c ?_ ?_)); (focus omega); (with_reducible (refine mop_c ?_ ?_)); (focus omega))
      rw [show ((l.length : Int) + ((1 : Nat) : Int)).toNat = l.length + 1 by omega, show ((i : Int) + ((1 : Nat) : Int)).toNat = i + 1 by omega]
      refine mm_ovl (g := gg) (vb := vb) hM hnil ?_
      ((with_reducible (refine mop_c trivial ?_; refine mif_true ?_; refine dp_c ?_ ?_)); (focus omega); (with_reducible (refine dp_c ?_ ?_)); (focus omega); (with_reducible (refine dp_c ?_ ?_)); (focus omega))
      refine dm_cpk (g := gg) (vs := V.drop i) hM (by simp; omega) (fun w' hM j v hj => by rw [Addr.add_lit, hM.bkCell (g := gg)]; exact hg1 j v hj) (by rw [List.length_drop]; omega) hone2 (fun w' hM => ?_)
      ((with_reducible (refine mm_end hM ?_; clear hM; intro _ hM; refine mop_c ?_ ?_)); (focus omega))
      refine mm_cpk (g := gg) (vs := [.int .i64 x]) hM (by simp; omega) (fun j v hj => by rw [Addr.add_lit, Nat.zero_add, hM.bkCell (g := vb)]; exact hj) (by rw [lay_length] <;> simp only [List.length_singleton, List.length_drop] <;> omega) (fun v hv => by rw [List.mem_singleton.1 hv]; rfl) (fun w' hM => ?_)
      skip
      have hsh := lay_shift V sp (.int .i64 x) i (by omega) (by rw [List.length_append] at h5; omega)
      rw [show 0 + (i : Int).toNat * 1 = i by omega, show 0 + ((i : Int) + ((1 : Nat) : Int)).toNat * 1 = i + 1 by omega, hsh, ← List.append_assoc, ← List.append_assoc, List.append_assoc (V.take i), ← hfin] at hM
      have hM := hM.unraw hels hll (cap := cap) ?_ (by omega) h7
      refine ⟨_, rfl, _, _, rfl, hM.sub⟩
      rw [List.length_append] at h5
      rw [List.length_append, (els_ints8 _).len, hll, List.length_drop]
      omega
theorem less_ok (a b : Int) (w : World) : Calls Try.prog 126 #[.int .i64 a, .int .i64 b] w fun en w' => en = .returned (.bool (decide (a < b))) ∧ St w [] w' := by
  have hM := Mem.start (Fz.of w)
  refine C_cmp_Less_int ?_
  unfold F_cmp_Less_int
  have hn : ∀ (x : Int) (w : World), Calls Try.prog 148 #[.int .i64 x] w fun en w' => en = .returned (.bool false) ∧ St w [] w' := fun x w => by
    have hM := Mem.start (Fz.of w)
    refine C_cmp_isNaN_int ?_
    unfold F_cmp_isNaN_int
    refine mop_cF trivial (by simp) ?_
    exact ⟨rfl, hM.st⟩
  refine mm_pure hM (hn a w) (fun w hM => ?_)
  ((with_reducible ((iterate 3 refine mguard_n2 ?_); refine mop_c trivial ?_; refine mguard_yes ?_; refine mop_c trivial ?_; refine mguard_yes ?_; refine mop_c trivial ?_; refine mguard_yes ?_)))
  ((with_reducible (refine mop_cS trivial ?_ ?_)))
  all_goals
    intro h
    ((with_reducible (refine mop_c trivial ?_)))
    exact ⟨by simp [h], hM.st⟩
instance (a b : Int) : PurC Try.prog 126 [.int .i64 a, .int .i64 b] True (.bool (decide (a < b))) := ⟨fun _ w => less_ok a b w⟩
theorem nan_ok (x : Int) (w : World) : Calls Try.prog 127 #[.int .i64 x] w fun en w' => en = .returned (.bool false) ∧ St w [] w' := by
  have hM := Mem.start (Fz.of w)
  refine C_slices_isNaN_int ?_
  unfold F_slices_isNaN_int
  refine mop_cF trivial (by simp) ?_
  exact ⟨rfl, hM.st⟩
instance (x : Int) : PurC Try.prog 127 [.int .i64 x] True (.bool false) := ⟨fun _ w => nan_ok x w⟩
theorem bsearch_ok {a : Nat} (l : List Int) (x : Int) (hs : l.Pairwise (· < ·)) (hl : l.length < 1000000) (h1 : Sl H 1 A (ints8 l)) (hf : Fz H w) :
    Calls Try.prog 76 #[.slice A l.length a, .int .i64 x] w fun en w' => (∃ b, en = .returned (.tuple #[.int .i64 (bs' l x), .bool b])) ∧ St w [] w' := by
  have hM := Mem.start hf
  refine C_slices_BinarySearch_int_int ?_
  unfold F_slices_BinarySearch_int_int
  ((with_reducible (refine mop_c trivial ?_)))
  refine ⟨fun v u w' => ∃ i j : Nat, v = .int .i64 i ∧ u = .int .i64 j ∧ i ≤ j ∧ j ≤ l.length ∧ (∀ k (hk : k < l.length), k < i → l[k] < x) ∧ (∀ k (hk : k < l.length), j ≤ k → x ≤ l[k]) ∧ hM.now w', fun v u _ => match v, u with | .int _ i, .int _ j => (j - i).toNat | _, _ => 0, ⟨0, l.length, rfl, rfl, by omega, by omega, fun k _ h => by omega, fun k h h2 => by omega, hM⟩, ?_⟩
  rintro v u i' w2 ⟨i, j, rfl, rfl, hij, hj, hlo, hhi, hM⟩
  ((with_reducible (refine mop_cS trivial ?_ ?_)))
  · intro hlt
    ((with_reducible (refine mif_true ?_; refine mop_c ?_ ?_)); (focus omega); (with_reducible (refine mop_c trivial ?_; refine mop_c ?_ ?_)); (focus omega))
    obtain ⟨m, hm⟩ : ∃ m, (i + j) / 2 = m := ⟨_, rfl⟩
    rw [show ((i : Int) + (j : Int)) % 18446744073709551616 / 2 ^ Int.toNat 1 = (m : Int) by show _ / 2 = _; omega]
    have hml : m < l.length := by omega
    ((with_reducible (refine mop_c ?_ ?_)); (focus omega); (with_reducible refine mm_ixs ‹_› ?_ ?_ ?_); (focus (simp only [List.length_map]; omega)); (focus (simp only [List.length_map]; first | done | omega)); (with_reducible (intro _ _ hA)); (cases hA); (with_reducible refine mm_lds0 hM ‹_› (map_atI ?_) ?_); (focus omega); (with_reducible (refine mm_purC hM ?_ ?_)); (focus (first | exact trivial | assumption | omega)); (with_reducible (clear hM; intro _ hM)))
    by_cases hc : l[m] < x
    · rw [decide_eq_true hc]
      ((with_reducible (refine mif_true ?_; refine mop_c ?_ ?_)); (focus omega))
      refine ⟨⟨m + 1, j, rfl, rfl, by omega, hj, fun k hk hkm => ?_, hhi, hM⟩, by simp only; omega⟩
      rcases Nat.lt_or_ge k m with h | h
      · have := List.pairwise_iff_getElem.1 hs k m hk hml h
        omega
      · obtain rfl : k = m := by omega
        exact hc
    · rw [decide_eq_false hc]
      ((with_reducible (refine mif_false ?_)))
      refine ⟨⟨i, m, rfl, rfl, by omega, by omega, hlo, fun k hk hkm => ?_, hM⟩, by simp only; omega⟩
      rcases Nat.lt_or_ge m k with h | h
      · have := List.pairwise_iff_getElem.1 hs m k hml hk h
        omega
      · obtain rfl : k = m := by omega
        omega
  · intro hge
    obtain rfl : i = j := by omega
    have hb : bs' l x = i := by
      unfold bs'
      by_cases h : i < l.length
      · exact findIdx_at h (fun k hk hki => by have := hlo k hk hki; simp only [decide_eq_false_iff_not]; omega) (by simpa using hhi i h (Nat.le_refl _))
      · rw [findIdx_none fun k hk => by have := hlo k hk (by omega); simp only [decide_eq_false_iff_not]; omega]
        omega
    rw [hb]
    ((with_reducible (refine mif_false ?_)))
    ((with_reducible (refine mop_cS trivial ?_ ?_)))
    · intro hlt
      have hlt' : i < l.length := by omega
      ((with_reducible (refine mguard_yes ?_; refine mop_c trivial ?_; refine mguard_yes ?_; refine mop_c trivial ?_; refine mguard_yes ?_)); (with_reducible refine mm_ixs ‹_› ?_ ?_ ?_); (focus (simp only [List.length_map]; omega)); (focus (simp only [List.length_map]; first | done | omega)); (with_reducible (intro _ _ hA)); (cases hA); (with_reducible (refine mguard_yes ?_)); (with_reducible refine mm_lds0 hM ‹_› (map_atI ?_) ?_); (focus omega); (with_reducible (refine mguard_yes ?_; refine mop_c trivial ?_; refine mguard_yes ?_)))
      ((with_reducible (refine mop_cS trivial ?_ ?_)))
      all_goals
        intro h
        (first | ((with_reducible (refine mguard_yes ?_; refine mop_c trivial ?_; refine mguard_yes ?_; refine mop_c trivial ?_; refine mguard_yes ?_; refine mop_c trivial ?_; refine mguard_yes ?_)); (with_reducible refine mm_ixs ‹_› ?_ ?_ ?_); (focus (simp only [List.length_map]; omega)); (focus (simp only [List.length_map]; first | done | omega)); (with_reducible (intro _ _ hA)); (cases hA); (with_reducible (refine mguard_yes ?_)); (with_reducible refine mm_lds0 hM ‹_› (map_atI ?_) ?_); (focus omega); (with_reducible (refine mguard_yes ?_; refine mm_purC hM ?_ ?_)); (focus (first | exact trivial | assumption | omega)); (with_reducible (clear hM; intro _ hM; refine mguard_yes ?_; refine mop_c trivial ?_; refine mguard_n2 ?_; refine mguard_n2 ?_; refine mguard_yes ?_; refine mop_c trivial ?_; refine mguard_yes ?_; refine mop_c trivial ?_; refine mop_c trivial ?_))) | ((with_reducible (refine mguard_yes ?_; refine mop_c trivial ?_; (iterate 6 refine mguard_n1 ?_); refine mguard_un ?_; refine mguard_un ?_; refine mguard_n1 ?_; refine mguard_yes ?_; refine mop_c trivial ?_; refine mop_c trivial ?_))))
        exact ⟨⟨_, rfl⟩, hM.st⟩
    · intro hlt
      ((with_reducible ((iterate 7 refine mguard_n2 ?_); (iterate 9 refine mguard_un ?_); refine mguard_n2 ?_; refine mop_c trivial ?_)))
      exact ⟨⟨_, rfl⟩, hM.st⟩
theorem index_ok {a : Nat} (ls : List Lf) (hl : ls.length < 1000000) (h1 : Sl H 97 A (ls.map Lf.fds)) (hf : Fz H w) :
    Calls Try.prog 74 #[.slice A ls.length a, lv Lf.zero] w fun en w' => en = .returned (.int .i64 (fix (fun l => decide (l = Lf.zero)) ls)) ∧ St w [] w' := by
  have hM := Mem.start hf
  refine C_slices_Index_api_Leaf_api_Leaf ?_
  unfold F_slices_Index_api_Leaf_api_Leaf
  ((with_reducible (refine mm_box hM ?_; clear hM; intro _ _ hM; refine mop_c trivial ?_)))
  rename_i g1 _
  refine ⟨fun v w' => ∃ i : Nat, v = .int .i64 i ∧ i ≤ ls.length ∧ (∀ j (hj : j < ls.length), j < i → decide (ls[j] = Lf.zero) = false) ∧ hM.now w', fun v _ => match v with | .int _ k => ls.length - k.toNat | _ => 0, ⟨0, rfl, by omega, fun j _ h => by omega, hM⟩, ?_⟩
  rintro v u w3 ⟨i, rfl, hi, hlo, hM⟩
  ((with_reducible (refine mop_cS trivial ?_ ?_)))
  · intro hlt
    have hlt' : i < ls.length := by omega
    ((with_reducible (refine mif_true ?_; refine dm_ld hM ?_)); (with_reducible refine dp_ixs ‹_› ?_ ?_ ?_); (focus (simp only [List.length_map]; omega)); (focus (simp only [List.length_map]; first | done | omega)); (with_reducible (intro _ _ hA)); (cases hA); (with_reducible refine dm_lds0 hM ‹_› (map_atI ?_) ?_); (focus omega))
    ((with_reducible (refine dp_cS trivial ?_ ?_)))
    · intro h
      ((with_reducible (refine mm_end hM ?_; clear hM; intro _ hM; refine mif_true ?_)))
      refine ⟨?_, hM.st⟩
      rw [fix_at hlt' hlo (decide_eq_true ((lf_zero _).2 ⟨h.1.symm, h.2.1.symm, h.2.2.1.symm, h.2.2.2.symm⟩))]
    · intro h
      ((with_reducible (refine mm_end hM ?_; clear hM; intro _ hM; refine mif_false ?_; refine mop_c ?_ ?_)); (focus omega))
      refine ⟨⟨i + 1, rfl, by omega, fun j hj hji => ?_, hM⟩, by simp only; omega⟩
      rcases Nat.lt_or_ge j i with h2 | h2
      · exact hlo j hj h2
      · obtain rfl : j = i := by omega
        refine decide_eq_false fun e => h ?_
        obtain ⟨a1, a2, a3, a4⟩ := (lf_zero _).1 e
        exact ⟨a1.symm, a2.symm, a3.symm, a4.symm⟩
  · intro hge
    ((with_reducible (refine mif_false ?_)))
    refine ⟨?_, hM.st⟩
    rw [fix_none fun j hj => hlo j hj (by omega)]
end
end Go.Proofs.Ytmjpbomonhjebaa
