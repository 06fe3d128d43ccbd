/- Part 5 of the proof. -/
import Derived.Test.YtopcnkejobomaaaGreatPb4
set_option linter.unusedVariables false
namespace Go.Proofs.YtopcnkejobomaaaGreat
open Go.RowKit Go.Lib
theorem lay_mid (A X B Y : List Value) (h : X.length = Y.length) : lay (A ++ (X ++ B)) Y A.length = A ++ (Y ++ B) := by
  have := lay_in A X B Y 0 (by omega)
  rw [Nat.add_zero] at this
  rw [this]
  congr 2
  unfold lay
  rw [Nat.zero_add, List.take_zero, List.nil_append, List.drop_eq_nil_of_le (by omega), List.append_nil]
theorem lay_midN {A X B Y cs : List Value} {o : Nat} (e : cs = A ++ (X ++ B)) (ho : o = A.length) (h : X.length = Y.length) : lay cs Y o = A ++ (Y ++ B) := by
  subst e ho
  exact lay_mid A X B Y h
theorem split_drop {α : Type} (V : List α) (i : Nat) (h : i < V.length) : V = V.take i ++ ([V[i]] ++ V.drop (i + 1)) := by simp
theorem split_app {α : Type} (V : List α) (i : Nat) (h : i < V.length) : V.take i ++ ([V[i]] ++ V.drop (i + 1)) = V := (split_drop V i h).symm
theorem lay_shift (V sp : List Value) (x : Value) (i : Nat) (hi : i < V.length) (hsp : 0 < sp.length) : lay (lay (V ++ sp) (V.drop i) (i + 1)) [x] i = V.take i ++ ([x] ++ (V.drop i ++ sp.drop 1)) := by
  obtain ⟨u, sp', rfl⟩ : ∃ u r, sp = u :: r := by
    cases sp with
    | nil => simp at hsp
    | cons u r => exact ⟨u, r, rfl⟩
  have ht : (V.take i).length = i := by simp; omega
  have h1 : lay (V ++ u :: sp') (V.drop i) (i + 1) = (V.take i ++ [V[i]]) ++ (V.drop i ++ sp') := lay_midN (X := V.drop (i + 1) ++ [u]) (by
    rw [← List.append_assoc, ← List.append_assoc, List.append_assoc (V.take i), split_app V i hi, List.append_assoc]
    rfl) (by simp; omega) (by simp; omega)
  rw [h1, List.append_assoc]
  exact lay_midN (X := [V[i]]) rfl ht.symm rfl
theorem lay_grow (V : List Value) (x z : Value) (i m : Nat) (hi : i < V.length) : lay (lay (V.take i ++ List.replicate (V.length + 1 - i + m) z) [x] i) (V.drop i) (i + 1) = V.take i ++ ([x] ++ (V.drop i ++ List.replicate m z)) := by
  have ht : (V.take i).length = i := by simp; omega
  have h1 : lay (V.take i ++ List.replicate (V.length + 1 - i + m) z) [x] i = V.take i ++ ([x] ++ List.replicate (V.length - i + m) z) := lay_midN (X := [z]) (by
    rw [show V.length + 1 - i + m = V.length - i + m + 1 by omega, List.replicate_succ]
    rfl) ht.symm rfl
  rw [h1]
  refine (lay_midN (A := V.take i ++ [x]) (X := List.replicate (V.length - i) z) (B := List.replicate m z) ?_ (by simp; omega) (by simp)).trans (by simp)
  rw [List.replicate_append_replicate]
  simp
theorem vals_ints8 (l : List Int) : fls (ints8 l) = l.map (Value.int .i64) := fls_ints8 l
theorem one_vals (l : List Int) : ∀ v ∈ l.map (Value.int .i64), v.oneCell' = true := by
  intro v hv
  obtain ⟨_, _, rfl⟩ := List.mem_map.1 hv
  rfl
theorem p_sliceL {P : Program} {t : TypeId} {sz n cap : Nat} {a : Option Addr} {kk : IntKind} {ll : Int} [cs : SliS P t sz] (h0 : 0 ≤ ll) (h1 : ll ≤ n) : ∃ v, Pur P (o_slice t (.slice a n cap) (some (.int kk ll)) none none) v := ⟨_, fun w => by
  have h2 := run_slice_l (P := P) w t a n cap cs.ok.1 kk ll h0 h1
  have h3 : (sizeOf (P.elem t)).run P w = .ok sz w := run_size cs.ok.2 w
  simp only [o_slice, sv, Sem.run_bind, run_sliceAt_slice w t _ _ _ _ cs.ok.1, h2, h3, Result.andThen_ok]
  rfl⟩
instance {P : Program} (t ty : TypeId) (ks : List Bool) (a : Option Addr) (n cap : Nat) [h : IsSl P t] : StepC P (o_builtin .cap #[t] ty ks [.slice a n cap]) True (.int .i64 cap) := ⟨fun _ w => by
  obtain ⟨e, h⟩ := h.ok
  simp [o_builtin, invoke, Builtin.cap_, run_underlying h, go_sem]⟩
section
variable {H : Hp} {w0 w : World} {L R R2 : List Res} {A : Option Addr} {cap g vb e e2 : Nat} {cs cs2 : List Value} {K : Value → World → Prop} {X : List PanicEntry → World → Prop}
theorem Mem.bkNe (h : Mem H w0 L w) [k : AtK L g e cs R] [k2 : AtK R vb e2 cs2 R2] : g ≠ vb ∧ Blf w g e cs ∧ Blf w vb e2 cs2 := by
  obtain ⟨B, ⟨B1, B2, rfl, rfl, B3, B4, rfl, rfl, _⟩, hs, _⟩ := (h.perm (k.perm.trans (k2.perm.cons _))).own
  refine ⟨?_, (hs.own ⟨g, e, cs, true⟩ (by simp)).blf, (hs.own ⟨vb, e2, cs2, true⟩ (by simp)).blf⟩
  have := (List.pairwise_cons.1 hs.ne).1 ⟨vb, e2, cs2, true⟩ (by simp)
  exact this
theorem Mem.bkCell (h : Mem H w0 L w) [k : AtK L g e cs R] (j : Nat) : w.cell? ⟨g, j, none⟩ = cs[j]? := by
  rw [h.bkBlf.cell]
theorem run_ocall_ext {P : Program} {f : Nat} {w' : World} {args : List Value} {v : Value} (h : (callFunc f args.toArray).run P w = .ok (.value v) w') : (o_call (fv f) args).run P w = .ok (.value v) w' := by
  simp [o_call, fv, Deferred.ofValue, invoke, h]
theorem mm_ovl {o la ca lb cb : Nat} (h : Mem H w0 L w) [k : AtK L g 3 cs R] [k2 : AtK R vb 3 cs2 R2] (hc : cs ≠ []) (hk : K (.bool false) w) : mop Tryz.prog (o_call (fv 117) [.slice (some ⟨vb, 0, none⟩) la ca, .slice (some ⟨g, o, none⟩) lb cb]) w K X := by
  obtain ⟨hne, ⟨fr, hb, h1⟩, ⟨fr2, hb2, h2⟩⟩ := h.bkNe (g := g) (vb := vb)
  obtain rfl : fr = (0, 0) := h1.resolve_right fun h => absurd h.2 (by decide)
  obtain rfl : fr2 = (0, 0) := h2.resolve_right fun h => absurd h.2 (by decide)
  refine mop_run (run_ocall_ext ?_) hk
  rw [run_callFunc_extern Tryz.func117 (by kernel_rfl) (by kernel_rfl) (by kernel_rfl) (e := Extern.SlicesOverlaps.overlaps #[29, 29] #[4]) (by kernel_rfl)]
  show ((Extern.SlicesOverlaps.overlaps #[29, 29] #[4] #[.slice (some ⟨vb, 0, none⟩) la ca, .slice (some ⟨g, o, none⟩) lb cb]).run Tryz.prog w).andThen _ = _
  rw [Lib.run_overlaps_apart w 29 4 3 (by kernel_rfl) 1 (fun w => run_size (by kernel_rfl) w) ⟨vb, 0, none⟩ ⟨g, o, none⟩ la ca lb cb (fun e => hne e.symm) 3 3 cs2.length cs.length (by simp [World.shape?, hb2]) (by simp [World.shape?, hb]) (by cases cs with
    | nil => exact absurd rfl hc
    | cons => simp) (by simp [World.frozen?, hb2]) (by simp [World.frozen?, hb2])]
  rfl
theorem insert_ok (l : List Int) (i : Nat) (x : Int) (hi : i ≤ l.length) (hl : l.length < 1000000) (hM : Mem H w0 (rowR 3 1 A l.length cap (ints8 l) :: rowR 3 1 (some ⟨vb, 0, none⟩) 1 1 [[.one (.int .i64 x)]] :: L) w) :
    Calls Tryz.prog 76 #[.slice A l.length cap, .int .i64 i, .slice (some ⟨vb, 0, none⟩) 1 1] w fun en w' => ∃ v, en = .returned v ∧ ∃ A' cap', v = .slice A' (l.length + 1) cap' ∧ Mem H w0 (rowR 3 1 A' (l.length + 1) cap' (ints8 (l.take i ++ x :: l.drop i)) :: L) w' := by
  obtain ⟨-, hcl, hcm, -⟩ := hM.rowLen ⟨.refl _⟩
  have hcm' : cap ≤ 9223372036854775807 := hcm
  refine C_slices_Insert_int_int ?_
  unfold F_slices_Insert_int_int
  obtain ⟨v0, hv0⟩ := p_sliceL (P := Tryz.prog) (t := 29) (a := A) (n := l.length) (cap := cap) (kk := .i64) (ll := i) (by omega) (by omega)
  refine mop_pur hv0 ?_
  ((with_reducible (refine mop_c trivial ?_; refine mop_cF trivial ?_ ?_)); (focus (first | assumption | omega | with_reducible rfl | exact fun h => Bool.noConfusion h)); (with_reducible (refine mif_false ?_; refine mop_c trivial ?_)))
  ((with_reducible (refine mop_cS trivial ?_ ?_)))
  · intro he
    obtain rfl : i = l.length := by omega
    ((with_reducible (refine mif_true ?_; refine mm_appo hM ?_ ?_)); (focus omega); (with_reducible (clear hM; intro _ _ _ hM)))
    refine ⟨_, rfl, _, _, rfl, ?_⟩
    rw [List.take_length, List.drop_length, ints8_app]
    exact hM
  · intro hne
    have hlt : i < l.length := by omega
    obtain ⟨gg, rfl⟩ := hM.rowAt ⟨.refl _⟩ (by omega)
    obtain ⟨sp, h5, h6, h7, hE, hlen, hM⟩ := hM.raw (g := gg)
    obtain ⟨sp2, h52, -, -, -, -, hM⟩ := hM.raw (g := vb)
    obtain rfl : sp2 = [] := by simp [fls, fl, Fd.cells] at h52; exact h52
    rw [vals_ints8] at h5 hM
    have hone := one_vals l
    have hvl : (l.map (Value.int .i64)).length = l.length := by simp
    generalize hV : l.map (Value.int .i64) = V at *
    rw [show fls [[Fd.one (.int .i64 x)]] ++ [] = [.int .i64 x] from rfl] at hM
    have hg1 : ∀ j v, (V.drop i)[j]? = some v → (V ++ sp)[0 + (i : Int).toNat * 1 + j]? = some v := fun j v hj => by
      rw [List.getElem?_drop] at hj
      rw [show 0 + (i : Int).toNat * 1 + j = i + j by omega, List.getElem?_append_left (List.getElem?_eq_some_iff.1 hj).1]
      exact hj
    have hnil : V ++ sp ≠ [] := fun e => by
      have : (V ++ sp).length = 0 := by rw [e]; rfl
      omega
    have hone2 : ∀ v ∈ V.drop i, v.oneCell' = true := fun v hv => hone v (List.mem_of_mem_drop hv)
    have hfin : fls (ints8 (l.take i ++ x :: l.drop i)) = V.take i ++ ([.int .i64 x] ++ V.drop i) := by
      rw [vals_ints8, ← hV]
      simp
    have hels := els_ints8 (l.take i ++ x :: l.drop i)
    have hll : (ints8 (l.take i ++ x :: l.drop i)).length = l.length + 1 := by simp [ints8]; omega
    ((with_reducible (refine mif_false ?_; refine mop_c ?_ ?_)); (focus omega); (with_reducible (refine mop_c trivial ?_)))
    ((with_reducible (refine mop_cS trivial ?_ ?_)))
    · intro hroom
      ((with_reducible (refine mif_true ?_; refine mop_c ?_ ?_)); (focus omega); (with_reducible (refine mop_c ?_ ?_)); (focus omega); (with_reducible (refine mop_c ?_ ?_)); (focus omega))
      rw [show ((l.length : Int) + ((1 : Nat) : Int) - (i : Int)) = ((l.length + 1 - i : Nat) : Int) by omega, Int.toNat_natCast]
      refine mm_apz (g := gg) (z := .int .i64 0) (kn := .i64) hM (by kernel_rfl) (by kernel_rfl) rfl (by rw [List.length_append]; omega) (by omega) (by omega) ⟨by omega, by omega⟩ (fun g2 cap2 m w2 hc2 hc3 hM => ?_)
      ((with_reducible (refine mop_c ?_ ?_)); (focus omega))
      refine mm_cpk (g := g2) (vs := [.int .i64 x]) hM (by simp; omega) (fun j v hj => by rw [Addr.add_lit, Nat.zero_add, hM.bkCell (g := vb)]; exact hj) (by simp; omega) (fun v hv => by rw [List.mem_singleton.1 hv]; rfl) (fun w3 hM => ?_)
      ((with_reducible (refine dp_c ?_ ?_)); (focus omega); (with_reducible (refine dp_c ?_ ?_)); (focus omega); (with_reducible (refine dp_c ?_ ?_)); (focus omega))
      refine dm_cpk (g := g2) (vs := V.drop i) hM (by simp; omega) (fun w' hM j v hj => by rw [Addr.add_lit, hM.bkCell (g := gg)]; exact hg1 j v hj) (by rw [lay_length _ _ _ (by simp; omega)]; simp; omega) hone2 (fun w4 hM => ?_)
      ((with_reducible (refine mm_end hM ?_; clear hM; intro _ hM)))
      have hgr := lay_grow V (.int .i64 x) (.int .i64 0) i m (by omega)
      rw [show 0 + (i : Int).toNat * 1 = i by omega, show 0 + ((i : Int) + ((1 : Nat) : Int)).toNat * 1 = i + 1 by omega, List.take_append_of_le_length (by omega), show l.length + 1 - i + m = V.length + 1 - i + m by omega, hgr, ← List.append_assoc, ← List.append_assoc, List.append_assoc (V.take i), ← hfin] at hM
      have hM := hM.unraw hels hll (cap := cap2) ?_ (by omega) hc3
      refine ⟨_, rfl, some ⟨g2, 0, none⟩, cap2, ?_, hM.sub⟩
      · congr 1
        omega
      · rw [List.length_append, els_ints8 _ |>.len, hll]
        simp
        omega
    · intro hroom
      ((with_reducible (refine mif_false ?_; refine mop_c ?_ ?_)); (focus omega); (with_reducible (refine mop_c ?_ ?_)); (focus omega); (with_reducible (refine mop_c ?_ ?_)); (focus omega); (with_reducible (refine mop_c ?_ ?_)); (focus omega))
      rw [show ((l.length : Int) + ((1 : Nat) : Int)).toNat = l.length + 1 by omega, show ((i : Int) + ((1 : Nat) : Int)).toNat = i + 1 by omega]
      refine mm_ovl (g := gg) (vb := vb) hM hnil ?_
      ((with_reducible (refine mop_c trivial ?_; refine mif_true ?_; refine dp_c ?_ ?_)); (focus omega); (with_reducible (refine dp_c ?_ ?_)); (focus omega); (with_reducible (refine dp_c ?_ ?_)); (focus omega))
      refine dm_cpk (g := gg) (vs := V.drop i) hM (by simp; omega) (fun w' hM j v hj => by rw [Addr.add_lit, hM.bkCell (g := gg)]; exact hg1 j v hj) (by rw [List.length_drop]; omega) hone2 (fun w' hM => ?_)
      ((with_reducible (refine mm_end hM ?_; clear hM; intro _ hM; refine mop_c ?_ ?_)); (focus omega))
      refine mm_cpk (g := gg) (vs := [.int .i64 x]) hM (by simp; omega) (fun j v hj => by rw [Addr.add_lit, Nat.zero_add, hM.bkCell (g := vb)]; exact hj) (by rw [lay_length] <;> simp only [List.length_singleton, List.length_drop] <;> omega) (fun v hv => by rw [List.mem_singleton.1 hv]; rfl) (fun w' hM => ?_)
      skip
      have hsh := lay_shift V sp (.int .i64 x) i (by omega) (by rw [List.length_append] at h5; omega)
      rw [show 0 + (i : Int).toNat * 1 = i by omega, show 0 + ((i : Int) + ((1 : Nat) : Int)).toNat * 1 = i + 1 by omega, hsh, ← List.append_assoc, ← List.append_assoc, List.append_assoc (V.take i), ← hfin] at hM
      have hM := hM.unraw hels hll (cap := cap) ?_ (by omega) h7
      refine ⟨_, rfl, _, _, rfl, hM.sub⟩
      rw [List.length_append] at h5
      rw [List.length_append, (els_ints8 _).len, hll, List.length_drop]
      omega
theorem less_ok (a b : Int) (w : World) : Calls Tryz.prog 115 #[.int .i64 a, .int .i64 b] w fun en w' => en = .returned (.bool (decide (a < b))) ∧ St w [] w' := by
  have hM := Mem.start (Fz.of w)
  refine C_cmp_Less_int ?_
  unfold F_cmp_Less_int
  have hn : ∀ (x : Int) (w : World), Calls Tryz.prog 144 #[.int .i64 x] w fun en w' => en = .returned (.bool false) ∧ St w [] w' := fun x w => by
    have hM := Mem.start (Fz.of w)
    refine C_cmp_isNaN_int ?_
    unfold F_cmp_isNaN_int
    refine mop_cF trivial (by simp) ?_
    exact ⟨rfl, hM.st⟩
  refine mm_pure hM (hn a w) (fun w hM => ?_)
  ((with_reducible ((iterate 3 refine mguard_n2 ?_); refine mop_c trivial ?_; refine mguard_yes ?_; refine mop_c trivial ?_; refine mguard_yes ?_; refine mop_c trivial ?_; refine mguard_yes ?_)))
  ((with_reducible (refine mop_cS trivial ?_ ?_)))
  all_goals
    intro h
    ((with_reducible (refine mop_c trivial ?_)))
    exact ⟨by simp [h], hM.st⟩
instance (a b : Int) : PurC Tryz.prog 115 [.int .i64 a, .int .i64 b] True (.bool (decide (a < b))) := ⟨fun _ w => less_ok a b w⟩
theorem nan_ok (x : Int) (w : World) : Calls Tryz.prog 116 #[.int .i64 x] w fun en w' => en = .returned (.bool false) ∧ St w [] w' := by
  have hM := Mem.start (Fz.of w)
  refine C_slices_isNaN_int ?_
  unfold F_slices_isNaN_int
  refine mop_cF trivial (by simp) ?_
  exact ⟨rfl, hM.st⟩
instance (x : Int) : PurC Tryz.prog 116 [.int .i64 x] True (.bool false) := ⟨fun _ w => nan_ok x w⟩
theorem bsearch_ok {a : Nat} (l : List Int) (x : Int) (hs : l.Pairwise (· < ·)) (hl : l.length < 1000000) (h1 : Sl H 1 A (ints8 l)) (hf : Fz H w) :
    Calls Tryz.prog 75 #[.slice A l.length a, .int .i64 x] w fun en w' => (∃ b, en = .returned (.tuple #[.int .i64 (bs' l x), .bool b])) ∧ St w [] w' := by
  have hM := Mem.start hf
  refine C_slices_BinarySearch_int_int ?_
  unfold F_slices_BinarySearch_int_int
  ((with_reducible (refine mop_c trivial ?_)))
  refine ⟨fun v u w' => ∃ i j : Nat, v = .int .i64 i ∧ u = .int .i64 j ∧ i ≤ j ∧ j ≤ l.length ∧ (∀ k (hk : k < l.length), k < i → l[k] < x) ∧ (∀ k (hk : k < l.length), j ≤ k → x ≤ l[k]) ∧ hM.now w', fun v u _ => match v, u with | .int _ i, .int _ j => (j - i).toNat | _, _ => 0, ⟨0, l.length, rfl, rfl, by omega, by omega, fun k _ h => by omega, fun k h h2 => by omega, hM⟩, ?_⟩
  rintro v u i' w2 ⟨i, j, rfl, rfl, hij, hj, hlo, hhi, hM⟩
  ((with_reducible (refine mop_cS trivial ?_ ?_)))
  · intro hlt
    ((with_reducible (refine mif_true ?_; refine mop_c ?_ ?_)); (focus omega); (with_reducible (refine mop_c trivial ?_; refine mop_c ?_ ?_)); (focus omega))
    obtain ⟨m, hm⟩ : ∃ m, (i + j) / 2 = m := ⟨_, rfl⟩
    rw [show ((i : Int) + (j : Int)) % 18446744073709551616 / 2 ^ Int.toNat 1 = (m : Int) by show _ / 2 = _; omega]
    have hml : m < l.length := by omega
    ((with_reducible (refine mop_c ?_ ?_)); (focus omega); (with_reducible refine mm_ixs ‹_› ?_ ?_ ?_); (focus (simp only [List.length_map]; omega)); (focus (simp only [List.length_map]; first | done | omega)); (with_reducible (intro _ _ hA)); (cases hA); (with_reducible refine mm_lds0 hM ‹_› (map_atI ?_) ?_); (focus omega); (with_reducible (refine mm_purC hM ?_ ?_)); (focus (first | exact trivial | assumption | omega)); (with_reducible (clear hM; intro _ hM)))
    by_cases hc : l[m] < x
    · rw [decide_eq_true hc]
      ((with_reducible (refine mif_true ?_; refine mop_c ?_ ?_)); (focus omega))
      refine ⟨⟨m + 1, j, rfl, rfl, by omega, hj, fun k hk hkm => ?_, hhi, hM⟩, by simp only; omega⟩
      rcases Nat.lt_or_ge k m with h | h
      · have := List.pairwise_iff_getElem.1 hs k m hk hml h
        omega
      · obtain rfl : k = m := by omega
        exact hc
    · rw [decide_eq_false hc]
      ((with_reducible (refine mif_false ?_)))
      refine ⟨⟨i, m, rfl, rfl, by omega, by omega, hlo, fun k hk hkm => ?_, hM⟩, by simp only; omega⟩
      rcases Nat.lt_or_ge m k with h | h
      · have := List.pairwise_iff_getElem.1 hs m k hml hk h
        omega
      · obtain rfl : k = m := by omega
        omega
  · intro hge
    obtain rfl : i = j := by omega
    have hb : bs' l x = i := by
      unfold bs'
      by_cases h : i < l.length
      · exact findIdx_at h (fun k hk hki => by have := hlo k hk hki; simp only [decide_eq_false_iff_not]; omega) (by simpa using hhi i h (Nat.le_refl _))
      · rw [findIdx_none fun k hk => by have := hlo k hk (by omega); simp only [decide_eq_false_iff_not]; omega]
        omega
    rw [hb]
    ((with_reducible (refine mif_false ?_)))
    ((with_reducible (refine mop_cS trivial ?_ ?_)))
    · intro hlt
      have hlt' : i < l.length := by omega
      ((with_reducible (refine mguard_yes ?_; refine mop_c trivial ?_; refine mguard_yes ?_; refine mop_c trivial ?_; refine mguard_yes ?_)); (with_reducible refine mm_ixs ‹_› ?_ ?_ ?_); (focus (simp only [List.length_map]; omega)); (focus (simp only [List.length_map]; first | done | omega)); (with_reducible (intro _ _ hA)); (cases hA); (with_reducible (refine mguard_yes ?_)); (with_reducible refine mm_lds0 hM ‹_› (map_atI ?_) ?_); (focus omega); (with_reducible (refine mguard_yes ?_; refine mop_c trivial ?_; refine mguard_yes ?_)))
      ((with_reducible (refine mop_cS trivial ?_ ?_)))
      all_goals
        intro h
        (first | ((with_reducible (refine mguard_yes ?_; refine mop_c trivial ?_; refine mguard_yes ?_; refine mop_c trivial ?_; refine mguard_yes ?_; refine mop_c trivial ?_; refine mguard_yes ?_)); (with_reducible refine mm_ixs ‹_› ?_ ?_ ?_); (focus (simp only [List.length_map]; omega)); (focus (simp only [List.length_map]; first | done | omega)); (with_reducible (intro _ _ hA)); (cases hA); (with_reducible (refine mguard_yes ?_)); (with_reducible refine mm_lds0 hM ‹_› (map_atI ?_) ?_); (focus omega); (with_reducible (refine mguard_yes ?_; refine mm_purC hM ?_ ?_)); (focus (first | exact trivial | assumption | omega)); (with_reducible (clear hM; intro _ hM; refine mguard_yes ?_; refine mop_c trivial ?_; refine mguard_n2 ?_; refine mguard_n2 ?_; refine mguard_yes ?_; refine mop_c trivial ?_; refine mguard_yes ?_; refine mop_c trivial ?_; refine mop_c trivial ?_))) | ((with_reducible (refine mguard_yes ?_; refine mop_c trivial ?_; (iterate 6 refine mguard_n1 ?_); refine mguard_un ?_; refine mguard_un ?_; refine mguard_n1 ?_; refine mguard_yes ?_; refine mop_c trivial ?_; refine mop_c trivial ?_))))
        exact ⟨⟨_, rfl⟩, hM.st⟩
    · intro hlt
      ((with_reducible ((iterate 7 refine mguard_n2 ?_); (iterate 9 refine mguard_un ?_); refine mguard_n2 ?_; refine mop_c trivial ?_)))
      exact ⟨⟨_, rfl⟩, hM.st⟩
theorem index_ok {a : Nat} (ls : List Lf) (hl : ls.length < 1000000) (h1 : Sl H 97 A (ls.map Lf.fds)) (hf : Fz H w) :
    Calls Tryz.prog 73 #[.slice A ls.length a, lv Lf.zero] w fun en w' => en = .returned (.int .i64 (fix (fun l => decide (l = Lf.zero)) ls)) ∧ St w [] w' := by
  have hM := Mem.start hf
  refine C_slices_Index_api_Leaf_api_Leaf ?_
  unfold F_slices_Index_api_Leaf_api_Leaf
  ((with_reducible (refine mm_box hM ?_; clear hM; intro _ _ hM; refine mop_c trivial ?_)))
  rename_i g1 _
  refine ⟨fun v w' => ∃ i : Nat, v = .int .i64 i ∧ i ≤ ls.length ∧ (∀ j (hj : j < ls.length), j < i → decide (ls[j] = Lf.zero) = false) ∧ hM.now w', fun v _ => match v with | .int _ k => ls.length - k.toNat | _ => 0, ⟨0, rfl, by omega, fun j _ h => by omega, hM⟩, ?_⟩
  rintro v u w3 ⟨i, rfl, hi, hlo, hM⟩
  ((with_reducible (refine mop_cS trivial ?_ ?_)))
  · intro hlt
    have hlt' : i < ls.length := by omega
    ((with_reducible (refine mif_true ?_; refine dm_ld hM ?_)); (with_reducible refine dp_ixs ‹_› ?_ ?_ ?_); (focus (simp only [List.length_map]; omega)); (focus (simp only [List.length_map]; first | done | omega)); (with_reducible (intro _ _ hA)); (cases hA); (with_reducible refine dm_lds0 hM ‹_› (map_atI ?_) ?_); (focus omega))
    ((with_reducible (refine dp_cS trivial ?_ ?_)))
    · intro h
      ((with_reducible (refine mm_end hM ?_; clear hM; intro _ hM; refine mif_true ?_)))
      refine ⟨?_, hM.st⟩
      rw [fix_at hlt' hlo (decide_eq_true ((lf_zero _).2 ⟨h.1.symm, h.2.1.symm, h.2.2.1.symm, h.2.2.2.symm⟩))]
    · intro h
      ((with_reducible (refine mm_end hM ?_; clear hM; intro _ hM; refine mif_false ?_; refine mop_c ?_ ?_)); (focus omega))
      refine ⟨⟨i + 1, rfl, by omega, fun j hj hji => ?_, hM⟩, by simp only; omega⟩
      rcases Nat.lt_or_ge j i with h2 | h2
      · exact hlo j hj h2
      · obtain rfl : j = i := by omega
        refine decide_eq_false fun e => h ?_
        obtain ⟨a1, a2, a3, a4⟩ := (lf_zero _).1 e
        exact ⟨a1.symm, a2.symm, a3.symm, a4.symm⟩
  · intro hge
    ((with_reducible (refine mif_false ?_)))
    refine ⟨?_, hM.st⟩
    rw [fix_none fun j hj => hlo j hj (by omega)]
end
end Go.Proofs.YtopcnkejobomaaaGreat
namespace Go.Proofs.YtopcnkejobomaaaGreat
open Go.RowKit Go.Lib
abbrev Xp := Pn × Option Addr × Nat
abbrev xrow (x : Xp) : List Fd := x.1.row x.2.1 x.2.2
abbrev xres (x : Xp) : Res := rowR 3 1 x.2.1 x.1.loose.length x.2.2 (ints8 x.1.loose)
def allR (X : List Xp) : Res := fun B => Hl (X.map xres) B
def restR (X : List Xp) (j : Nat) : Res := fun B => Hl ((X.take j ++ X.drop (j + 1)).map xres) B
abbrev x0 : Xp := (Pn.zero, none, 0)
section
variable {H : Hp} {w0 w : World} {L : List Res} {X : List Xp} {j : Nat} {A B : Option Addr} {n m a b e sz cap k : Nat} {ps : List (List Fd)}
theorem Mem.all0 (h : Mem H w0 L w) : Mem H w0 (allR [] :: L) w := Mem.fold (R := []) (L := L) h fun _ hb => hb
theorem out_perm (hj : j < X.length) : (X.map xres).Perm (xres X[j] :: (X.take j ++ X.drop (j + 1)).map xres) := by
  have e : X = X.take j ++ X[j] :: X.drop (j + 1) := by simp
  conv => lhs; rw [e]
  rw [List.map_append, List.map_append, List.map_cons]
  exact List.perm_middle
theorem in_perm (hj : j < X.length) (y : Xp) : ((X.set j y).map xres).Perm (xres y :: (X.take j ++ X.drop (j + 1)).map xres) := by
  rw [List.set_eq_take_append_cons_drop, if_pos hj, List.map_append, List.map_append, List.map_cons]
  exact List.perm_middle
theorem Mem.outk (h : Mem H w0 (allR X :: L) w) (hj : j < X.length) : Mem H w0 (xres X[j] :: restR X j :: L) w := by
  have h1 : Mem H w0 (X.map xres ++ L) w := h.imp (R := X.map xres) fun _ hb => hb
  have h2 := h1.perm ((out_perm hj).append_right L)
  have h3 : Mem H w0 ((X.take j ++ X.drop (j + 1)).map xres ++ (xres X[j] :: L)) w := h2.perm List.perm_middle.symm
  have h4 : Mem H w0 (restR X j :: xres X[j] :: L) w := h3.fold fun _ hb => hb
  exact h4.perm (.swap ..)
theorem Mem.ink {y : Xp} (h : Mem H w0 (xres y :: restR X j :: L) w) (hj : j < X.length) : Mem H w0 (allR (X.set j y) :: L) w := by
  have h1 : Mem H w0 (restR X j :: xres y :: L) w := h.perm (.swap ..)
  have h2 : Mem H w0 ((X.take j ++ X.drop (j + 1)).map xres ++ (xres y :: L)) w := h1.imp fun _ hb => hb
  have h3 : Mem H w0 ((X.set j y).map xres ++ L) w := (h2.perm List.perm_middle).perm ((in_perm hj y).append_right L).symm
  exact h3.fold fun _ hb => hb
theorem Mem.addk {y : Xp} (h : Mem H w0 (allR X :: xres y :: L) w) : Mem H w0 (allR (X ++ [y]) :: L) w := by
  have h1 : Mem H w0 (X.map xres ++ (xres y :: L)) w := h.imp fun _ hb => hb
  have h2 : Mem H w0 ((X ++ [y]).map xres ++ L) w := by
    rw [List.map_append, List.append_assoc]
    exact h1
  exact h2.fold fun _ hb => hb
theorem Mem.unk {x : Xp} (h : Mem H w0 (allR (x :: X) :: L) w) : Mem H w0 (xres x :: allR X :: L) w := by
  have h1 : Mem H w0 (xres x :: (X.map xres ++ L)) w := h.imp (R := xres x :: X.map xres) fun _ hb => hb
  have h2 : Mem H w0 (X.map xres ++ (xres x :: L)) w := h1.perm List.perm_middle.symm
  have h3 : Mem H w0 (allR X :: xres x :: L) w := h2.fold fun _ hb => hb
  exact h3.perm (.swap ..)
theorem Mem.blankk (h : Mem H w0 (allR X :: L) w) (hj : j < X.length) : Mem H w0 (allR (X.set j x0) :: L) w := by
  have h1 := (h.outk hj).drop
  have h2 : Mem H w0 (xres x0 :: restR X j :: L) w := h1.row0 3 1
  exact h2.ink hj
theorem Mem.dropk : ∀ {X : List Xp} {L : List Res} (k : Nat), Mem H w0 (allR X :: L) w → Mem H w0 (allR (X.take k) :: L) w
  | X, L, 0, h => by
    rw [List.take_zero]
    exact h.drop.all0
  | [], L, k + 1, h => by simpa using h
  | x :: X, L, k + 1, h => by
    have h1 : Mem H w0 (allR X :: xres x :: L) w := h.unk.perm (.swap ..)
    have h2 := Mem.dropk k h1
    have h3 : Mem H w0 ((X.take k).map xres ++ (xres x :: L)) w := h2.imp fun _ hb => hb
    have h4 : Mem H w0 (((x :: X).take (k + 1)).map xres ++ L) w := h3.perm List.perm_middle
    exact h4.fold fun _ hb => hb
theorem Mem.frzX : ∀ {X : List Xp} {L : List Res} {H : Hp}, Mem H w0 (allR X :: L) w → ∃ H', Le w0 H H' ∧ Mem H' w0 L w ∧ ∀ x ∈ X, Sl H' 1 x.2.1 (ints8 x.1.loose)
  | [], L, H, h => ⟨H, Le.refl _ _, h.drop, fun _ h => by cases h⟩
  | x :: X, L, H, h => by
    obtain ⟨H1, l1, h1, s1, -⟩ := h.unk.fz0
    obtain ⟨H2, l2, h2, s2⟩ := Mem.frzX h1
    refine ⟨H2, l1.trans l2, h2, fun y hy => ?_⟩
    rcases List.mem_cons.1 hy with rfl | hy
    · exact s1.mono l2.le
    · exact s2 y hy
theorem all2_rows {H : Hp} : ∀ {X : List Xp}, (∀ x ∈ X, Sl H 1 x.2.1 (ints8 x.1.loose) ∧ x.1.loose.length ≤ maxLen) → All2 (PnF H) (X.map xrow) (X.map (·.1))
  | [], _ => trivial
  | x :: X, h => ⟨⟨x.2.1, x.2.2, rfl, h x (List.mem_cons_self ..)⟩, all2_rows fun y hy => h y (List.mem_cons_of_mem _ hy)⟩
theorem Mem.frzT {ls : List Lf} (h : Mem H w0 (rowR 57 97 A ls.length a (ls.map Lf.fds) :: rowR 61 66 B X.length b (X.map xrow) :: allR X :: L) w) (hb : ∀ x ∈ X, x.1.loose.length ≤ maxLen) : ∃ H', Le w0 H H' ∧ Mem H' w0 L w ∧ TrF H' (tv A ls.length a B X.length b) ⟨ls, X.map (·.1)⟩ := by
  obtain ⟨-, k1, k2, -⟩ := h.rowLen ⟨.refl _⟩
  obtain ⟨H1, l1, h, s1, -⟩ := h.fz0
  obtain ⟨-, k3, k4, -⟩ := h.rowLen ⟨.refl _⟩
  obtain ⟨H2, l2, h, s2, -⟩ := h.fz0
  obtain ⟨H3, l3, h, s3⟩ := h.frzX
  refine ⟨H3, (l1.trans l2).trans l3, h, ⟨A, a, B, b, X.map xrow, by simp, s1.mono (l2.trans l3).le, s2.mono l3.le, all2_rows fun x hx => ⟨s3 x hx, hb x hx⟩⟩, by simp only; omega, by simp only [List.length_map]; omega⟩
theorem Mem.short (h : Mem H w0 (rowR e sz A n cap ps :: L) w) (hk : k ≤ n) : Mem H w0 (rowR e sz A k cap (ps.take k) :: L) w := by
  obtain ⟨B, ⟨B1, B2, rfl, ⟨h1, h2, h3⟩, h4⟩, hs', hb⟩ := h.own
  refine ⟨⟨_, ⟨B1, B2, rfl, ⟨h1.take k, by rw [List.length_take]; omega, ?_⟩, h4⟩, hs', hb⟩, h.fz⟩
  rcases h3 with ⟨hA, hn, hc, hB⟩ | ⟨g, sp, hA, hB, h5, h6, h7⟩
  · exact .inl ⟨hA, by omega, hc, hB⟩
  · have e1 : fls ps = fls (ps.take k) ++ fls (ps.drop k) := by rw [← fls_app, List.take_append_drop]
    exact .inr ⟨g, fls (ps.drop k) ++ sp, hA, by rw [hB, e1, List.append_assoc], by rw [← List.append_assoc, ← e1]; exact h5, by omega, h7⟩
theorem le_of {H : Hp} (hf : Fz H w) : H.le (Hp.of w) := fun b c h => by
  obtain ⟨t, fr, e⟩ := hf b c h
  simp [Hp.of, e]
end
theorem rising_len : ∀ {l : List Int} {lo hi : Int}, l.Pairwise (· < ·) → (∀ x ∈ l, lo ≤ x ∧ x < hi) → lo ≤ hi → (l.length : Int) ≤ hi - lo
  | [], lo, hi, _, _, h => by simp; omega
  | x :: r, lo, hi, hp, hb, h => by
    obtain ⟨h1, h2⟩ := List.pairwise_cons.1 hp
    have hx := hb x (List.mem_cons_self ..)
    have := rising_len (lo := lo + 1) (hi := hi) h2 (fun y hy => by have := h1 y hy; have := hb y (List.mem_cons_of_mem _ hy); omega) (by omega)
    simp only [List.length_cons]
    omega
theorem Tr.Rt.loose {t : Tr} (h : t.Rt) : ∀ p ∈ t.ps, p.loose.length ≤ 64 ∧ p.loose.Pairwise (· < ·) := by
  intro p hp
  obtain ⟨i, hi, rfl⟩ := List.getElem_of_mem hp
  obtain ⟨h1, h2⟩ := looseB_spec (parB_spec h.par i hi).2
  have hl := h.len
  have := rising_len (lo := 0) (hi := t.size) h2 (fun x hx => by have := hld_rng (h1 x hx).1; omega) (by unfold Tr.size; omega)
  refine ⟨?_, h2⟩
  unfold Tr.size at this
  omega
end Go.Proofs.YtopcnkejobomaaaGreat
namespace Go.Proofs.YtopcnkejobomaaaGreat
open Go.RowKit Go.Lib
theorem xrow0 : xrow x0 = [.one (.bool false), .arr 32 (u8s hzero.1), .arr 32 (u8s hzero.1), .one (.slice none 0 0)] := rfl
theorem modify_const {α : Type} (l : List α) (k : Nat) (y : α) : l.modify k (fun _ => y) = l.set k y := by
  refine List.ext_getElem (by simp) fun i h1 h2 => ?_
  simp only [List.getElem_modify, List.getElem_set]
theorem onDir_succ {f : Pn → Pn} {D : List Int} {ps : List Pn} {i : Nat} (h : i < D.length) : onDir f (D.take (i + 1)) ps = (onDir f (D.take i) ps).modify (D[i] / 2).toNat f := by
  unfold onDir
  rw [List.take_succ_eq_append_getElem h, List.foldl_append]
  rfl
section
variable {H : Hp} {w0 w : World} {L R : List Res} {A B C : Option Addr} {a b c n : Nat} {t : Tr} {qs ps : List (List Fd)}
theorem cloneL_q {Q : Ending → World → Prop} (hs : Sl (Hp.of w) 97 A ps) (hn : n = ps.length) (hb : n ≤ 100000) (hM : Mem H w0 L w)
    (hQ : ∀ A' a' w', Ext w w' → Mem H w0 (rowR 57 97 A' n a' ps :: L) w' → Q (.returned (.slice A' n a')) w') : Calls Tryz.prog 110 #[.slice A n a] w Q := by
  refine C_slices_Clone_api_Leaf_api_Leaf ?_
  unfold F_slices_Clone_api_Leaf_api_Leaf
  refine clone_gen (P := Tryz.prog) (t := 22) (R := Q) hs hn hM ?_ hQ
  omega
theorem cloneL_ok (hs : Sl (Hp.of w) 97 A ps) (hn : n = ps.length) (hb : n ≤ 100000) (hM : Mem H w0 L w) : Calls Tryz.prog 110 #[.slice A n a] w fun en w' => ∃ v, en = .returned v ∧ Ext w w' ∧ ∃ A' a', v = .slice A' n a' ∧ Mem H w0 (rowR 57 97 A' n a' ps :: L) w' :=
  cloneL_q hs hn hb hM fun A' a' w' hx hM => ⟨_, rfl, hx, _, _, rfl, hM⟩
theorem cloneP_q {Q : Ending → World → Prop} (hs : Sl (Hp.of w) 66 A ps) (hn : n = ps.length) (hb : n ≤ 100000) (hM : Mem H w0 L w)
    (hQ : ∀ A' a' w', Ext w w' → Mem H w0 (rowR 61 66 A' n a' ps :: L) w' → Q (.returned (.slice A' n a')) w') : Calls Tryz.prog 111 #[.slice A n a] w Q := by
  refine C_slices_Clone_api_Parent_api_Parent ?_
  unfold F_slices_Clone_api_Parent_api_Parent
  refine clone_gen (P := Tryz.prog) (t := 23) (R := Q) hs hn hM ?_ hQ
  omega
theorem cloneP_ok (hs : Sl (Hp.of w) 66 A ps) (hn : n = ps.length) (hb : n ≤ 100000) (hM : Mem H w0 L w) : Calls Tryz.prog 111 #[.slice A n a] w fun en w' => ∃ v, en = .returned v ∧ Ext w w' ∧ ∃ A' a', v = .slice A' n a' ∧ Mem H w0 (rowR 61 66 A' n a' ps :: L) w' :=
  cloneP_q hs hn hb hM fun A' a' w' hx hM => ⟨_, rfl, hx, _, _, rfl, hM⟩
theorem cloneI_q {Q : Ending → World → Prop} (hs : Sl (Hp.of w) 1 A ps) (hn : n = ps.length) (hb : n ≤ 100000) (hM : Mem H w0 L w)
    (hQ : ∀ A' a' w', Ext w w' → Mem H w0 (rowR 3 1 A' n a' ps :: L) w' → Q (.returned (.slice A' n a')) w') : Calls Tryz.prog 112 #[.slice A n a] w Q := by
  refine C_slices_Clone_int_int ?_
  unfold F_slices_Clone_int_int
  refine clone_gen (P := Tryz.prog) (t := 29) (R := Q) hs hn hM ?_ hQ
  omega
theorem cloneI_ok (hs : Sl (Hp.of w) 1 A ps) (hn : n = ps.length) (hb : n ≤ 100000) (hM : Mem H w0 L w) : Calls Tryz.prog 112 #[.slice A n a] w fun en w' => ∃ v, en = .returned v ∧ Ext w w' ∧ ∃ A' a', v = .slice A' n a' ∧ Mem H w0 (rowR 3 1 A' n a' ps :: L) w' :=
  cloneI_q hs hn hb hM fun A' a' w' hx hM => ⟨_, rfl, hx, _, _, rfl, hM⟩
theorem clone_ok (h1 : Sl H 97 A (t.ls.map Lf.fds)) (h2 : Sl H 66 B qs) (h3 : All2 (PnF H) qs t.ps) (hl : t.ls.length ≤ 1000) (hp : t.ps.length ≤ 1000) (hlo : ∀ p ∈ t.ps, p.loose.length ≤ 1000) (hM : Mem H w0 L w) :
    Calls Tryz.prog 72 #[tv A t.ls.length a B t.ps.length b] w fun en w' => ∃ v, en = .returned v ∧ ∃ A' a' B' b' X, v = tv A' t.ls.length a' B' t.ps.length b' ∧ X.map (·.1) = t.ps ∧
      Mem H w0 (rowR 57 97 A' t.ls.length a' (t.ls.map Lf.fds) :: rowR 61 66 B' t.ps.length b' (X.map xrow) :: allR X :: L) w' := by
  have hq : qs.length = t.ps.length := h3.len
  refine C_tree_clone ?_
  unfold F_tree_clone
  ((with_reducible (refine mm_box hM ?_; clear hM; intro _ _ hM; refine mm_new hM ?_; clear hM; intro _ _ hM)))
  rename_i g1 _ g2 _
  refine ⟨fun v w' => ∃ g3 A' a' B' b', v = .pointer (some ⟨g3, 0, none⟩) ∧ Mem H w0 (fb g3 25 (tfd A' t.ls.length a' B' t.ps.length b') :: fb g2 25 (tfd none 0 0 none 0 0) :: rowR 57 97 A' t.ls.length a' (t.ls.map Lf.fds) :: rowR 61 66 B' t.ps.length b' qs :: L) w', ⟨?_, ?_, ?_⟩, ?_⟩
  · ((with_reducible (refine dp_c trivial ?_; refine dm_ld hM ?_; refine dp_c trivial ?_; refine dm_ld hM ?_)))
    refine dm_ownE hM (fun w hM => cloneL_ok (h1.mono (le_of hM.fz)) (by simp) (by omega) hM) ?_
    rintro v w' hx ⟨A', a', rfl, hM⟩
    skip
    refine dm_own hM (fun w hM => (cloneP_ok (h2.mono (le_of hM.fz)) hq.symm (by omega) hM).mono fun en w' ⟨v, h, _, k⟩ => ⟨v, h, k⟩) ?_
    rintro v w' ⟨B', b', rfl, hM⟩
    ((with_reducible (refine dp_c trivial ?_; refine dm_new hM ?_; clear hM; intro _ _ hM; refine dS_st hM ?_; clear hM; intro _ hM; refine mm_end hM ?_; clear hM; intro _ hM)))
    exact ⟨_, A', a', B', b', rfl, hM.sub⟩
  · ((with_reducible (refine dp_c trivial ?_; refine dm_ld hM ?_; refine dp_c trivial ?_; refine dm_ld hM ?_)))
    refine dm_ownE hM (fun w hM => cloneL_ok (h1.mono (le_of hM.fz)) (by simp) (by omega) hM) ?_
    rintro v w' hx ⟨A', a', rfl, hM⟩
    ((with_reducible (refine dm_new hM ?_; clear hM; intro _ _ hM)))
    refine dm_own hM (fun w hM => (cloneP_ok (h2.mono (le_of hM.fz)) hq.symm (by omega) hM).mono fun en w' ⟨v, h, _, k⟩ => ⟨v, h, k⟩) ?_
    rintro v w' ⟨B', b', rfl, hM⟩
    ((with_reducible (refine dp_c trivial ?_; refine dS_st hM ?_; clear hM; intro _ hM; refine mm_end hM ?_; clear hM; intro _ hM)))
    exact ⟨_, A', a', B', b', rfl, hM.sub⟩
  · ((with_reducible (refine dp_c trivial ?_; refine dm_ld hM ?_; refine dp_c trivial ?_; refine dm_ld hM ?_; refine dm_new hM ?_; clear hM; intro _ _ hM)))
    refine dm_ownE hM (fun w hM => cloneL_ok (h1.mono (le_of hM.fz)) (by simp) (by omega) hM) ?_
    rintro v w' hx ⟨A', a', rfl, hM⟩
    skip
    refine dm_own hM (fun w hM => (cloneP_ok (h2.mono (le_of hM.fz)) hq.symm (by omega) hM).mono fun en w' ⟨v, h, _, k⟩ => ⟨v, h, k⟩) ?_
    rintro v w' ⟨B', b', rfl, hM⟩
    ((with_reducible (refine dp_c trivial ?_; refine dS_st hM ?_; clear hM; intro _ hM; refine mm_end hM ?_; clear hM; intro _ hM)))
    exact ⟨_, A', a', B', b', rfl, hM.sub⟩
  clear hM
  rintro v u2 w2 ⟨g3, A', a', B', b', rfl, hM⟩
  ((with_reducible (refine mop_c trivial ?_; refine mm_ld hM ?_; refine mop_c trivial ?_)))
  have hM0 : Mem H w0 (fb g3 25 (tfd A' t.ls.length a' B' t.ps.length b') :: fb g2 25 (tfd none 0 0 none 0 0) :: rowR 57 97 A' t.ls.length a' (t.ls.map Lf.fds) :: rowR 61 66 B' t.ps.length b' qs :: allR [] :: L) _ := hM.all0.same
  refine ⟨fun v w' => ∃ (i : Nat) (X : List Xp), v = .int .i64 i ∧ i ≤ t.ps.length ∧ X.map (·.1) = t.ps.take i ∧ Mem H w0 (fb g3 25 (tfd A' t.ls.length a' B' t.ps.length b') :: fb g2 25 (tfd none 0 0 none 0 0) :: rowR 57 97 A' t.ls.length a' (t.ls.map Lf.fds) :: rowR 61 66 B' t.ps.length b' (X.map xrow ++ qs.drop i) :: allR X :: L) w', fun v _ => match v with | .int _ k => t.ps.length - k.toNat | _ => 0, ⟨0, [], rfl, by omega, rfl, hM0⟩, ?_⟩
  clear hM hM0
  rintro v u3 w3 ⟨i, X, rfl, hi, hX, hM⟩
  have hXl : X.length = i := by
    have := congrArg List.length hX
    simp at this
    omega
  ((with_reducible (refine mop_cS trivial ?_ ?_)))
  · intro hlt
    have hlt' : i < t.ps.length := by omega
    obtain ⟨q, hq1, C, c, rfl, hC, hcl⟩ := h3.at_ (i := i) hlt'
    obtain ⟨p, hpe⟩ : ∃ p, t.ps[i] = p := ⟨_, rfl⟩
    have hpl := hlo p (hpe ▸ List.getElem_mem _)
    rw [hpe] at hq1 hC
    have hrow : (X.map xrow ++ qs.drop i)[(i : Int).toNat]? = some (p.row C c) := by
      rw [Int.toNat_natCast, List.getElem?_append_right (by simp; omega)]
      simp [hXl, hq1]
    ((with_reducible (refine mif_true ?_; refine dp_c trivial ?_; refine dm_ld hM ?_; refine dp_c trivial ?_; refine dm_ld hM ?_; refine dp_ixr hM ?_ ?_)); (focus omega); (with_reducible (intro _ hA)); (cases hA); (with_reducible (refine dp_c trivial ?_)))
    refine dm_ldr hM hrow ?_
    refine dm_ownE hM (fun w hM => cloneI_ok (hC.mono (le_of hM.fz)) (by simp) (by omega) hM) ?_
    rintro v w' hx ⟨C', c', rfl, hM⟩
    ((with_reducible (refine dp_ixr hM ?_ ?_)); (focus omega); (with_reducible (intro _ hA)); (cases hA); (with_reducible (refine dp_c trivial ?_)))
    refine dm_stf hM hrow (fun w' hM => ?_)
    ((with_reducible (refine mm_end hM ?_; clear hM; intro _ hM; refine mop_c ?_ ?_)); (focus omega))
    rename_i g5 _ _ _ _
    have hset : (X.map xrow ++ qs.drop i).set (i : Int).toNat (p.row C' c') = (X ++ [(p, C', c')]).map xrow ++ qs.drop (i + 1) := by
      rw [Int.toNat_natCast, List.set_append_right _ _ (by simp; omega)]
      simp only [List.length_map, hXl, Nat.sub_self, List.map_append, List.append_assoc]
      rw [List.drop_eq_getElem_cons (by omega)]
      rfl
    have hM2 : Mem H w0 (rowR 61 66 (some ⟨g5, 0, none⟩) t.ps.length b' ((X ++ [(p, C', c')]).map xrow ++ qs.drop (i + 1)) :: _) _ := hset ▸ hM
    have hM : Mem H w0 (allR X :: xres (p, C', c') :: fb g3 25 (tfd A' t.ls.length a' (some ⟨g5, 0, none⟩) t.ps.length b') :: fb g2 25 (tfd none 0 0 none 0 0) :: rowR 57 97 A' t.ls.length a' (t.ls.map Lf.fds) :: rowR 61 66 (some ⟨g5, 0, none⟩) t.ps.length b' ((X ++ [(p, C', c')]).map xrow ++ qs.drop (i + 1)) :: L) _ := hM2.sub
    refine ⟨⟨i + 1, X ++ [(p, C', c')], rfl, by omega, ?_, hM.addk.same⟩, by simp only; omega⟩
    rw [List.map_append, hX, List.take_succ_eq_append_getElem hlt', hpe]
    rfl
  · intro hge
    obtain rfl : i = t.ps.length := by omega
    rw [List.take_length] at hX
    rw [List.drop_eq_nil_of_le (by omega), List.append_nil] at hM
    ((with_reducible (refine mif_false ?_; refine mm_ld hM ?_; refine mm_st hM ?_; clear hM; intro _ hM; refine rm_ld hM ?_)))
    exact ⟨_, rfl, _, _, _, _, _, rfl, hX, hM.sub⟩
theorem none_ok (p : Int) (h1 : Sl H 97 A (t.ls.map Lf.fds)) (hl : t.ls.length ≤ maxLen) (hf : Fz H w) : Calls Tryz.prog 77 #[tv A t.ls.length a B n b, .int .i64 p] w fun en w' => en = .returned (.bool (decide (t.nobody p))) ∧ St w [] w' := by
  have hM := Mem.start hf
  have hl' : t.ls.length ≤ 9223372036854775807 := hl
  refine C_tree_none ?_
  unfold F_tree_none
  ((with_reducible (refine mm_box hM ?_; clear hM; intro _ _ hM)))
  ((with_reducible (refine mop_cS trivial ?_ ?_)))
  · intro h
    ((with_reducible ((iterate 5 refine mguard_n1 ?_); refine mop_c trivial ?_; (iterate 7 refine mguard_n1 ?_); refine mop_c trivial ?_)))
    exact ⟨by rw [decide_eq_true (show t.nobody p from .inl (.inl h))], hM.st⟩
  · intro h
    ((with_reducible (refine mguard_yes ?_; refine mop_c trivial ?_; refine mguard_yes ?_; refine mop_c trivial ?_; refine mguard_yes ?_; refine mm_ld hM ?_; refine mguard_yes ?_; refine mop_c trivial ?_; refine mguard_yes ?_)))
    ((with_reducible (refine mop_cS trivial ?_ ?_)))
    · intro h2
      ((with_reducible (refine mop_c trivial ?_; (iterate 7 refine mguard_n1 ?_); refine mop_c trivial ?_)))
      exact ⟨by rw [decide_eq_true (show t.nobody p from .inl (.inr h2))], hM.st⟩
    · intro h2
      have h3 : p.toNat < t.ls.length := by omega
      have h4 := nameAt_at (ls := t.ls) (p := p) (by omega) h3
      ((with_reducible (refine mop_c trivial ?_; refine mguard_yes ?_; refine mop_c trivial ?_; refine mguard_yes ?_; refine mm_ld hM ?_; refine mguard_yes ?_; refine mop_c trivial ?_; refine mguard_yes ?_)); (with_reducible refine mm_ixs ‹_› ?_ ?_ ?_); (focus (simp only [List.length_map]; omega)); (focus (simp only [List.length_map]; first | done | omega)); (with_reducible (intro _ _ hA)); (cases hA); (with_reducible (refine mguard_yes ?_; refine mop_c trivial ?_; refine mguard_yes ?_)); (with_reducible refine mm_lds hM ‹_› (map_at ?_) ?_); (focus omega); (with_reducible (refine mguard_yes ?_)))
      rw [← h4]
      ((with_reducible (refine mop_cS trivial ?_ ?_)))
      · intro h5
        ((with_reducible (refine mop_c trivial ?_)))
        exact ⟨by rw [decide_eq_true (show t.nobody p from .inr h5)], hM.st⟩
      · intro h5
        ((with_reducible (refine mop_c trivial ?_)))
        exact ⟨by rw [decide_eq_false (show ¬ t.nobody p from fun k => k.elim (fun k => k.elim h h2) h5)], hM.st⟩
theorem sound_ok (h1 : Sl H 97 A (t.ls.map Lf.fds)) (h2 : Sl H 66 B qs) (h3 : All2 (PnF H) qs t.ps) (hl : t.ls.length ≤ maxLen) (hp : t.ps.length ≤ maxLen) (hf : Fz H w) :
    Calls Tryz.prog 34 #[tv A t.ls.length a B t.ps.length b] w fun en w' => en = .returned (if t.right = true then tv A t.ls.length a B t.ps.length b else tv none 0 0 none 0 0) ∧ St w [] w' := by
  have hM := Mem.start hf
  refine C_tree_sound ?_
  unfold F_tree_sound
  ((with_reducible (refine mm_box hM ?_; clear hM; intro _ _ hM; refine mm_new hM ?_; clear hM; intro _ _ hM; refine mm_ld hM ?_)))
  refine mm_pure hM (right_ok h1 h2 h3 hl hp hM.fz) (fun w hM => ?_)
  cases hr : t.right
  · ((with_reducible (refine mif_false ?_; refine mop_c trivial ?_; refine mm_st hM ?_; clear hM; intro _ hM; refine rm_ld hM ?_)))
    exact ⟨rfl, hM.st⟩
  · ((with_reducible (refine mif_true ?_; refine mm_ld hM ?_; refine mm_st hM ?_; clear hM; intro _ hM; refine rm_ld hM ?_)))
    exact ⟨rfl, hM.st⟩
theorem place1_ok (g : Nat) (x : Int) (y : Lf) (hM : Mem H w0 (fb g 3 [.one (.int .i64 x)] :: R) w) :
    Calls Tryz.prog 35 #[lv y, .pointer (some ⟨g, 0, none⟩)] w fun e w' => ∃ v, e = .returned v ∧ v = .bool (decide (y.name = x)) ∧ Mem H w0 (fb g 3 [.one (.int .i64 x)] :: R) w' := by
  refine C_tree_Place_1 ?_
  unfold F_tree_Place_1
  ((with_reducible (refine mm_box hM ?_; clear hM; intro _ _ hM; refine mop_c trivial ?_; refine mm_ld hM ?_; refine mm_ld hM ?_)))
  ((with_reducible (refine mop_cS trivial ?_ ?_)))
  all_goals
    intro hi
    skip
    exact ⟨_, rfl, by simp [hi], hM.drop⟩
theorem clo_place (g : Nat) (x : Int) : Clo Tryz.prog H w0 (fb g 3 [.one (.int .i64 x)]) (.func (.func 35) #[] #[.pointer (some ⟨g, 0, none⟩)]) lv (fun y : Lf => decide (y.name = x)) := fun y R w K X hM hk =>
  mop_callv (place1_ok g x y hM) (by rintro e w' ⟨v, rfl, rfl, h⟩; exact hk w' h)
theorem ixf_ok {r : Res} {cl : Value} {f : Lf → Bool} (ls : List Lf) (hl : ls.length < 1000000) (hc : Clo Tryz.prog H w0 r cl lv f) (hs : Sl H 97 A (ls.map Lf.fds)) (hM : Mem H w0 (r :: R) w) :
    Calls Tryz.prog 33 #[.slice A ls.length a, cl] w fun en w' => ∃ v, en = .returned v ∧ v = .int .i64 (fix f ls) ∧ Mem H w0 (r :: R) w' := by
  refine C_slices_IndexFunc_api_Leaf_api_Leaf ?_
  unfold F_slices_IndexFunc_api_Leaf_api_Leaf
  ((with_reducible (refine mop_c trivial ?_)))
  refine ⟨fun v w' => ∃ i : Nat, v = .int .i64 i ∧ i ≤ ls.length ∧ (∀ j (hj : j < ls.length), j < i → f ls[j] = false) ∧ Mem H w0 (r :: R) w', fun v _ => match v with | .int _ k => ls.length - k.toNat | _ => 0, ⟨0, rfl, by omega, fun j _ h => by omega, hM⟩, ?_⟩
  rintro v u w3 ⟨i, rfl, hi, hlo, hM⟩
  ((with_reducible (refine mop_cS trivial ?_ ?_)))
  · intro hlt
    have hlt' : i < ls.length := by omega
    ((with_reducible (refine mif_true ?_)); (with_reducible refine mm_ixs ‹_› ?_ ?_ ?_); (focus (simp only [List.length_map]; omega)); (focus (simp only [List.length_map]; first | done | omega)); (with_reducible (intro _ _ hA)); (cases hA); (with_reducible refine mm_lds0 hM ‹_› (map_atI ?_) ?_); (focus omega))
    refine hc _ _ _ _ _ hM (fun w hM => ?_)
    cases hfi : f ls[i]
    · ((with_reducible (refine mif_false ?_; refine mop_c ?_ ?_)); (focus omega))
      refine ⟨⟨i + 1, rfl, by omega, fun j hj hji => ?_, hM⟩, by simp only; omega⟩
      rcases Nat.lt_or_ge j i with h2 | h2
      · exact hlo j hj h2
      · obtain rfl : j = i := by omega
        exact hfi
    · ((with_reducible (refine mif_true ?_)))
      exact ⟨_, rfl, by rw [fix_at hlt' hlo hfi], hM⟩
  · intro hge
    ((with_reducible (refine mif_false ?_)))
    exact ⟨_, rfl, by rw [fix_none fun j hj => hlo j hj (by omega)], hM⟩
theorem place_ok (x : Int) (h1 : Sl H 97 A (t.ls.map Lf.fds)) (h2 : Sl H 66 B qs) (h3 : All2 (PnF H) qs t.ps) (hl : t.ls.length ≤ maxLen) (hp : t.ps.length ≤ maxLen) (hf : Fz H w) :
    Calls Tryz.prog 9 #[tv A t.ls.length a B t.ps.length b, .int .i64 x] w fun en w' => en = .returned (.int .i64 (t.sound.place x)) ∧ St w [] w' := by
  have hM := Mem.start hf
  refine C_tree_Place ?_
  unfold F_tree_Place
  ((with_reducible (refine mm_box hM ?_; clear hM; intro _ _ hM; refine mm_box hM ?_; clear hM; intro _ _ hM; refine mm_ld hM ?_)))
  rename_i g1 _ g2 _
  ((with_reducible (refine mop_cS trivial ?_ ?_)))
  · intro h
    ((with_reducible (refine mif_true ?_)))
    exact ⟨by rw [show t.sound.place x = -1 from if_pos h], hM.st⟩
  · intro h
    ((with_reducible (refine mif_false ?_; refine mm_ld hM ?_)))
    have hpl : t.sound.place x = fix (fun l => decide (l.name = x)) t.sound.ls := if_neg h
    rw [hpl]
    refine mm_pure hM (sound_ok h1 h2 h3 hl hp hM.fz) (fun w hM => ?_)
    have hM := hM.at_ (fb g2 3 [.one (.int .i64 x)])
    unfold Tr.sound
    cases hr : t.right
    · rw [if_neg (by simp), if_neg (by simp)]
      ((with_reducible (refine mop_c trivial ?_; refine mop_c trivial ?_)))
      refine mm_own (ixf_ok (A := none) [] (by simp) (clo_place g2 x) (Sl.nil _ _ _) hM) ?_
      rintro v w' ⟨rfl, hM⟩
      exact ⟨rfl, hM.st⟩
    · rw [if_pos rfl, if_pos rfl]
      ((with_reducible (refine mop_c trivial ?_; refine mop_c trivial ?_)))
      have := (Tr.rt.1 hr).len
      refine mm_own (ixf_ok t.ls (by omega) (clo_place g2 x) h1 hM) ?_
      rintro v w' ⟨rfl, hM⟩
      exact ⟨rfl, hM.st⟩
theorem blank_ok {X : List Xp} {ls : List Lf} {p : Int} (hp : 0 ≤ p ∧ p < ls.length ∧ ls.length ≤ 64) (hX : X.length + 1 = ls.length)
    (hM : Mem H w0 (rowR 57 97 A ls.length a (ls.map Lf.fds) :: rowR 61 66 B X.length b (X.map xrow) :: allR X :: L) w) :
    Calls Tryz.prog 78 #[tv A ls.length a B X.length b, .int .i64 p] w fun en w' => ∃ v, en = .returned v ∧ ∃ H' X', v = .tuple #[] ∧ X'.map (·.1) = blankP ls.length p (X.map (·.1)) ∧ X'.length = X.length ∧ Le w0 H H' ∧
      Mem H' w0 (rowR 57 97 A ls.length a (ls.map Lf.fds) :: rowR 61 66 B X.length b (X'.map xrow) :: allR X' :: L) w' := by
  refine C_tree_blank ?_
  unfold F_tree_blank
  ((with_reducible (refine mm_box hM ?_; clear hM; intro _ _ hM; refine mop_c trivial ?_; refine mm_ld hM ?_; refine mop_c trivial ?_)))
  rename_i g1 _
  refine mm_call hM (bdirect_ok ls.length p (by omega) hM.fz) ?_
  rintro H1 v w1 l1 hM ⟨D, c, rfl, hD⟩
  have hdl := dirL_len ls.length p
  have hdm := fun x hx => dir_mem (n := ls.length) (l := p) (x := x) (by omega) hx
  generalize hDL : dirL ls.length p = DL at *
  ((with_reducible (refine mop_c trivial ?_)))
  refine ⟨fun v w' => ∃ (i : Nat) (Y : List Xp), v = .int .i64 i ∧ i ≤ DL.length ∧ Y.map (·.1) = onDir (fun _ => Pn.zero) (DL.take i) (X.map (·.1)) ∧ Y.length = X.length ∧ Mem H1 w0 (fb g1 25 (tfd A ls.length a B X.length b) :: rowR 57 97 A ls.length a (ls.map Lf.fds) :: rowR 61 66 B X.length b (Y.map xrow) :: allR Y :: L) w', fun v _ => match v with | .int _ k => DL.length - k.toNat | _ => 0, ⟨0, X, rfl, by omega, rfl, rfl, hM⟩, ?_⟩
  clear hM
  rintro v u w3 ⟨i, Y, rfl, hi, hY, hYl, hM⟩
  ((with_reducible (refine mop_cS trivial ?_ ?_)))
  · intro hlt
    have hlt' : i < DL.length := by omega
    obtain ⟨x, hx⟩ : ∃ x, DL[i] = x := ⟨_, rfl⟩
    have hxm := hdm x (hx ▸ List.getElem_mem _)
    ((with_reducible (refine mif_true ?_)); (with_reducible refine mm_ixs ‹_› ?_ ?_ ?_); (focus (simp only [List.length_map]; omega)); (focus (simp only [List.length_map]; first | done | omega)); (with_reducible (intro _ _ hA)); (cases hA); (with_reducible refine mm_lds0 hM ‹_› (map_atI ?_) ?_); (focus omega); (with_reducible (refine mop_c trivial ?_; refine mm_ld hM ?_; refine mop_c ?_ ?_)); (focus omega); (with_reducible (refine mop_c trivial ?_; refine mm_ixr hM ?_ ?_)); (focus omega); (with_reducible (intro _ hA)); (cases hA); (with_reducible (refine mm_str hM ?_ ?_)); (focus omega); (with_reducible (clear hM; intro _ hM; refine mop_c ?_ ?_)); (focus omega))
    have hk : (x / 2).toNat < Y.length := by omega
    rw [← xrow0, hx, ← List.map_set] at hM
    have hM := (hM.at_ (allR Y)).blankk hk
    refine ⟨⟨i + 1, Y.set (x / 2).toNat x0, rfl, by omega, ?_, by simpa using hYl, hM.same⟩, by simp only; omega⟩
    rw [List.map_set, hY, onDir_succ hlt', hx, modify_const]
  · intro hge
    ((with_reducible (refine mif_false ?_)))
    refine ⟨_, rfl, H1, Y, rfl, ?_, hYl, l1, hM.sub⟩
    rw [hY, List.take_of_length_le (by omega)]
    unfold blankP
    rw [hDL]
end
end Go.Proofs.YtopcnkejobomaaaGreat
namespace Go.Proofs.YtopcnkejobomaaaGreat
open Go.RowKit Go.Lib
theorem trF_none (H : Hp) : TrF H (tv none 0 0 none 0 0) Tr.none := ⟨⟨none, 0, none, 0, [], rfl, Sl.nil _ _ _, Sl.nil _ _ _, trivial⟩, by simp [Tr.none, maxLen]⟩
def gapL (t : Tr) : List Lf := if t.gap = t.ls.length then t.ls ++ [Lf.zero] else t.ls
theorem gapL_set (t : Tr) (l : Lf) : (gapL t).set t.gap l = addL t l := by
  unfold gapL addL
  by_cases h : t.gap = t.ls.length
  · rw [if_pos h, if_pos h, h]
    simp
  · rw [if_neg h, if_neg h]
theorem gapL_len (t : Tr) (l : Lf) : (gapL t).length = (addL t l).length := by
  rw [← gapL_set t l, List.length_set]
theorem onDir_get {f : Pn → Pn} {D : List Int} {ps : List Pn} {k : Nat} (hn : D.Nodup) (hD : ∀ x ∈ D, x = 2 * (x / 2) + 1 ∧ 0 ≤ x / 2) (hk : 2 * (k : Int) + 1 ∉ D) : (onDir f D ps)[k]? = ps[k]? := by
  rw [onDir_eq hn hD, List.getElem?_mapIdx]
  simp only [if_neg hk]
  cases ps[k]? <;> rfl
theorem Tr.Rt.addPs_loose {t : Tr} (h : t.Rt) : ∀ p ∈ addPs t, p.loose.length ≤ 64 ∧ p.loose.Pairwise (· < ·) := by
  intro p hp
  unfold addPs at hp
  split at hp
  · rcases List.mem_append.1 hp with hp | hp
    · exact h.loose p hp
    · rw [List.mem_singleton.1 hp]
      exact ⟨by simp [Pn.zero], .nil⟩
  · exact h.loose p hp
theorem ins_len (l : List Int) (x : Int) : (ins l x).length = l.length + 1 := by
  have : bs' l x ≤ l.length := List.findIdx_le_length
  unfold ins
  simp
  omega
section
variable {H : Hp} {w0 w : World} {L R : List Res} {A B C : Option Addr} {a b c n : Nat} {t : Tr} {qs ps : List (List Fd)}
theorem add_q {Q : Hp → Value → Prop} (l : Lf) (hq : ∀ H' v1 r, t.addP l = r → TrF H' v1 r.1 → Q H' (.tuple #[v1, .int .i64 r.2.1, .int .i64 r.2.2])) (h1 : Sl H 97 A (t.ls.map Lf.fds)) (h2 : Sl H 66 B qs) (h3 : All2 (PnF H) qs t.ps) (hl : t.ls.length ≤ maxLen) (hp : t.ps.length ≤ maxLen) (hf : Fz H w) :
    Calls Tryz.prog 28 #[tv A t.ls.length a B t.ps.length b, lv l] w (Outp H w Q) := by
  obtain ⟨w1, hw1⟩ : ∃ w1, w1 = w := ⟨_, rfl⟩
  rw [← hw1]
  rw [← hw1] at hf
  have hM := Mem.start hf
  refine C_tree_Add ?_
  unfold F_tree_Add
  ((with_reducible (refine mm_box hM ?_; clear hM; intro _ _ hM; refine mm_box hM ?_; clear hM; intro _ _ hM; refine mm_new hM ?_; clear hM; intro _ _ hM)))
  rename_i g1 _ g2 _ g3 _
  refine ⟨fun v w' => v = .bool (decide (¬ t.right = true ∨ l.name < 1 ∨ 64 < l.name)) ∧ hM.now w', ?_, ?_⟩
  · ((with_reducible (refine mm_ld hM ?_)))
    refine mm_pure hM (right_ok h1 h2 h3 hl hp hM.fz) (fun w hM => ?_)
    ((with_reducible (refine mop_c trivial ?_)))
    cases hr : t.right
    · rw [Bool.not_false]
      ((with_reducible ((iterate 3 refine mguard_n1 ?_); refine mop_c trivial ?_; (iterate 3 refine mguard_n1 ?_); refine mop_c trivial ?_)))
      exact ⟨by simp, hM.sub⟩
    · rw [Bool.not_true]
      ((with_reducible (refine mguard_yes ?_; refine mop_c trivial ?_; refine mguard_yes ?_; refine mm_ld hM ?_; refine mguard_yes ?_)))
      ((with_reducible (refine mop_cS trivial ?_ ?_)))
      · intro h
        ((with_reducible (refine mop_c trivial ?_; (iterate 3 refine mguard_n1 ?_); refine mop_c trivial ?_)))
        exact ⟨by rw [decide_eq_true (.inr (.inl h))], hM.sub⟩
      · intro h
        ((with_reducible (refine mop_c trivial ?_; refine mguard_yes ?_; refine mop_c trivial ?_; refine mguard_yes ?_; refine mm_ld hM ?_; refine mguard_yes ?_)))
        ((with_reducible (refine mop_cS trivial ?_ ?_)))
        · intro h4
          ((with_reducible (refine mop_c trivial ?_)))
          exact ⟨by rw [decide_eq_true (.inr (.inr h4))], hM.sub⟩
        · intro h4
          ((with_reducible (refine mop_c trivial ?_)))
          exact ⟨by rw [decide_eq_false (fun hh => hh.elim (fun k => k rfl) (fun k => k.elim h h4))], hM.sub⟩
  rintro v u2 w2 ⟨rfl, hM⟩
  unfold Tr.addP at hq
  by_cases hc : ¬ t.right = true ∨ l.name < 1 ∨ 64 < l.name
  · rw [if_pos hc] at hq
    rw [decide_eq_true hc]
    ((with_reducible (refine mif_true ?_; refine mop_c trivial ?_; refine mm_st hM ?_; clear hM; intro _ hM; refine rm_ld hM ?_)))
    exact hM.out (Le.refl _ _) (hq _ _ _ rfl (trF_none H))
  rw [if_neg hc] at hq
  rw [decide_eq_false hc]
  have hr : t.right = true := Decidable.byContradiction fun h => hc (.inl h)
  have hR := Tr.rt.1 hr
  have hlen := hR.len
  have hs : t.sound = t := if_pos hr
  ((with_reducible (refine mif_false ?_; refine mm_ld hM ?_; refine mop_c trivial ?_; refine mm_ld hM ?_)))
  refine mm_pure hM (place_ok l.name h1 h2 h3 hl hp hM.fz) (fun w hM => ?_)
  rw [hs]
  skip
  ((with_reducible (refine mop_cS trivial ?_ ?_)))
  · intro h
    have h' : 0 ≤ t.place l.name := by omega
    rw [if_pos h'] at hq
    ((with_reducible (refine mif_true ?_; refine mop_c trivial ?_; refine mm_st hM ?_; clear hM; intro _ hM; refine rm_ld hM ?_)))
    exact hM.out (Le.refl _ _) (hq _ _ _ rfl (trF_none H))
  intro h
  rw [if_neg (show ¬ 0 ≤ t.place l.name by omega)] at hq
  ((with_reducible (refine mif_false ?_; refine mm_ld hM ?_)))
  refine mm_own (clone_ok h1 h2 h3 (by omega) (by omega) (fun p hp => by have := (hR.loose p hp).1; omega) hM) ?_
  rintro v w' ⟨A', a', B', b', X, rfl, hX, hM⟩
  have hXl : X.length = t.ps.length := by rw [← hX, List.length_map]
  ((with_reducible (refine mm_st hM ?_; clear hM; intro _ hM; refine mop_c trivial ?_; refine mm_ld hM ?_; refine mop_c trivial ?_)))
  refine mm_pure hM (index_ok (H := Hp.of _) t.ls (by omega) (hM.reads (A := A')) (Fz.of _)) (fun w hM => ?_)
  have hgl := t.gap_le
  have hfx : fix (fun l => decide (l = Lf.zero)) t.ls = if t.gap < t.ls.length then (t.gap : Int) else -1 := by
    unfold fix
    rw [hR.gap_eq]
  rw [hfx]
  have hM := hM.at_ (fb g1 25 (tfd A' t.ls.length a' B' t.ps.length b'))
  refine ⟨fun v w' => ¬ (t.gap = t.ls.length ∧ t.gap = 64) ∧ v = .int .i64 t.gap ∧ ∃ A2 a2 B2 b2 m Y, Y.map (·.1) = addPs t ∧ Y.length = m ∧ Mem H w1 [fb g1 25 (tfd A2 (gapL t).length a2 B2 m b2), fb g2 57 l.fds, fb g3 25 (tfd none 0 0 none 0 0), rowR 57 97 A2 (gapL t).length a2 ((gapL t).map Lf.fds), rowR 61 66 B2 m b2 (Y.map xrow), allR Y] w', ?_, ?_⟩
  · by_cases hgap : t.gap < t.ls.length
    · rw [if_pos hgap]
      ((with_reducible (refine mop_cF trivial ?_ ?_)); (focus (first | assumption | omega | with_reducible rfl | exact fun h => Bool.noConfusion h)); (with_reducible (refine mif_false ?_)))
      have e1 : gapL t = t.ls := if_neg (by omega)
      have e2 : addPs t = t.ps := if_neg (by omega)
      rw [e1, e2]
      exact ⟨by omega, rfl, A', a', B', b', t.ps.length, X, hX, hXl, hM.sub⟩
    · rw [if_neg hgap]
      have hge : t.gap = t.ls.length := by omega
      have e1 : gapL t = t.ls ++ [Lf.zero] := if_pos hge
      ((with_reducible (refine mop_cT trivial ?_ ?_)); (focus (first | assumption | omega | with_reducible rfl | exact fun h => Bool.noConfusion h)); (with_reducible (refine mif_true ?_; refine mop_c trivial ?_; refine mm_ld hM ?_; refine mop_c trivial ?_)))
      ((with_reducible (refine mop_cS trivial ?_ ?_)))
      · intro hf
        rw [if_pos (by omega)] at hq
        ((with_reducible (refine mif_true ?_; refine mop_c trivial ?_; refine mm_st hM ?_; clear hM; intro _ hM; refine rm_ld hM ?_)))
        exact hM.out (Le.refl _ _) (hq _ _ _ rfl (trF_none H))
      · intro hnf
        have hnf2 : ¬ (t.gap = t.ls.length ∧ t.gap = 64) := by omega
        ((with_reducible (refine mif_false ?_)))
        refine ⟨fun w' => ∃ B2 b2 m Y, Y.map (·.1) = addPs t ∧ Y.length = m ∧ Mem H w1 [fb g1 25 (tfd A' t.ls.length a' B2 m b2), fb g2 57 l.fds, fb g3 25 (tfd none 0 0 none 0 0), rowR 57 97 A' t.ls.length a' (t.ls.map Lf.fds), rowR 61 66 B2 m b2 (Y.map xrow), allR Y] w', ?_, ?_⟩
        · skip
          ((with_reducible (refine mop_cS trivial ?_ ?_)))
          · intro hpos
            ((with_reducible (refine mif_true ?_; refine mop_c trivial ?_; refine mm_ld hM ?_; refine mop_c trivial ?_; refine mm_bsl hM ?_ ?_ ?_)); (focus rfl); (focus (constructor <;> simp)); (with_reducible (clear hM; intro _ _ hM; refine mm_appo hM ?_ ?_)); (focus omega); (with_reducible (clear hM; intro _ _ _ hM; refine mop_c trivial ?_; refine mm_st hM ?_; clear hM; intro _ hM)))
            rename_i A3 c3 _ _
            have e2 : addPs t = t.ps ++ [Pn.zero] := if_pos ⟨hge, by omega⟩
            rw [← xrow0, show X.map xrow ++ [xrow x0] = (X ++ [x0]).map xrow by simp] at hM
            have h0 : Mem H w1 (xres x0 :: _) _ := hM.row0 3 1
            have hM : Mem H w1 [allR X, xres x0, rowR 61 66 A3 (t.ps.length + 1) c3 ((X ++ [x0]).map xrow), fb g1 25 (tfd A' t.ls.length a' A3 (t.ps.length + 1) c3), rowR 57 97 A' t.ls.length a' (t.ls.map Lf.fds), fb g3 25 (tfd none 0 0 none 0 0), fb g2 57 l.fds] _ := h0.same
            exact ⟨A3, c3, t.ps.length + 1, X ++ [x0], by rw [e2, List.map_append, hX]; rfl, by simp [hXl], hM.addk.same⟩
          · intro hz
            ((with_reducible (refine mif_false ?_)))
            have e2 : addPs t = t.ps := if_neg (by omega)
            rw [e2]
            exact ⟨B', b', t.ps.length, X, hX, hXl, hM.sub⟩
        · clear hM
          rintro u3 w3 ⟨B2, b2, m, Y, hY, hYl, hM⟩
          ((with_reducible (refine mop_c trivial ?_; refine mm_ld hM ?_; refine mop_c trivial ?_; refine mm_bsl hM ?_ ?_ ?_)); (focus rfl); (focus (constructor <;> simp)); (with_reducible (clear hM; intro _ _ hM; refine mm_appo hM ?_ ?_)); (focus omega); (with_reducible (clear hM; intro _ _ _ hM; refine mop_c trivial ?_; refine mm_st hM ?_; clear hM; intro _ hM)))
          rename_i A3 c3 _ _
          have e4 : t.ls.length + 1 = (gapL t).length := by rw [e1]; simp
          have e5 : t.ls.map Lf.fds ++ [[Fd.one (.int .i64 0), .arr 32 (u8s hzero.1), .arr 32 (u8s hzero.1), .arr 32 (u8s hzero.1)]] = (gapL t).map Lf.fds := by
            rw [e1, List.map_append]
            rfl
          rw [e5, e4] at hM
          exact ⟨hnf2, by rw [hge], A3, c3, B2, b2, m, Y, hY, hYl, hM.sub⟩
  clear hM
  rintro v u4 w4 ⟨hnf, rfl, A2, a2, B2, b2, m, Y, hY, hYl, hM⟩
  rw [if_neg hnf] at hq
  have hgn := gapL_len t l
  have hgs := gapL_set t l
  have hap := addPs_len hR l
  have hln : (addL t l).length ≤ 64 ∧ t.gap < (addL t l).length := by
    rw [addL_len]
    split <;> omega
  rw [← hY, List.length_map, hYl] at hap
  obtain ⟨g4, rfl⟩ := (hM.up A2).rowAt ⟨.refl _⟩ (by omega)
  ((with_reducible (refine mop_c trivial ?_; refine mm_ld hM ?_; refine mm_ld hM ?_; refine mm_ixr hM ?_ ?_)); (focus omega); (with_reducible (intro _ hA)); (cases hA); (with_reducible (refine mm_str hM ?_ ?_)); (focus omega); (with_reducible (clear hM; intro _ hM; refine mop_c trivial ?_; refine mm_ld hM ?_; refine mop_c trivial ?_)))
  rw [Int.toNat_natCast, ← List.map_set, hgs, hgn] at hM
  rw [hgn]
  refine mm_call hM (bdirect_ok (addL t l).length t.gap (by omega) hM.fz) ?_
  rintro H1 v w5 l1 hM ⟨D, c, rfl, hD⟩
  have hdl := dirL_len (addL t l).length t.gap
  have hdm := fun x hx => dir_mem (n := (addL t l).length) (l := t.gap) (x := x) (by omega) hx
  have hnd := dir_nodup (n := (addL t l).length) (l := t.gap) (by omega)
  generalize hDL : dirL (addL t l).length t.gap = DL at *
  ((with_reducible (refine mop_c trivial ?_)))
  refine ⟨fun v w' => ∃ (i : Nat) (Z : List Xp) (H2 : Hp), v = .int .i64 i ∧ i ≤ DL.length ∧ Z.map (·.1) = onDir (updA t.gap) (DL.take i) (Y.map (·.1)) ∧ Z.length = m ∧ Le w1 H1 H2 ∧ Mem H2 w1 [fb g1 25 (tfd (some ⟨g4, 0, none⟩) (addL t l).length a2 B2 m b2), fb g2 57 l.fds, fb g3 25 (tfd none 0 0 none 0 0), rowR 57 97 (some ⟨g4, 0, none⟩) (addL t l).length a2 ((addL t l).map Lf.fds), rowR 61 66 B2 m b2 (Z.map xrow), allR Z] w', fun v _ => match v with | .int _ k => DL.length - k.toNat | _ => 0, ⟨0, Y, H1, rfl, by omega, rfl, hYl, Le.refl _ _, hM.same⟩, ?_⟩
  clear hM
  rintro v u6 w6 ⟨i, Z, H2, rfl, hi, hZ, hZl, l2, hM⟩
  have hD := hD.mono l2.le
  ((with_reducible (refine mop_cS trivial ?_ ?_)))
  · intro hlt
    have hlt' : i < DL.length := by omega
    have hxm := hdm DL[i] (List.getElem_mem _)
    have hk : (DL[i] / 2).toNat < Z.length := by omega
    have hk2 : (DL[i] / 2).toNat < (addPs t).length := by rw [← hY, List.length_map]; omega
    have hZk : Z[(DL[i] / 2).toNat].1 = (addPs t)[(DL[i] / 2).toNat] := by
      have e1 : (Z.map (·.1))[(DL[i] / 2).toNat]? = (addPs t)[(DL[i] / 2).toNat]? := by
        rw [hZ, hY]
        refine onDir_get (hnd.sublist (List.take_sublist _ _)) (fun y hy => by have := hdm y (List.mem_of_mem_take hy); omega) fun hm => ?_
        rw [show 2 * (((DL[i] / 2).toNat : Nat) : Int) + 1 = DL[i] by omega] at hm
        obtain ⟨j, hj, e⟩ := List.getElem_of_mem hm
        rw [List.getElem_take] at e
        have := (List.getElem_inj hnd).1 e
        simp at hj
        omega
      rw [List.getElem?_map, List.getElem?_eq_getElem hk, List.getElem?_eq_getElem hk2] at e1
      exact Option.some.inj e1
    obtain ⟨hs1, hs2⟩ := hR.addPs_loose _ (List.getElem_mem hk2)
    rw [← hZk] at hs1 hs2
    ((with_reducible (refine mif_true ?_)))
    refine ⟨fun w' => ∃ (Z' : List Xp) (H3 : Hp), Z'.map (·.1) = onDir (updA t.gap) (DL.take (i + 1)) (Y.map (·.1)) ∧ Z'.length = m ∧ Le w1 H1 H3 ∧ Mem H3 w1 [fb g1 25 (tfd (some ⟨g4, 0, none⟩) (addL t l).length a2 B2 m b2), fb g2 57 l.fds, fb g3 25 (tfd none 0 0 none 0 0), rowR 57 97 (some ⟨g4, 0, none⟩) (addL t l).length a2 ((addL t l).map Lf.fds), rowR 61 66 B2 m b2 (Z'.map xrow), allR Z'] w', ?_, ?_⟩
    · ((with_reducible refine mm_ixs ‹_› ?_ ?_ ?_); (focus (simp only [List.length_map]; omega)); (focus (simp only [List.length_map]; first | done | omega)); (with_reducible (intro _ _ hA)); (cases hA); (with_reducible refine mm_lds0 hM ‹_› (map_atI ?_) ?_); (focus omega); (with_reducible (refine mop_c trivial ?_; refine mm_ld hM ?_; refine mop_c ?_ ?_)); (focus omega); (with_reducible (refine mm_ixr hM ?_ ?_)); (focus omega); (with_reducible (intro _ hA)); (cases hA); (with_reducible (refine mop_c trivial ?_; refine mop_c trivial ?_; refine mm_ldr hM (map_at ?_) ?_)); (focus omega))
      cases hset : Z[(DL[i] / 2).toNat].1.set
      · ((with_reducible (refine mif_false ?_)))
        refine ⟨Z, H2, ?_, hZl, l2, hM⟩
        rw [onDir_succ hlt', ← hZ]
        refine List.ext_getElem (by simp) fun j h1 h2 => ?_
        simp only [List.getElem_modify, List.getElem_map]
        split
        · rename_i e
          subst e
          unfold updA
          rw [if_neg (by rw [hset]; simp)]
        · rfl
      · have hM := (hM.at_ (allR Z)).outk hk
        ((with_reducible (refine mif_true ?_; refine mop_c trivial ?_; refine mop_c trivial ?_; refine mm_ldr hM (map_at ?_) ?_)); (focus omega))
        refine mm_own (Q := fun v w' => ∃ bb, v = .tuple #[.int .i64 (bs' Z[(DL[i] / 2).toNat].1.loose t.gap), .bool bb] ∧ hM.now w') ((bsearch_ok (H := Hp.of _) Z[(DL[i] / 2).toNat].1.loose t.gap hs2 (by omega) (hM.reads (A := Z[(DL[i] / 2).toNat].2.1)) (Fz.of _)).mono ?_) ?_
        · rintro e w' ⟨⟨bb, rfl⟩, hst⟩
          exact ⟨_, rfl, bb, rfl, hM.call0 hst⟩
        rintro v w' ⟨bb, rfl, hM⟩
        ((with_reducible ((iterate 4 refine mop_c trivial ?_); refine mm_ldr hM (map_at ?_) ?_)); (focus omega); (with_reducible (refine mm_bsl hM ?_ ?_ ?_)); (focus rfl); (focus (constructor <;> simp)); (with_reducible (clear hM; intro _ _ hM)))
        refine mm_own (insert_ok Z[(DL[i] / 2).toNat].1.loose (bs' Z[(DL[i] / 2).toNat].1.loose t.gap) t.gap List.findIdx_le_length (by omega) (hM.up Z[(DL[i] / 2).toNat].2.1)) ?_
        rintro v w' ⟨A5, c5, rfl, hM⟩
        ((with_reducible (refine mop_c trivial ?_; refine mop_c trivial ?_)))
        refine mm_stf hM (map_at hk) (fun w' hM => ?_)
        have hy : updA t.gap Z[(DL[i] / 2).toNat].1 = { Z[(DL[i] / 2).toNat].1 with loose := ins Z[(DL[i] / 2).toNat].1.loose t.gap } := if_pos hset
        have hil := ins_len Z[(DL[i] / 2).toNat].1.loose t.gap
        have hrow : xrow (updA t.gap Z[(DL[i] / 2).toNat].1, A5, c5) = [.one (.bool Z[(DL[i] / 2).toNat].1.set), .arr 32 (u8s Z[(DL[i] / 2).toNat].1.pub.1), .arr 32 (u8s Z[(DL[i] / 2).toNat].1.abv.1), .one (.slice A5 (Z[(DL[i] / 2).toNat].1.loose.length + 1) c5)] := by
          rw [hy]
          show [Fd.one (.bool Z[(DL[i] / 2).toNat].1.set), _, _, Fd.one (.slice A5 (ins Z[(DL[i] / 2).toNat].1.loose t.gap).length c5)] = _
          rw [hil]
        have hres : rowR 3 1 A5 (Z[(DL[i] / 2).toNat].1.loose.length + 1) c5 (ints8 (Z[(DL[i] / 2).toNat].1.loose.take (bs' Z[(DL[i] / 2).toNat].1.loose t.gap) ++ (t.gap : Int) :: Z[(DL[i] / 2).toNat].1.loose.drop (bs' Z[(DL[i] / 2).toNat].1.loose t.gap))) = xres (updA t.gap Z[(DL[i] / 2).toNat].1, A5, c5) := by
          rw [hy, ← hil]
          rfl
        rw [← hrow, ← List.map_set, hres] at hM
        have hM := ((hM.at_ (restR Z (DL[i] / 2).toNat)).at_ (xres (updA t.gap Z[(DL[i] / 2).toNat].1, A5, c5))).ink hk
        skip
        refine ⟨Z.set (DL[i] / 2).toNat (updA t.gap Z[(DL[i] / 2).toNat].1, A5, c5), H2, ?_, by simpa using hZl, l2, hM.same⟩
        rw [onDir_succ hlt', ← hZ]
        refine List.ext_getElem (by simp) fun j h1 h2 => ?_
        simp only [List.getElem_modify, List.getElem_map, List.getElem_set]
        split
        · rename_i e
          subst e
          rfl
        · rfl
    · clear hM
      rintro u7 w7 ⟨Z', H3, hZ', hZl', l3, hM⟩
      ((with_reducible (refine mop_c ?_ ?_)); (focus omega))
      exact ⟨⟨i + 1, Z', H3, rfl, by omega, hZ', hZl', l3, hM⟩, by simp only; omega⟩
  · intro hge
    ((with_reducible (refine mif_false ?_; refine mm_ld hM ?_; refine mm_st hM ?_; clear hM; intro _ hM; refine rm_ld hM ?_)))
    rw [List.take_of_length_le (by omega), hY] at hZ
    rw [← hZl] at hM ⊢
    have hM : Mem H2 w1 [rowR 57 97 (some ⟨g4, 0, none⟩) (addL t l).length a2 ((addL t l).map Lf.fds), rowR 61 66 B2 Z.length b2 (Z.map xrow), allR Z] _ := hM.sub
    obtain ⟨H4, l4, hM, hT⟩ := hM.frzT (fun x hx => by
      have hm : x.1 ∈ onDir (updA t.gap) DL (addPs t) := hZ ▸ List.mem_map_of_mem hx
      rw [onDir_eq hnd fun y hy => by have := hdm y hy; omega] at hm
      obtain ⟨k, hk, e⟩ := List.getElem_of_mem hm
      rw [List.getElem_mapIdx] at e
      have hk' : k < (addPs t).length := by simpa using hk
      have := (hR.addPs_loose _ (List.getElem_mem hk')).1
      have h64 : x.1.loose.length ≤ 65 := by
        rw [← e]
        split
        · unfold updA
          split
          · rw [ins_len]
            omega
          · omega
        · omega
      simp only [maxLen]
      omega)
    refine hM.out ((l1.trans l2).trans l4) (hq _ _ _ rfl ?_)
    rw [hZ] at hT
    exact hT
end
end Go.Proofs.YtopcnkejobomaaaGreat
namespace Go.Proofs.YtopcnkejobomaaaGreat
open Go.RowKit Go.Lib
theorem onDir_mem {f : Pn → Pn} {P : Pn → Prop} (hf : ∀ p, P p → P (f p)) : ∀ {D : List Int} {ps : List Pn}, (∀ p ∈ ps, P p) → ∀ p ∈ onDir f D ps, P p
  | [], _, h => h
  | x :: D, ps, h => by
    refine onDir_mem hf (D := D) (ps := ps.modify (x / 2).toNat f) fun p hp => ?_
    obtain ⟨i, hi, rfl⟩ := List.getElem_of_mem hp
    rw [List.getElem_modify]
    have hi' : i < ps.length := by simpa using hi
    split
    · exact hf _ (h _ (List.getElem_mem hi'))
    · exact h _ (List.getElem_mem hi')
theorem Tr.Rt.blank_loose {t : Tr} (h : t.Rt) {p : Int} : ∀ q ∈ blankP t.size p t.ps, q.loose.length ≤ 64 :=
  onDir_mem (P := fun q => q.loose.length ≤ 64) (fun _ _ => by simp [Pn.zero]) fun q hq => (h.loose q hq).1
theorem Tr.body {t : Tr} {p : Int} (h : ¬ t.nobody p) : 0 ≤ p ∧ p.toNat < t.ls.length ∧ p < t.ls.length := by
  unfold Tr.nobody Tr.size at h
  omega
section
variable {H : Hp} {w0 w : World} {L R : List Res} {A B C : Option Addr} {a b c n : Nat} {t : Tr} {qs ps : List (List Fd)}
theorem remove_q {Q : Hp → Value → Prop} (p : Int) (hq : ∀ H' v1 r, t.remP p = r → TrF H' v1 r.1 → Q H' (.tuple #[v1, .int .i64 r.2])) (h1 : Sl H 97 A (t.ls.map Lf.fds)) (h2 : Sl H 66 B qs) (h3 : All2 (PnF H) qs t.ps) (hl : t.ls.length ≤ maxLen) (hp : t.ps.length ≤ maxLen) (hf : Fz H w) :
    Calls Tryz.prog 29 #[tv A t.ls.length a B t.ps.length b, .int .i64 p] w (Outp H w Q) := by
  obtain ⟨w1, hw1⟩ : ∃ w1, w1 = w := ⟨_, rfl⟩
  rw [← hw1]
  rw [← hw1] at hf
  have hM := Mem.start hf
  refine C_tree_Remove ?_
  unfold F_tree_Remove
  unfold Tr.remP at hq
  ((with_reducible (refine mm_box hM ?_; clear hM; intro _ _ hM; refine mm_new hM ?_; clear hM; intro _ _ hM; refine mm_ld hM ?_)))
  rename_i g1 _ g2 _
  refine mm_pure hM (right_ok h1 h2 h3 hl hp hM.fz) (fun w hM => ?_)
  ((with_reducible (refine mop_c trivial ?_)))
  cases hr : t.right
  · rw [if_pos (by rw [hr]; simp)] at hq
    rw [Bool.not_false]
    ((with_reducible (refine mif_true ?_; refine mop_c trivial ?_; refine mm_st hM ?_; clear hM; intro _ hM; refine rm_ld hM ?_)))
    exact hM.out (Le.refl _ _) (hq _ _ _ rfl (trF_none H))
  rw [if_neg (by rw [hr]; simp)] at hq
  have hR := Tr.rt.1 hr
  have hlen := hR.len
  rw [Bool.not_true]
  ((with_reducible (refine mif_false ?_; refine mm_ld hM ?_)))
  refine mm_pure hM (none_ok p h1 hl hM.fz) (fun w hM => ?_)
  by_cases hn : t.nobody p
  · rw [if_pos hn] at hq
    rw [decide_eq_true hn]
    ((with_reducible (refine mif_true ?_; refine mop_c trivial ?_; refine mm_st hM ?_; clear hM; intro _ hM; refine rm_ld hM ?_)))
    exact hM.out (Le.refl _ _) (hq _ _ _ rfl (trF_none H))
  rw [if_neg hn] at hq
  rw [decide_eq_false hn]
  obtain ⟨hb0, hb1, hb2⟩ := Tr.body hn
  ((with_reducible (refine mif_false ?_; refine mm_ld hM ?_)))
  refine mm_own (clone_ok h1 h2 h3 (by omega) (by omega) (fun p hp => by have := (hR.loose p hp).1; omega) hM) ?_
  rintro v w' ⟨A', a', B', b', X, rfl, hX, hM⟩
  have hXl : X.length = t.ps.length := by rw [← hX, List.length_map]
  obtain ⟨g4, rfl⟩ := hM.rowAt ⟨.refl _⟩ (by omega)
  ((with_reducible (refine mm_st hM ?_; clear hM; intro _ hM; refine mop_c trivial ?_; refine mm_ld hM ?_; refine mop_c trivial ?_; refine mm_ixr hM ?_ ?_)); (focus omega); (with_reducible (intro _ hA)); (cases hA); (with_reducible (refine mm_str hM ?_ ?_)); (focus omega); (with_reducible (clear hM; intro _ hM; refine mm_ld hM ?_)))
  have hz : [Fd.one (.int .i64 0), .arr 32 (u8s hzero.1), .arr 32 (u8s hzero.1), .arr 32 (u8s hzero.1)] = Lf.zero.fds := rfl
  rw [hz, ← List.map_set] at hM
  have hsl : (t.ls.set p.toNat Lf.zero).length = t.ls.length := List.length_set
  obtain ⟨ls2, hls⟩ : ∃ ls2, t.ls.set p.toNat Lf.zero = ls2 := ⟨_, rfl⟩
  rw [hls] at hM hsl hq
  rw [← hsl, ← hXl] at hM
  have hM : Mem H w1 [rowR 57 97 (some ⟨g4, 0, none⟩) ls2.length a' (ls2.map Lf.fds), rowR 61 66 B' X.length b' (X.map xrow), allR X, fb g1 25 (tfd (some ⟨g4, 0, none⟩) ls2.length a' B' X.length b'), fb g2 25 (tfd none 0 0 none 0 0)] _ := hM.sub
  rw [← hsl, ← hXl]
  refine mm_own (blank_ok (ls := ls2) (X := X) (p := p) (by omega) (by omega) hM) ?_
  clear hM
  rintro v w5 ⟨H1, Y, rfl, hY, hYl, l1, hM⟩
  rw [hX] at hY
  ((with_reducible (refine mop_c trivial ?_; refine mm_ld hM ?_; refine mop_c trivial ?_)))
  refine ⟨fun v w' => ∃ i : Nat, v = .int .i64 i ∧ i ≤ ls2.length ∧ keepN ls2 ls2.length = keepN ls2 i ∧ hM.now w', fun v _ => match v with | .int _ k => k.toNat | _ => 0, ⟨ls2.length, rfl, by omega, rfl, hM⟩, ?_⟩
  rintro v u6 w6 ⟨i, rfl, hi, hk, hM⟩
  obtain ⟨-, ca1, -, -⟩ := (hM.up (some ⟨g4, 0, none⟩)).rowLen ⟨.refl _⟩
  obtain ⟨-, cb1, -, -⟩ := (hM.up B').rowLen ⟨.refl _⟩
  refine ⟨fun w' => 0 < i ∧ keepN ls2 i = keepN ls2 (i - 1) ∧ hM.now w', ?_, ?_⟩
  · skip
    have hfin : keepN ls2 i = i → ∀ w', Mem H1 w1 [rowR 57 97 (some ⟨g4, 0, none⟩) ls2.length a' (ls2.map Lf.fds), rowR 61 66 B' X.length b' (Y.map xrow), allR Y] w' → Outp H w1 Q (.returned (.tuple #[.agg (fl (tfd (some ⟨g4, 0, none⟩) (i : Int).toNat a' B' (if (i : Int) - 1 < 0 then 0 else (i : Int) - 1).toNat b')).toArray, .int .i64 0])) w' := fun hi2 w' hM => by
      rw [hi2] at hk
      have hM := hM.short (k := i) (by omega)
      have hM := (hM.up B').short (k := i - 1) (by omega)
      have hM := (hM.at_ (allR Y)).dropk (i - 1)
      have e1 : (ls2.take i).length = i := by rw [List.length_take]; omega
      have e2 : (Y.take (i - 1)).length = i - 1 := by rw [List.length_take]; omega
      rw [← List.map_take, ← List.map_take] at hM
      have hM : Mem H1 w1 [rowR 57 97 (some ⟨g4, 0, none⟩) i a' ((ls2.take i).map Lf.fds), rowR 61 66 B' (i - 1) b' ((Y.take (i - 1)).map xrow), allR (Y.take (i - 1))] w' := hM.same
      have hM : Mem H1 w1 [rowR 57 97 (some ⟨g4, 0, none⟩) (ls2.take i).length a' ((ls2.take i).map Lf.fds), rowR 61 66 B' (Y.take (i - 1)).length b' ((Y.take (i - 1)).map xrow), allR (Y.take (i - 1))] w' := by
        rw [e1, e2]
        exact hM
      obtain ⟨H4, l4, hM, hT⟩ := hM.frzT (fun x hx => by
        have hm : x.1 ∈ blankP t.size p t.ps := by
          have : x.1 ∈ Y.map (·.1) := List.mem_map_of_mem (List.mem_of_mem_take hx)
          rw [hY, hsl] at this
          exact this
        have := hR.blank_loose _ hm
        simp only [maxLen]
        omega)
      rw [e1, e2] at hT
      rw [Int.toNat_natCast, show (if (i : Int) - 1 < 0 then 0 else (i : Int) - 1).toNat = i - 1 by split <;> omega]
      refine hM.out (l1.trans l4) (hq _ _ _ rfl ?_)
      show TrF H4 _ (cut ls2 (blankP t.size p t.ps))
      unfold cut
      rw [hk]
      rw [List.map_take, hY, hsl] at hT
      exact hT
    ((with_reducible (refine mop_cS trivial ?_ ?_)))
    · intro hpos
      have hix : ((i : Int) - 1).toNat < ls2.length := by omega
      have hna := nameAt_at (ls := ls2) (p := (i : Int) - 1) (by omega) hix
      ((with_reducible (refine mguard_yes ?_; refine mop_c trivial ?_; refine mguard_yes ?_; refine mm_ld hM ?_; refine mguard_yes ?_; refine mop_c trivial ?_; refine mguard_yes ?_; refine mop_c ?_ ?_)); (focus omega); (with_reducible (refine mguard_yes ?_; refine mm_ixr hM ?_ ?_)); (focus omega); (with_reducible (intro _ hA)); (cases hA); (with_reducible (refine mguard_yes ?_; refine mop_c trivial ?_; refine mguard_yes ?_; refine mm_ldr hM (map_at ?_) ?_)); (focus omega); (with_reducible (refine mguard_yes ?_)))
      rw [← hna]
      have hkn : keepN ls2 i = if nameAt ls2 ((i : Int) - 1) = 0 then keepN ls2 (i - 1) else i := by
        cases i with
        | zero => omega
        | succ i =>
          rw [keepN]
          simp
      ((with_reducible (refine mop_cS trivial ?_ ?_)))
      · intro h0
        ((with_reducible (refine mop_c trivial ?_; refine mif_true ?_)))
        exact ⟨by omega, by rw [hkn, if_pos h0], hM⟩
      · intro h0
        rw [if_neg h0] at hkn
        ((with_reducible (refine mop_c trivial ?_; refine mif_false ?_; refine dp_c trivial ?_; refine dm_ld hM ?_; refine dp_c ?_ ?_)); (focus omega); (with_reducible (refine dp_c trivial ?_; refine dm_ld hM ?_; refine dp_c ?_ ?_)); (focus omega); (with_reducible (refine dp_c trivial ?_; refine dp_c ?_ ?_)); (focus omega); (with_reducible (refine dp_c trivial ?_; refine dS_st hM ?_; clear hM; intro _ hM; refine dp_c trivial ?_; refine dS_st hM ?_; clear hM; intro _ hM; refine mm_end hM ?_; clear hM; intro _ hM; refine mm_ld hM ?_; refine mm_st hM ?_; clear hM; intro _ hM; refine rm_ld hM ?_)))
        exact hfin hkn _ hM.sub
    · intro hz
      ((with_reducible ((iterate 8 refine mguard_n2 ?_); refine mop_c trivial ?_; refine mif_false ?_; refine dp_c trivial ?_; refine dm_ld hM ?_; refine dp_c ?_ ?_)); (focus omega); (with_reducible (refine dp_c trivial ?_; refine dm_ld hM ?_; refine dp_c ?_ ?_)); (focus omega); (with_reducible (refine dp_c trivial ?_; refine dp_c ?_ ?_)); (focus omega); (with_reducible (refine dp_c trivial ?_; refine dS_st hM ?_; clear hM; intro _ hM; refine dp_c trivial ?_; refine dS_st hM ?_; clear hM; intro _ hM; refine mm_end hM ?_; clear hM; intro _ hM; refine mm_ld hM ?_; refine mm_st hM ?_; clear hM; intro _ hM; refine rm_ld hM ?_)))
      obtain rfl : i = 0 := by omega
      exact hfin rfl _ hM.sub
  · rintro u7 w7 ⟨hpos, hk2, hM⟩
    ((with_reducible (refine mop_c ?_ ?_)); (focus omega))
    exact ⟨⟨i - 1, by congr 1; omega, by omega, by rw [hk, hk2], hM⟩, by simp only; omega⟩
theorem renew_q {Q : Hp → Value → Prop} (p : Int) (pub : H32) (hq : ∀ H' v1 r, t.renP p pub = r → TrF H' v1 r.1 → Q H' (.tuple #[v1, .int .i64 r.2])) (h1 : Sl H 97 A (t.ls.map Lf.fds)) (h2 : Sl H 66 B qs) (h3 : All2 (PnF H) qs t.ps) (hl : t.ls.length ≤ maxLen) (hp : t.ps.length ≤ maxLen) (hf : Fz H w) :
    Calls Tryz.prog 113 #[tv A t.ls.length a B t.ps.length b, .int .i64 p, ha pub] w (Outp H w Q) := by
  obtain ⟨w1, hw1⟩ : ∃ w1, w1 = w := ⟨_, rfl⟩
  rw [← hw1]
  rw [← hw1] at hf
  have hM := Mem.start hf
  refine C_tree_Renew ?_
  unfold F_tree_Renew
  unfold Tr.renP at hq
  ((with_reducible (refine mm_box hM ?_; clear hM; intro _ _ hM; refine mm_box hM ?_; clear hM; intro _ _ hM; refine mm_new hM ?_; clear hM; intro _ _ hM; refine mm_ld hM ?_)))
  rename_i g1 _ g5 _ g2 _
  refine mm_pure hM (right_ok h1 h2 h3 hl hp hM.fz) (fun w hM => ?_)
  ((with_reducible (refine mop_c trivial ?_)))
  cases hr : t.right
  · rw [if_pos (by rw [hr]; simp)] at hq
    rw [Bool.not_false]
    ((with_reducible (refine mif_true ?_; refine mop_c trivial ?_; refine mm_st hM ?_; clear hM; intro _ hM; refine rm_ld hM ?_)))
    exact hM.out (Le.refl _ _) (hq _ _ _ rfl (trF_none H))
  rw [if_neg (by rw [hr]; simp)] at hq
  have hR := Tr.rt.1 hr
  have hlen := hR.len
  rw [Bool.not_true]
  ((with_reducible (refine mif_false ?_; refine mm_ld hM ?_)))
  refine mm_pure hM (none_ok p h1 hl hM.fz) (fun w hM => ?_)
  by_cases hn : t.nobody p
  · rw [if_pos hn] at hq
    rw [decide_eq_true hn]
    ((with_reducible (refine mif_true ?_; refine mop_c trivial ?_; refine mm_st hM ?_; clear hM; intro _ hM; refine rm_ld hM ?_)))
    exact hM.out (Le.refl _ _) (hq _ _ _ rfl (trF_none H))
  rw [if_neg hn] at hq
  rw [decide_eq_false hn]
  obtain ⟨hb0, hb1, hb2⟩ := Tr.body hn
  ((with_reducible (refine mif_false ?_; refine mm_ld hM ?_)))
  refine mm_own (clone_ok h1 h2 h3 (by omega) (by omega) (fun p hp => by have := (hR.loose p hp).1; omega) hM) ?_
  rintro v w' ⟨A', a', B', b', X, rfl, hX, hM⟩
  have hXl : X.length = t.ps.length := by rw [← hX, List.length_map]
  obtain ⟨g4, rfl⟩ := hM.rowAt ⟨.refl _⟩ (by omega)
  obtain ⟨l0, hl0⟩ : ∃ l0, t.ls[p.toNat] = l0 := ⟨_, rfl⟩
  have hk0 : (t.ls.map Lf.fds)[p.toNat]? = some l0.fds := by rw [← hl0]; exact map_at hb1
  ((with_reducible (refine mm_st hM ?_; clear hM; intro _ hM; refine mop_c trivial ?_; refine mm_ld hM ?_; refine mm_ld hM ?_; refine mm_ixr hM ?_ ?_)); (focus omega); (with_reducible (intro _ hA)); (cases hA); (with_reducible (refine mop_c trivial ?_)))
  refine mm_stf hM hk0 (fun w' hM => ?_)
  have hz : [Fd.one (.int .i64 l0.name), .arr 32 (u8s pub.1), .arr 32 (u8s l0.ver.1), .arr 32 (u8s l0.abv.1)] = (l0.key pub l0.abv).fds := rfl
  rw [hz] at hM
  have hk1 : ((t.ls.map Lf.fds).set p.toNat (l0.key pub l0.abv).fds)[p.toNat]? = some (l0.key pub l0.abv).fds := by
    rw [List.getElem?_set_self (by simpa using hb1)]
  ((with_reducible (refine mop_c trivial ?_; refine mm_ld hM ?_; refine mop_c trivial ?_; refine mm_ixr hM ?_ ?_)); (focus omega); (with_reducible (intro _ hA)); (cases hA); (with_reducible (refine mop_c trivial ?_)))
  refine mm_stf hM hk1 (fun w' hM => ?_)
  have hz2 : [Fd.one (.int .i64 l0.name), .arr 32 (u8s pub.1), .arr 32 (u8s l0.ver.1), .arr 32 (u8s hzero.1)] = (l0.key pub hzero).fds := rfl
  have hz3 : [Fd.one (.int .i64 (l0.key pub l0.abv).name), .arr 32 (u8s (l0.key pub l0.abv).pub.1), .arr 32 (u8s (l0.key pub l0.abv).ver.1), .arr 32 (u8s hzero.1)] = (l0.key pub hzero).fds := rfl
  rw [hz3, List.set_set, ← List.map_set] at hM
  have hmod : t.ls.set p.toNat (l0.key pub hzero) = t.ls.modify p.toNat (·.key pub hzero) := by
    refine List.ext_getElem (by simp) fun i k1 k2 => ?_
    simp only [List.getElem_modify, List.getElem_set]
    split
    · rename_i e
      subst e
      rw [hl0]
    · rfl
  rw [hmod] at hM
  have hsl : (t.ls.modify p.toNat (·.key pub hzero)).length = t.ls.length := List.length_modify ..
  obtain ⟨ls2, hls⟩ : ∃ ls2, t.ls.modify p.toNat (·.key pub hzero) = ls2 := ⟨_, rfl⟩
  rw [hls] at hM hsl hq
  rw [← hsl, ← hXl] at hM
  ((with_reducible (refine mm_ld hM ?_)))
  have hM : Mem H w1 [rowR 57 97 (some ⟨g4, 0, none⟩) ls2.length a' (ls2.map Lf.fds), rowR 61 66 B' X.length b' (X.map xrow), allR X, fb g1 25 (tfd (some ⟨g4, 0, none⟩) ls2.length a' B' X.length b'), fb g2 25 (tfd none 0 0 none 0 0)] _ := hM.sub
  refine mm_own (blank_ok (ls := ls2) (X := X) (p := p) (by omega) (by omega) hM) ?_
  clear hM
  rintro v w5 ⟨H1, Y, rfl, hY, hYl, l1, hM⟩
  rw [hX] at hY
  ((with_reducible (refine mm_ld hM ?_; refine mm_st hM ?_; clear hM; intro _ hM; refine rm_ld hM ?_)))
  rw [← hYl] at hM
  have hM : Mem H1 w1 [rowR 57 97 (some ⟨g4, 0, none⟩) ls2.length a' (ls2.map Lf.fds), rowR 61 66 B' Y.length b' (Y.map xrow), allR Y] _ := hM.sub
  obtain ⟨H4, l4, hM, hT⟩ := hM.frzT (fun x hx => by
    have hm : x.1 ∈ blankP t.size p t.ps := by
      have : x.1 ∈ Y.map (·.1) := List.mem_map_of_mem hx
      rw [hY, hsl] at this
      exact this
    have := hR.blank_loose _ hm
    simp only [maxLen]
    omega)
  rw [hYl] at hT
  refine hM.out (l1.trans l4) (hq _ _ _ rfl ?_)
  rw [hY, hsl] at hT
  rw [hsl]
  exact hT
end
end Go.Proofs.YtopcnkejobomaaaGreat
namespace Go.Proofs.YtopcnkejobomaaaGreat
open Go.RowKit Go.Lib
section
variable {H : Hp} {w0 w : World} {L R : List Res} {A B C : Option Addr} {a b c n : Nat} {t : Tr} {qs ps : List (List Fd)}
theorem tright_ok (h1 : Sl H 97 A (t.ls.map Lf.fds)) (h2 : Sl H 66 B qs) (h3 : All2 (PnF H) qs t.ps) (hl : t.ls.length ≤ maxLen) (hp : t.ps.length ≤ maxLen) (hf : Fz H w) :
    Calls Tryz.prog 7 #[tv A t.ls.length a B t.ps.length b] w fun en w' => en = .returned (.bool t.right) ∧ St w [] w' := by
  have hM := Mem.start hf
  refine C_bevyref08_Right ?_
  unfold F_bevyref08_Right
  have hl' : t.ls.length ≤ 9223372036854775807 := hl
  have hp' : t.ps.length ≤ 9223372036854775807 := hp
  have hq : qs.length = t.ps.length := h3.len
  have hts : t.size = t.ls.length := rfl
  ((with_reducible (refine mm_box hM ?_; clear hM; intro _ _ hM; refine mop_c trivial ?_; refine mm_ld hM ?_; refine mop_c trivial ?_)))
  rename_i g1 _
  refine ⟨fun v w' => v = .bool (!decide (t.ls.length ≤ 64 ∧ t.ps.length = t.ls.length - 1)) ∧ hM.now w', ?_, ?_⟩
  · ((with_reducible (refine mop_cS trivial ?_ ?_)))
    · intro h
      ((with_reducible ((iterate 3 refine mguard_n1 ?_); (iterate 6 refine mguard_un ?_); refine mguard_n1 ?_; refine mop_c trivial ?_; (iterate 3 refine mguard_n1 ?_); (iterate 4 refine mguard_un ?_); refine mguard_n1 ?_; refine mop_c trivial ?_)))
      exact ⟨by rw [decide_eq_false (by omega)]; rfl, hM⟩
    · intro h
      ((with_reducible (refine mguard_yes ?_; refine mop_c trivial ?_; refine mguard_yes ?_)))
      ((with_reducible (refine mop_cS trivial ?_ ?_)))
      · intro h4
        ((with_reducible (refine mguard_yes ?_; refine mop_c trivial ?_; refine mguard_yes ?_; refine mop_c trivial ?_; refine mguard_yes ?_; refine mm_ld hM ?_; refine mguard_yes ?_; refine mop_c trivial ?_; refine mguard_yes ?_; refine mop_c trivial ?_; refine mguard_yes ?_; refine mop_c ?_ ?_)); (focus omega); (with_reducible (refine mguard_yes ?_)))
        ((with_reducible (refine mop_cS trivial ?_ ?_)))
        · intro h5
          ((with_reducible (refine mguard_yes ?_; refine mop_c trivial ?_; refine mop_c trivial ?_; (iterate 3 refine mguard_n1 ?_); (iterate 4 refine mguard_un ?_); refine mguard_n1 ?_; refine mop_c trivial ?_)))
          exact ⟨by rw [decide_eq_false (by omega)]; rfl, hM⟩
        · intro h5
          ((with_reducible (refine mguard_yes ?_; refine mop_c trivial ?_; refine mop_c trivial ?_; refine mguard_yes ?_; refine mop_c trivial ?_; refine mguard_yes ?_; refine mop_cF trivial ?_ ?_)); (focus (first | assumption | omega | with_reducible rfl | exact fun h => Bool.noConfusion h)); (with_reducible (refine mguard_yes ?_; refine mop_c trivial ?_; (iterate 4 refine mguard_n2 ?_); refine mguard_yes ?_; refine mop_c trivial ?_; refine mop_c trivial ?_)))
          exact ⟨by rw [decide_eq_true (by omega)]; rfl, hM⟩
      · intro h4
        ((with_reducible (refine mguard_yes ?_; refine mop_c trivial ?_; (iterate 6 refine mguard_n2 ?_); refine mguard_yes ?_; refine mop_c trivial ?_; refine mop_c trivial ?_; refine mguard_yes ?_; refine mop_c trivial ?_; refine mguard_yes ?_; refine mop_cT trivial ?_ ?_)); (focus (first | assumption | omega | with_reducible rfl | exact fun h => Bool.noConfusion h)); (with_reducible (refine mguard_yes ?_; refine mop_c trivial ?_; refine mguard_yes ?_; refine mop_c trivial ?_; refine mguard_yes ?_; refine mm_ld hM ?_; refine mguard_yes ?_; refine mop_c trivial ?_; refine mguard_yes ?_)))
        ((with_reducible (refine mop_cS trivial ?_ ?_)))
        · intro h5
          ((with_reducible (refine mguard_yes ?_; refine mop_c trivial ?_; refine mop_c trivial ?_)))
          exact ⟨by rw [decide_eq_false (by omega)]; rfl, hM⟩
        · intro h5
          ((with_reducible (refine mguard_yes ?_; refine mop_c trivial ?_; refine mop_c trivial ?_)))
          exact ⟨by rw [decide_eq_true (by omega)]; rfl, hM⟩
  rintro v u w2 ⟨rfl, hM⟩
  by_cases hsz : t.ls.length ≤ 64 ∧ t.ps.length = t.ls.length - 1
  case neg =>
    rw [decide_eq_false hsz]
    ((with_reducible (refine mif_nf ?_)))
    refine ⟨?_, hM.st⟩
    unfold Tr.right
    rw [decide_eq_false hsz]
    rfl
  rw [decide_eq_true hsz]
  ((with_reducible (refine mif_nt ?_)))
  refine ⟨fun v w' => ∃ (i : Nat) (s : List Int), v = .int .i64 i ∧ i ≤ t.ls.length ∧ leavesB [] t.ls = leavesB s (t.ls.drop i) ∧ (∀ x, 1 ≤ x → (x ∈ s ↔ ∃ k, ∃ (hk : k < t.ls.length), k < i ∧ t.ls[k].name = x)) ∧ Mem H w [fb g1 25 (tfd A t.ls.length a B t.ps.length b)] w', fun v _ => match v with | .int _ k => t.ls.length - k.toNat | _ => 0, ⟨0, [], rfl, by omega, rfl, fun x _ => ⟨fun h => (by cases h), fun ⟨_, _, h, _⟩ => (by omega)⟩, hM⟩, ?_⟩
  clear hM
  rintro v u2 w3 ⟨i, s, rfl, hi, hb, hs, hM⟩
  ((with_reducible (refine mop_cS trivial ?_ ?_)))
  · intro hlt
    have hlt' : i < t.ls.length := by omega
    have hdr := leavesB_drop (s := s) (ls := t.ls) (i := i) hlt'
    ((with_reducible (refine mif_true ?_)))
    refine ⟨fun w' => ∃ s', leavesB [] t.ls = leavesB s' (t.ls.drop (i + 1)) ∧ (∀ x, 1 ≤ x → (x ∈ s' ↔ ∃ k, ∃ (hk : k < t.ls.length), k < i + 1 ∧ t.ls[k].name = x)) ∧ Mem H w [fb g1 25 (tfd A t.ls.length a B t.ps.length b)] w', ?_, ?_⟩
    · ((with_reducible (refine mop_c trivial ?_; refine mm_ld hM ?_)); (with_reducible refine mm_ixs ‹_› ?_ ?_ ?_); (focus (simp only [List.length_map]; omega)); (focus (simp only [List.length_map]; first | done | omega)); (with_reducible (intro _ _ hA)); (cases hA); (with_reducible refine mm_lds0 hM ‹_› (map_atI ?_) ?_); (focus omega); (with_reducible (refine mm_new hM ?_; clear hM; intro _ _ hM; refine mm_st hM ?_; clear hM; intro _ hM; refine mm_ld hM ?_; refine mop_c trivial ?_)))
      ((with_reducible (refine mop_cS trivial ?_ ?_)))
      · intro hz
        have hz' := (lf_zero _).2 hz
        ((with_reducible (refine mif_true ?_)))
        refine ⟨s, by rw [hb, hdr, if_pos hz'], fun x hx => (hs x hx).trans ⟨fun ⟨k, hk, h, e⟩ => ⟨k, hk, by omega, e⟩, fun ⟨k, hk, h, e⟩ => ?_⟩, hM.sub⟩
        rcases Nat.lt_or_ge k i with h6 | h6
        · exact ⟨k, hk, h6, e⟩
        · obtain rfl : k = i := by omega
          rw [hz'] at e
          simp only [Lf.zero] at e
          omega
      · intro hz
        rw [if_neg (fun e => hz ((lf_zero _).1 e))] at hdr
        ((with_reducible (refine mif_false ?_)))
        refine ⟨fun v w' => v = .bool (!decide (1 ≤ t.ls[i].name ∧ t.ls[i].name ≤ 64)) ∧ hM.now w', ?_, ?_⟩
        · ((with_reducible (refine mop_c trivial ?_; refine mm_ld hM ?_)))
          ((with_reducible (refine mop_cS trivial ?_ ?_)))
          · intro h
            ((with_reducible ((iterate 3 refine mguard_n1 ?_); refine mop_c trivial ?_)))
            exact ⟨by rw [decide_eq_false (by omega)]; rfl, hM⟩
          · intro h
            ((with_reducible (refine mguard_yes ?_; refine mop_c trivial ?_; refine mguard_yes ?_; refine mm_ld hM ?_; refine mguard_yes ?_)))
            ((with_reducible (refine mop_cS trivial ?_ ?_)))
            · intro h4
              ((with_reducible (refine mop_c trivial ?_)))
              exact ⟨by rw [decide_eq_false (by omega)]; rfl, hM⟩
            · intro h4
              ((with_reducible (refine mop_c trivial ?_)))
              exact ⟨by rw [decide_eq_true (by omega)]; rfl, hM⟩
        rintro v u4 w5 ⟨rfl, hM⟩
        by_cases hc : 1 ≤ t.ls[i].name ∧ t.ls[i].name ≤ 64
        · rw [decide_eq_true hc]
          ((with_reducible (refine mif_nt ?_)))
          refine ⟨fun v w' => ∃ k : Nat, v = .int .i64 k ∧ k ≤ i ∧ (∀ j (hj : j < t.ls.length), j < k → t.ls[j].name ≠ t.ls[i].name) ∧ hM.now w', fun v _ => match v with | .int _ k => i - k.toNat | _ => 0, ⟨0, rfl, by omega, fun j _ h => by omega, hM⟩, ?_⟩
          rintro v u5 w6 ⟨k, rfl, hk, hno, hM⟩
          ((with_reducible (refine mop_cS trivial ?_ ?_)))
          · intro hlt2
            have hlt3 : k < t.ls.length := by omega
            ((with_reducible (refine mif_true ?_; refine dp_c trivial ?_; refine dm_ld hM ?_)); (with_reducible refine dp_ixs ‹_› ?_ ?_ ?_); (focus (simp only [List.length_map]; omega)); (focus (simp only [List.length_map]; first | done | omega)); (with_reducible (intro _ _ hA)); (cases hA); (with_reducible (refine dp_c trivial ?_)); (with_reducible refine dm_lds hM ‹_› (map_atI ?_) ?_); (focus omega); (with_reducible (refine dp_c trivial ?_; refine dm_ld hM ?_)))
            ((with_reducible (refine dp_cS trivial ?_ ?_)))
            · intro he
              ((with_reducible (refine mm_end hM ?_; clear hM; intro _ hM; refine mif_true ?_)))
              refine ⟨?_, hM.st⟩
              unfold Tr.right
              rw [hb, hdr, decide_eq_false (show ¬ ((1 ≤ t.ls[i].name ∧ t.ls[i].name ≤ 64) ∧ t.ls[i].name ∉ s) from fun h => h.2 ((hs _ hc.1).2 ⟨k, hlt3, by omega, he⟩))]
              simp
            · intro he
              ((with_reducible (refine mm_end hM ?_; clear hM; intro _ hM; refine mif_false ?_; refine mop_c ?_ ?_)); (focus omega))
              refine ⟨⟨k + 1, rfl, by omega, fun j hj hjk => ?_, hM⟩, by simp only; omega⟩
              rcases Nat.lt_or_ge j k with h6 | h6
              · exact hno j hj h6
              · obtain rfl : j = k := by omega
                exact he
          · intro hge2
            ((with_reducible (refine mif_false ?_)))
            have hns : t.ls[i].name ∉ s := fun hm => by
              obtain ⟨j, hj, h6, e⟩ := (hs _ hc.1).1 hm
              exact hno j hj (by omega) e
            refine ⟨t.ls[i].name :: s, by rw [hb, hdr, decide_eq_true ⟨hc, hns⟩, Bool.true_and], fun x hx => ⟨fun hm => ?_, fun ⟨j, hj, h6, e⟩ => ?_⟩, hM.sub⟩
            · rcases List.mem_cons.1 hm with rfl | hm
              · exact ⟨i, hlt', by omega, rfl⟩
              · obtain ⟨j, hj, h6, e⟩ := (hs _ hx).1 hm
                exact ⟨j, hj, by omega, e⟩
            · rcases Nat.lt_or_ge j i with h7 | h7
              · exact List.mem_cons_of_mem _ ((hs _ hx).2 ⟨j, hj, h7, e⟩)
              · obtain rfl : j = i := by omega
                rw [← e]
                exact List.mem_cons_self ..
        · rw [decide_eq_false hc]
          ((with_reducible (refine mif_nf ?_)))
          refine ⟨?_, hM.st⟩
          unfold Tr.right
          rw [hb, hdr, decide_eq_false (show ¬ ((1 ≤ t.ls[i].name ∧ t.ls[i].name ≤ 64) ∧ t.ls[i].name ∉ s) from fun h => hc h.1)]
          simp
    · clear hM
      rintro u3 w4 ⟨s', hb', hs', hM⟩
      ((with_reducible (refine mop_c ?_ ?_)); (focus omega))
      exact ⟨⟨i + 1, s', rfl, by omega, hb', hs', hM⟩, by simp only; omega⟩
  · intro hge
    have hls : leavesB [] t.ls = true := by
      rw [hb, List.drop_eq_nil_of_le (by omega)]
      rfl
    ((with_reducible (refine mif_false ?_)))
    refine ⟨fun v w' => ∃ i : Nat, v = .int .i64 i ∧ i ≤ t.ps.length ∧ parB t.size t.ls 1 t.ps = parB t.size t.ls (2 * i + 1) (t.ps.drop i) ∧ Mem H w [fb g1 25 (tfd A t.ls.length a B t.ps.length b)] w', fun v _ => match v with | .int _ k => t.ps.length - k.toNat | _ => 0, ⟨0, rfl, by omega, rfl, hM⟩, ?_⟩
    clear hM hi hb hge hs
    rintro v u5 w5 ⟨i, rfl, hi, hb, hM⟩
    ((with_reducible (refine mop_c trivial ?_; refine mm_ld hM ?_; refine mop_c trivial ?_)))
    ((with_reducible (refine mop_cS trivial ?_ ?_)))
    · intro hlt
      obtain ⟨p, hpe⟩ : ∃ p, t.ps[i] = p := ⟨_, rfl⟩
      obtain ⟨q, hq1, C, c, rfl, hC, hcl⟩ := h3.at_ (i := i) (by omega)
      have hdr := parB_drop (n := t.size) (ls := t.ls) (x := 2 * i + 1) (ps := t.ps) (i := i) (by omega)
      rw [hpe] at hq1 hC hcl hdr
      have hcl' : p.loose.length ≤ 9223372036854775807 := hcl
      ((with_reducible (refine mif_true ?_; refine mop_c trivial ?_; refine mm_ld hM ?_)))
      refine mm_ixs h2 (by omega) hq.symm (fun bb oo hB => ?_)
      cases hB
      refine mm_lds0 hM h2 hq1 ?_
      ((with_reducible (refine mm_new hM ?_; clear hM; intro _ _ hM; refine mm_st hM ?_; clear hM; intro _ hM)))
      rename_i g3 _ _
      refine ⟨fun v w' => v = .bool (!(p.set || decide p.isZero)) ∧ hM.now w', ?_, ?_⟩
      · ((with_reducible (refine mop_c trivial ?_; refine mm_ld hM ?_; refine mop_c trivial ?_)))
        rcases Bool.eq_false_or_eq_true p.set with hs | hs
        rotate_left
        · have e : (!p.set) = true := by rw [hs]; rfl
          rw [e]
          ((with_reducible (refine mguard_yes ?_; refine mop_c trivial ?_; refine mguard_yes ?_; refine mm_ld hM ?_; refine mguard_yes ?_; refine mop_c trivial ?_; refine mguard_yes ?_)))
          ((with_reducible (refine mop_cS trivial ?_ ?_)))
          · intro h1
            ((with_reducible (refine mguard_yes ?_; refine mop_c trivial ?_; (iterate 4 refine mguard_n1 ?_); refine mguard_yes ?_; refine mop_c trivial ?_; refine mguard_yes ?_; refine mop_c trivial ?_; (iterate 4 refine mguard_n1 ?_); refine mguard_yes ?_; refine mop_c trivial ?_; refine mop_c trivial ?_)))
            exact ⟨by rw [hs, Bool.false_or, decide_eq_false (show ¬ p.isZero from fun h => h1 h.2.1)]; rfl, hM⟩
          · intro h1
            ((with_reducible (refine mguard_yes ?_; refine mop_c trivial ?_; refine mguard_yes ?_; refine mop_c trivial ?_; refine mguard_yes ?_; refine mm_ld hM ?_; refine mguard_yes ?_; refine mop_c trivial ?_; refine mguard_yes ?_)))
            ((with_reducible (refine mop_cS trivial ?_ ?_)))
            · intro h2
              ((with_reducible (refine mguard_yes ?_; refine mop_c trivial ?_; refine mguard_yes ?_; refine mop_c trivial ?_; (iterate 4 refine mguard_n1 ?_); refine mguard_yes ?_; refine mop_c trivial ?_; refine mop_c trivial ?_)))
              exact ⟨by rw [hs, Bool.false_or, decide_eq_false (show ¬ p.isZero from fun h => h2 h.2.2.1)]; rfl, hM⟩
            · intro h2
              ((with_reducible (refine mguard_yes ?_; refine mop_c trivial ?_; refine mguard_yes ?_; refine mop_c trivial ?_; refine mguard_yes ?_; refine mop_c trivial ?_; refine mguard_yes ?_; refine mm_ld hM ?_; refine mguard_yes ?_; refine mop_c trivial ?_; refine mguard_yes ?_)))
              ((with_reducible (refine mop_cS trivial ?_ ?_)))
              · intro h3
                ((with_reducible (refine mguard_yes ?_; refine mop_c trivial ?_; refine mop_c trivial ?_)))
                exact ⟨by rw [hs, Bool.false_or, decide_eq_false (show ¬ p.isZero from fun h => by rw [h.2.2.2] at h3; simp at h3)]; rfl, hM⟩
              · intro h3
                ((with_reducible (refine mguard_yes ?_; refine mop_c trivial ?_; refine mop_c trivial ?_)))
                exact ⟨by rw [hs, Bool.false_or, decide_eq_true (show p.isZero from ⟨hs, Decidable.not_not.1 h1, Decidable.not_not.1 h2, List.eq_nil_of_length_eq_zero (by omega)⟩)]; rfl, hM⟩
        · have e : (!p.set) = false := by rw [hs]; rfl
          rw [e]
          ((with_reducible ((iterate 5 refine mguard_n2 ?_); (iterate 4 refine mguard_un ?_); refine mguard_n2 ?_; refine mguard_n2 ?_; (iterate 4 refine mguard_un ?_); refine mguard_n2 ?_; refine mop_c trivial ?_)))
          exact ⟨by rw [hs, Bool.true_or]; rfl, hM⟩
      rintro v u6 w6 ⟨rfl, hM⟩
      cases hz : (p.set || decide p.isZero)
      · rw [Bool.not_false]
        ((with_reducible (refine mif_true ?_)))
        refine ⟨?_, hM.st⟩
        unfold Tr.right
        rw [hb, hdr, hz]
        simp
      rw [hz, Bool.true_and] at hdr
      rw [Bool.not_true]
      ((with_reducible (refine mif_false ?_)))
      refine ⟨fun v w' => ∃ k : Nat, v = .int .i64 k ∧ k ≤ p.loose.length ∧ looseB t.size t.ls (2 * i + 1) none p.loose = looseB t.size t.ls (2 * i + 1) (prv p.loose k) (p.loose.drop k) ∧ hM.now w', fun v _ => match v with | .int _ k => p.loose.length - k.toNat | _ => 0, ⟨0, rfl, by omega, rfl, hM⟩, ?_⟩
      rintro v u7 w7 ⟨k, rfl, hk, hlb, hM⟩
      ((with_reducible (refine mop_c trivial ?_; refine mm_ld hM ?_; refine mop_c trivial ?_)))
      ((with_reducible (refine mop_cS trivial ?_ ?_)))
      · intro hlt2
        obtain ⟨x, hx⟩ : ∃ x, p.loose[k] = x := ⟨_, rfl⟩
        have hdl := looseB_drop (n := t.size) (ls := t.ls) (x := 2 * i + 1) (o := prv p.loose k) (l := p.loose) (i := k) (by omega)
        rw [hx] at hdl
        ((with_reducible (refine mif_true ?_; refine mop_c trivial ?_; refine mm_ld hM ?_)); (with_reducible refine mm_ixs ‹_› ?_ ?_ ?_); (focus (simp only [List.length_map]; omega)); (focus (simp only [List.length_map]; first | done | omega)); (with_reducible (intro _ _ hA)); (cases hA); (with_reducible refine mm_lds0 hM ‹_› (map_atI ?_) ?_); (focus omega))
        rw [hx]
        refine ⟨fun v w' => v = .bool (!decide (hld t.size (2 * i + 1) x ∧ nameAt t.ls x ≠ 0 ∧ ∀ q ∈ prv p.loose k, q < x)) ∧ hM.now w', ?_, ?_⟩
        · ((with_reducible (refine mop_c ?_ ?_)); (focus omega); (with_reducible (refine mop_c ?_ ?_)); (focus omega); (with_reducible (refine mm_purC hM ?_ (fun _ hM2 => ?_))); (focus (first | exact trivial | assumption | omega)); (with_reducible (replace hM := hM2; clear hM2; refine mop_c trivial ?_)))
          by_cases hh : hld t.size (2 * i + 1) x
          · obtain ⟨r1, r2, -⟩ := hld_rng hh
            have hna := nameAt_at (ls := t.ls) (p := x) r1 (by omega)
            rw [decide_eq_true hh, Bool.not_true]
            ((with_reducible (refine mguard_yes ?_; refine mop_c trivial ?_; refine mguard_yes ?_; refine mm_ld hM ?_; refine mguard_yes ?_; refine mop_c trivial ?_; refine mguard_yes ?_)); (with_reducible refine mm_ixs ‹_› ?_ ?_ ?_); (focus (simp only [List.length_map]; omega)); (focus (simp only [List.length_map]; first | done | omega)); (with_reducible (intro _ _ hA)); (cases hA); (with_reducible (refine mguard_yes ?_; refine mop_c trivial ?_; refine mguard_yes ?_)); (with_reducible refine mm_lds hM ‹_› (map_at ?_) ?_); (focus omega); (with_reducible (refine mguard_yes ?_)))
            rw [← hna]
            ((with_reducible (refine mop_cS trivial ?_ ?_)))
            · intro h5
              ((with_reducible (refine mop_c trivial ?_; (iterate 3 refine mguard_n1 ?_); (iterate 8 refine mguard_un ?_); refine mguard_n1 ?_; refine mop_c trivial ?_)))
              exact ⟨by rw [decide_eq_false (fun h => h.2.1 h5)]; rfl, hM⟩
            · intro h5
              cases k with
              | zero =>
                ((with_reducible (refine mop_c trivial ?_; refine mguard_yes ?_; refine mop_c trivial ?_; refine mguard_yes ?_; refine mop_cF trivial ?_ ?_)); (focus (first | assumption | omega | with_reducible rfl | exact fun h => Bool.noConfusion h)); (with_reducible (refine mguard_yes ?_; refine mop_c trivial ?_; (iterate 8 refine mguard_n2 ?_); refine mguard_yes ?_; refine mop_c trivial ?_; refine mop_c trivial ?_)))
                exact ⟨by rw [decide_eq_true ⟨hh, h5, by simp [prv]⟩]; rfl, hM⟩
              | succ k =>
                have hix : (((k + 1 : Nat) : Int) - 1).toNat = k := by omega
                have hpv : prv p.loose (k + 1) = some p.loose[k] := List.getElem?_eq_getElem (by omega)
                ((with_reducible (refine mop_c trivial ?_; refine mguard_yes ?_; refine mop_c trivial ?_; refine mguard_yes ?_; refine mop_cT trivial ?_ ?_)); (focus (first | assumption | omega | with_reducible rfl | exact fun h => Bool.noConfusion h)); (with_reducible (refine mguard_yes ?_; refine mop_c trivial ?_; refine mguard_yes ?_; refine mop_c trivial ?_; refine mguard_yes ?_; refine mm_ld hM ?_; refine mguard_yes ?_; refine mop_c trivial ?_; refine mguard_yes ?_; refine mop_c ?_ ?_)); (focus omega); (with_reducible (refine mguard_yes ?_)); (with_reducible refine mm_ixs ‹_› ?_ ?_ ?_); (focus (simp only [List.length_map]; omega)); (focus (simp only [List.length_map]; first | done | omega)); (with_reducible (intro _ _ hA)); (cases hA); (with_reducible (refine mguard_yes ?_)); (with_reducible refine mm_lds0 hM ‹_› (map_at ?_) ?_); (focus omega); (with_reducible (refine mguard_yes ?_; refine mop_c trivial ?_; refine mguard_yes ?_)))
                ((with_reducible (refine mop_cS trivial ?_ ?_)))
                · intro h6
                  simp only [hix] at h6
                  ((with_reducible (refine mguard_yes ?_; refine mop_c trivial ?_; refine mop_c trivial ?_)))
                  exact ⟨by rw [decide_eq_false (fun h => by have := h.2.2 _ hpv; omega)]; rfl, hM⟩
                · intro h6
                  simp only [hix] at h6
                  ((with_reducible (refine mguard_yes ?_; refine mop_c trivial ?_; refine mop_c trivial ?_)))
                  exact ⟨by rw [decide_eq_true ⟨hh, h5, fun q hq => by rw [hpv] at hq; cases hq; omega⟩]; rfl, hM⟩
          · rw [decide_eq_false hh, Bool.not_false]
            ((with_reducible ((iterate 7 refine mguard_n1 ?_); refine mop_c trivial ?_; (iterate 3 refine mguard_n1 ?_); (iterate 8 refine mguard_un ?_); refine mguard_n1 ?_; refine mop_c trivial ?_)))
            exact ⟨by rw [decide_eq_false (fun h => hh h.1)]; rfl, hM⟩
        rintro v u8 w8 ⟨rfl, hM⟩
        by_cases hc : hld t.size (2 * i + 1) x ∧ nameAt t.ls x ≠ 0 ∧ ∀ q ∈ prv p.loose k, q < x
        · rw [decide_eq_true hc, Bool.not_true]
          rw [decide_eq_true hc, Bool.true_and] at hdl
          ((with_reducible (refine mif_false ?_; refine mop_c ?_ ?_)); (focus omega))
          refine ⟨⟨k + 1, rfl, by omega, ?_, hM⟩, by simp only; omega⟩
          rw [hlb, hdl, prv, List.getElem?_eq_getElem (by omega), hx]
        · rw [decide_eq_false hc, Bool.not_false]
          ((with_reducible (refine mif_true ?_)))
          refine ⟨?_, hM.st⟩
          unfold Tr.right
          rw [hb, hdr, hlb, hdl, decide_eq_false hc]
          simp
      · intro hge2
        have hl2 : looseB t.size t.ls (2 * i + 1) none p.loose = true := by
          rw [hlb, List.drop_eq_nil_of_le (by omega)]
          rfl
        rw [hl2, Bool.true_and] at hdr
        ((with_reducible (refine mif_false ?_; refine mop_c ?_ ?_)); (focus omega))
        refine ⟨⟨i + 1, rfl, by omega, ?_, hM.sub⟩, by simp only; omega⟩
        rw [hb, hdr]
        congr 1
    · intro hge
      have hps : parB t.size t.ls 1 t.ps = true := by
        rw [hb, List.drop_eq_nil_of_le (by omega)]
        rfl
      have hR : t.right = decide (t.ls = [] ∨ 0 < nameAt t.ls (t.size - 1)) := by
        unfold Tr.right
        rw [hls, hps, decide_eq_true hsz]
        simp
      ((with_reducible (refine mif_false ?_)))
      ((with_reducible (refine mop_cS trivial ?_ ?_)))
      · intro h0
        ((with_reducible ((iterate 8 refine mguard_n1 ?_); refine mop_c trivial ?_)))
        exact ⟨by rw [hR, decide_eq_true (.inl (List.eq_nil_of_length_eq_zero (by omega)))], hM.st⟩
      · intro h0
        ((with_reducible (refine mguard_yes ?_; refine mop_c trivial ?_; refine mguard_yes ?_; refine mm_ld hM ?_; refine mguard_yes ?_; refine mop_c trivial ?_; refine mguard_yes ?_; refine mop_c ?_ ?_)); (focus omega); (with_reducible (refine mguard_yes ?_)); (with_reducible refine mm_ixs ‹_› ?_ ?_ ?_); (focus (simp only [List.length_map]; omega)); (focus (simp only [List.length_map]; first | done | omega)); (with_reducible (intro _ _ hA)); (cases hA); (with_reducible (refine mguard_yes ?_; refine mop_c trivial ?_; refine mguard_yes ?_)); (with_reducible refine mm_lds hM ‹_› (map_at ?_) ?_); (focus omega); (with_reducible (refine mguard_yes ?_)))
        have hna := nameAt_at (ls := t.ls) (p := (t.ls.length : Int) - 1) (by omega) (by omega)
        have hnn : 0 ≤ t.ls[((t.ls.length : Int) - 1).toNat].name := by
          rcases leavesB_spec hls _ (List.getElem_mem (show ((t.ls.length : Int) - 1).toNat < t.ls.length by omega)) with h | h
          · rw [h]
            simp [Lf.zero]
          · omega
        rw [← hna] at hnn ⊢
        ((with_reducible (refine mop_cS trivial ?_ ?_)))
        · intro h9
          ((with_reducible (refine mop_c trivial ?_)))
          exact ⟨by rw [hR, decide_eq_true (.inr (by rw [hts]; omega))], hM.st⟩
        · intro h9
          ((with_reducible (refine mop_c trivial ?_)))
          exact ⟨by rw [hR, decide_eq_false (fun h => h.elim (fun h => h0 (by rw [h]; rfl)) (fun h => by rw [hts] at h; omega))], hM.st⟩
end
end Go.Proofs.YtopcnkejobomaaaGreat
namespace Go.Proofs.YtopcnkejobomaaaGreat
open Go.RowKit Go.Lib
theorem Mem.join {H H' : Hp} {w0 w w' : World} {L L' : List Res} (h : Mem H w0 L w) (hc : Mem H' w L' w') (hn : ∀ b, b < w.heap.size → H b = none → H' b = none) : Mem H' w0 (L' ++ L) w' := by
  obtain ⟨B, hl, hs, hb⟩ := h.own
  obtain ⟨B1, hl1, hs1, hb1⟩ := hc.own
  refine ⟨⟨B1 ++ B, Hl.app.2 ⟨B1, B, rfl, hl1, hl⟩, ?_, fun b hm => ?_⟩, hc.fz⟩
  · exact St.call (A := []) (B' := B1) hs hs1 rfl rfl rfl (fun b hm => .inl (hb1 b hm).1) (fun b hm hn => .inr ⟨b, hm, hn, rfl⟩) (fun _ hm => by cases hm)
  · rcases List.mem_append.1 hm with hm | hm
    · exact hb1 b hm
    · exact ⟨(hb b hm).1, hn _ (hs.own b hm).lt (hb b hm).2⟩
def putD (l : List Int) (x : Int) (d : Bool) : List Int := if d = true then l else putL l x
theorem putL_nil (x : Int) : putL [] x = [x] := rfl
theorem putL_cons (y : Int) (r : List Int) (x : Int) : putL (y :: r) x = if y ≤ x then y :: putL r x else x :: y :: r := by
  unfold putL
  rw [List.takeWhile_cons, List.dropWhile_cons]
  by_cases h : y ≤ x
  · rw [decide_eq_true h, if_pos h]
    rfl
  · rw [decide_eq_false h, if_neg h]
    rfl
theorem putL_len (l : List Int) (x : Int) : (putL l x).length = l.length + 1 := by
  induction l with
  | nil => rfl
  | cons y r ih =>
    rw [putL_cons]
    split <;> simp [ih]
section
variable {H : Hp} {w0 w : World} {L R : List Res} {A B C : Option Addr} {a b c n : Nat} {t : Tr} {qs ps : List (List Fd)}
theorem rplace_ok (x : Int) (h1 : Sl H 97 A (t.ls.map Lf.fds)) (hl : t.ls.length ≤ maxLen) (hf : Fz H w) :
    Calls Tryz.prog 16 #[tv A t.ls.length a B n b, .int .i64 x] w fun en w' => en = .returned (.int .i64 (t.place x)) ∧ St w [] w' := by
  have hM := Mem.start hf
  have hl' : t.ls.length ≤ 9223372036854775807 := hl
  refine C_bevyref08_Place ?_
  unfold F_bevyref08_Place
  ((with_reducible (refine mm_box hM ?_; clear hM; intro _ _ hM)))
  refine ⟨fun v w' => ∃ i : Nat, v = .int .i64 i ∧ i ≤ t.ls.length ∧ (∀ j (hj : j < t.ls.length), j < i → decide (t.ls[j].name = x) = false) ∧ hM.now w', fun v _ => match v with | .int _ k => t.ls.length - k.toNat | _ => 0, ⟨0, rfl, by omega, fun j _ h => by omega, hM⟩, ?_⟩
  rintro v u w3 ⟨i, rfl, hi, hlo, hM⟩
  unfold Tr.place
  refine ⟨fun w' => i < t.ls.length ∧ 0 < x ∧ hM.now w', ?_, ?_⟩
  · ((with_reducible (refine mop_c trivial ?_; refine mm_ld hM ?_; refine mop_c trivial ?_)))
    ((with_reducible (refine mop_cS trivial ?_ ?_)))
    · intro hlt
      ((with_reducible (refine mguard_yes ?_; refine mop_c trivial ?_; refine mguard_yes ?_)))
      ((with_reducible (refine mop_cS trivial ?_ ?_)))
      · intro hx
        ((with_reducible (refine mop_c trivial ?_; refine mif_true ?_)))
        exact ⟨by omega, by omega, hM⟩
      · intro hx
        ((with_reducible (refine mop_c trivial ?_; refine mif_false ?_)))
        exact ⟨by rw [if_pos (by omega)], hM.st⟩
    · intro hge
      ((with_reducible (refine mguard_n2 ?_; refine mguard_n2 ?_; refine mop_c trivial ?_; refine mif_false ?_)))
      refine ⟨?_, hM.st⟩
      rw [fix_none fun j hj => hlo j hj (by omega)]
      split <;> rfl
  rintro u4 w4 ⟨hlt, hx, hM⟩
  ((with_reducible (refine mop_c trivial ?_; refine mm_ld hM ?_)); (with_reducible refine mm_ixs ‹_› ?_ ?_ ?_); (focus (simp only [List.length_map]; omega)); (focus (simp only [List.length_map]; first | done | omega)); (with_reducible (intro _ _ hA)); (cases hA); (with_reducible (refine mop_c trivial ?_)); (with_reducible refine mm_lds hM ‹_› (map_atI ?_) ?_); (focus omega))
  ((with_reducible (refine mop_cS trivial ?_ ?_)))
  · intro h
    ((with_reducible (refine mif_true ?_)))
    exact ⟨by rw [if_neg (by omega), fix_at hlt hlo (decide_eq_true h)], hM.st⟩
  · intro h
    ((with_reducible (refine mif_false ?_; refine mop_c ?_ ?_)); (focus omega))
    refine ⟨⟨i + 1, rfl, by omega, fun j hj hji => ?_, hM⟩, by simp only; omega⟩
    rcases Nat.lt_or_ge j i with h2 | h2
    · exact hlo j hj h2
    · obtain rfl : j = i := by omega
      exact decide_eq_false h
theorem rnone_ok (p : Int) (h1 : Sl H 97 A (t.ls.map Lf.fds)) (hl : t.ls.length ≤ maxLen) (hf : Fz H w) : Calls Tryz.prog 157 #[tv A t.ls.length a B n b, .int .i64 p] w fun en w' => en = .returned (.bool (decide (t.nobody p))) ∧ St w [] w' := by
  have hM := Mem.start hf
  have hl' : t.ls.length ≤ 9223372036854775807 := hl
  refine C_bevyref08_None ?_
  unfold F_bevyref08_None
  ((with_reducible (refine mm_box hM ?_; clear hM; intro _ _ hM)))
  ((with_reducible (refine mop_cS trivial ?_ ?_)))
  · intro h
    ((with_reducible ((iterate 5 refine mguard_n1 ?_); refine mop_c trivial ?_; (iterate 7 refine mguard_n1 ?_); refine mop_c trivial ?_)))
    exact ⟨by rw [decide_eq_true (show t.nobody p from .inl (.inl h))], hM.st⟩
  · intro h
    ((with_reducible (refine mguard_yes ?_; refine mop_c trivial ?_; refine mguard_yes ?_; refine mop_c trivial ?_; refine mguard_yes ?_; refine mm_ld hM ?_; refine mguard_yes ?_; refine mop_c trivial ?_; refine mguard_yes ?_)))
    ((with_reducible (refine mop_cS trivial ?_ ?_)))
    · intro h2
      ((with_reducible (refine mop_c trivial ?_; (iterate 7 refine mguard_n1 ?_); refine mop_c trivial ?_)))
      exact ⟨by rw [decide_eq_true (show t.nobody p from .inl (.inr h2))], hM.st⟩
    · intro h2
      have h3 : p.toNat < t.ls.length := by omega
      have h4 := nameAt_at (ls := t.ls) (p := p) (by omega) h3
      ((with_reducible (refine mop_c trivial ?_; refine mguard_yes ?_; refine mop_c trivial ?_; refine mguard_yes ?_; refine mm_ld hM ?_; refine mguard_yes ?_; refine mop_c trivial ?_; refine mguard_yes ?_)); (with_reducible refine mm_ixs ‹_› ?_ ?_ ?_); (focus (simp only [List.length_map]; omega)); (focus (simp only [List.length_map]; first | done | omega)); (with_reducible (intro _ _ hA)); (cases hA); (with_reducible (refine mguard_yes ?_; refine mop_c trivial ?_; refine mguard_yes ?_)); (with_reducible refine mm_lds hM ‹_› (map_at ?_) ?_); (focus omega); (with_reducible (refine mguard_yes ?_)))
      rw [← h4]
      ((with_reducible (refine mop_cS trivial ?_ ?_)))
      · intro h5
        ((with_reducible (refine mop_c trivial ?_)))
        exact ⟨by rw [decide_eq_true (show t.nobody p from .inr h5)], hM.st⟩
      · intro h5
        ((with_reducible (refine mop_c trivial ?_)))
        exact ⟨by rw [decide_eq_false (show ¬ t.nobody p from fun k => k.elim (fun k => k.elim h h2) h5)], hM.st⟩
theorem rcopy_ok (h1 : Sl H 97 A (t.ls.map Lf.fds)) (h2 : Sl H 66 B qs) (h3 : All2 (PnF H) qs t.ps) (hl : t.ls.length ≤ 1000) (hp : t.ps.length ≤ 1000) (hlo : ∀ p ∈ t.ps, p.loose.length ≤ 1000) (hM : Mem H w0 L w) :
    Calls Tryz.prog 141 #[tv A t.ls.length a B t.ps.length b] w fun en w' => ∃ v, en = .returned v ∧ ∃ A' a' B' b' X, v = tv A' t.ls.length a' B' t.ps.length b' ∧ X.map (·.1) = t.ps ∧
      Mem H w0 (rowR 57 97 A' t.ls.length a' (t.ls.map Lf.fds) :: rowR 61 66 B' t.ps.length b' (X.map xrow) :: allR X :: L) w' := by
  have hq : qs.length = t.ps.length := h3.len
  refine C_bevyref08_Copy ?_
  unfold F_bevyref08_Copy
  ((with_reducible (refine mm_box hM ?_; clear hM; intro _ _ hM; refine mm_new hM ?_; clear hM; intro _ _ hM; refine mop_c trivial ?_; refine mm_new hM ?_; clear hM; intro _ _ hM; refine mm_st hM ?_; clear hM; intro _ hM)))
  rename_i g1 _ g2 _ g3 _ _
  have h0 : Mem H w0 (rowR 57 97 none 0 0 ((t.ls.take 0).map Lf.fds) :: _) _ := hM.row0 57 97
  refine ⟨fun v w' => ∃ (i : Nat) (A' : Option Addr) (a' : Nat), v = .int .i64 i ∧ i ≤ t.ls.length ∧ Mem H w0 (fb g3 25 (tfd A' i a' none 0 0) :: fb g2 25 (tfd none 0 0 none 0 0) :: fb g1 25 (tfd A t.ls.length a B t.ps.length b) :: rowR 57 97 A' i a' ((t.ls.take i).map Lf.fds) :: L) w', fun v _ => match v with | .int _ k => t.ls.length - k.toNat | _ => 0, ⟨0, none, 0, rfl, by omega, h0.same⟩, ?_⟩
  clear hM h0
  rintro v u w3 ⟨i, A', a', rfl, hi, hM⟩
  ((with_reducible (refine mop_c trivial ?_; refine mm_ld hM ?_; refine mop_c trivial ?_)))
  ((with_reducible (refine mop_cS trivial ?_ ?_)))
  · intro hlt
    have hlt' : i < t.ls.length := by omega
    ((with_reducible (refine mif_true ?_; refine dp_c trivial ?_; refine dm_ld hM ?_; refine dp_c trivial ?_; refine dm_ld hM ?_)); (with_reducible refine dp_ixs ‹_› ?_ ?_ ?_); (focus (simp only [List.length_map]; omega)); (focus (simp only [List.length_map]; first | done | omega)); (with_reducible (intro _ _ hA)); (cases hA); (with_reducible refine dm_lds0 hM ‹_› (map_atI ?_) ?_); (focus omega); (with_reducible (refine dS_bsl hM ?_ ?_ ?_)); (focus rfl); (focus (constructor <;> simp)); (with_reducible (clear hM; intro _ _ hM; refine dS_appF hM ?_ ?_)); (focus omega); (with_reducible (clear hM; intro _ _ _ hM; refine dp_c trivial ?_; refine dS_st hM ?_; clear hM; intro _ hM; refine mm_end hM ?_; clear hM; intro _ hM; refine mop_c ?_ ?_)); (focus omega))
    rename_i A3 c3 _ _ _
    have e : (t.ls.take i).map Lf.fds ++ [t.ls[i].fds] = (t.ls.take (i + 1)).map Lf.fds := by
      rw [List.take_succ_eq_append_getElem hlt', List.map_append]
      rfl
    rw [e] at hM
    exact ⟨⟨i + 1, A3, c3, rfl, by omega, hM.same⟩, by simp only; omega⟩
  · intro hge
    obtain rfl : i = t.ls.length := by omega
    rw [List.take_length] at hM
    ((with_reducible (refine mif_false ?_)))
    have h0 : Mem H w0 (rowR 61 66 none 0 0 (([] : List Xp).map xrow) :: _) _ := hM.row0 61 66
    refine ⟨fun v w' => ∃ (j : Nat) (B' : Option Addr) (b' : Nat) (X : List Xp), v = .int .i64 j ∧ j ≤ t.ps.length ∧ X.map (·.1) = t.ps.take j ∧ Mem H w0 (fb g3 25 (tfd A' t.ls.length a' B' j b') :: fb g2 25 (tfd none 0 0 none 0 0) :: fb g1 25 (tfd A t.ls.length a B t.ps.length b) :: rowR 57 97 A' t.ls.length a' (t.ls.map Lf.fds) :: rowR 61 66 B' j b' (X.map xrow) :: allR X :: L) w', fun v _ => match v with | .int _ k => t.ps.length - k.toNat | _ => 0, ⟨0, none, 0, [], rfl, by omega, rfl, h0.all0.same⟩, ?_⟩
    clear hM h0
    rintro v u2 w4 ⟨j, B', b', X, rfl, hj, hX, hM⟩
    ((with_reducible (refine mop_c trivial ?_; refine mm_ld hM ?_; refine mop_c trivial ?_)))
    ((with_reducible (refine mop_cS trivial ?_ ?_)))
    · intro hlt
      have hlt' : j < t.ps.length := by omega
      obtain ⟨q, hq1, C, c, rfl, hC, hcl⟩ := h3.at_ (i := j) hlt'
      obtain ⟨p, hpe⟩ : ∃ p, t.ps[j] = p := ⟨_, rfl⟩
      have hpl := hlo p (hpe ▸ List.getElem_mem _)
      rw [hpe] at hq1 hC
      ((with_reducible (refine mif_true ?_; refine mop_c trivial ?_; refine mm_ld hM ?_)))
      refine mm_ixs h2 (by omega) hq.symm (fun bb oo hB => ?_)
      cases hB
      refine mm_lds0 hM h2 hq1 ?_
      ((with_reducible (refine mm_new hM ?_; clear hM; intro _ _ hM; refine mm_st hM ?_; clear hM; intro _ hM; refine mop_c trivial ?_; refine mm_ld hM ?_; refine mop_c trivial ?_; refine mm_st hM ?_; clear hM; intro _ hM)))
      rename_i g6 _ _ _
      have h0 : Mem H w0 (rowR 3 1 none 0 0 (ints8 (p.loose.take 0)) :: _) _ := hM.row0 3 1
      refine ⟨fun v w' => ∃ (k : Nat) (C' : Option Addr) (c' : Nat), v = .int .i64 k ∧ k ≤ p.loose.length ∧ Mem H w0 (fb g6 61 [.one (.bool p.set), .arr 32 (u8s p.pub.1), .arr 32 (u8s p.abv.1), .one (.slice C' k c')] :: rowR 3 1 C' k c' (ints8 (p.loose.take k)) :: fb g3 25 (tfd A' t.ls.length a' B' j b') :: fb g2 25 (tfd none 0 0 none 0 0) :: fb g1 25 (tfd A t.ls.length a (some ⟨bb, oo, none⟩) t.ps.length b) :: rowR 57 97 A' t.ls.length a' (t.ls.map Lf.fds) :: rowR 61 66 B' j b' (X.map xrow) :: allR X :: L) w', fun v _ => match v with | .int _ k => p.loose.length - k.toNat | _ => 0, ⟨0, none, 0, rfl, by omega, h0.same⟩, ?_⟩
      clear hM h0
      rintro v u3 w5 ⟨k, C', c', rfl, hk, hM⟩
      ((with_reducible (refine mop_c trivial ?_)))
      ((with_reducible (refine mop_cS trivial ?_ ?_)))
      · intro hlt2
        have hlt3 : k < p.loose.length := by omega
        have e1 := ints8_at (l := p.loose) (i := k) hlt3
        ((with_reducible (refine mif_true ?_; refine dp_c trivial ?_; refine dm_ld hM ?_)); (with_reducible refine dp_ixs ‹_› ?_ ?_ ?_); (focus (simp only [List.length_map]; omega)); (focus (simp only [List.length_map]; first | done | omega)); (with_reducible (intro _ _ hA)); (cases hA); (with_reducible refine dm_lds0 hM ‹_› (map_atI ?_) ?_); (focus omega); (with_reducible (refine dS_bsl hM ?_ ?_ ?_)); (focus rfl); (focus (constructor <;> simp)); (with_reducible (clear hM; intro _ _ hM; refine dS_appF hM ?_ ?_)); (focus omega); (with_reducible (clear hM; intro _ _ _ hM; refine dp_c trivial ?_; refine dS_st hM ?_; clear hM; intro _ hM; refine mm_end hM ?_; clear hM; intro _ hM; refine mop_c ?_ ?_)); (focus omega))
        rename_i A3 c3 _ _ _
        have e : ints8 (p.loose.take k) ++ [[.one (.int .i64 p.loose[k])]] = ints8 (p.loose.take (k + 1)) := by
          rw [List.take_succ_eq_append_getElem hlt3, ints8_app]
          rfl
        rw [e] at hM
        exact ⟨⟨k + 1, A3, c3, rfl, by omega, hM.same⟩, by simp only; omega⟩
      · intro hge2
        obtain rfl : k = p.loose.length := by omega
        rw [List.take_length] at hM
        ((with_reducible (refine mif_false ?_; refine mop_c trivial ?_; refine mm_ld hM ?_; refine mm_ld hM ?_; refine mm_bsl hM ?_ ?_ ?_)); (focus rfl); (focus (constructor <;> simp)); (with_reducible (clear hM; intro _ _ hM; refine mm_appo hM ?_ ?_)); (focus omega); (with_reducible (clear hM; intro _ _ _ hM; refine mop_c trivial ?_; refine mm_st hM ?_; clear hM; intro _ hM; refine mop_c ?_ ?_)); (focus omega))
        rename_i A3 c3 _ _
        have e : X.map xrow ++ [[.one (.bool p.set), .arr 32 (u8s p.pub.1), .arr 32 (u8s p.abv.1), .one (.slice C' p.loose.length c')]] = (X ++ [(p, C', c')]).map xrow := by simp
        rw [e] at hM
        have hM : Mem H w0 (allR X :: xres (p, C', c') :: fb g3 25 (tfd A' t.ls.length a' A3 (j + 1) c3) :: fb g2 25 (tfd none 0 0 none 0 0) :: fb g1 25 (tfd A t.ls.length a (some ⟨bb, oo, none⟩) t.ps.length b) :: rowR 57 97 A' t.ls.length a' (t.ls.map Lf.fds) :: rowR 61 66 A3 (j + 1) c3 ((X ++ [(p, C', c')]).map xrow) :: L) _ := hM.sub
        refine ⟨⟨j + 1, A3, c3, X ++ [(p, C', c')], rfl, by omega, ?_, hM.addk.same⟩, by simp only; omega⟩
        rw [List.map_append, hX, List.take_succ_eq_append_getElem hlt', hpe]
        rfl
    · intro hge2
      obtain rfl : j = t.ps.length := by omega
      rw [List.take_length] at hX
      ((with_reducible (refine mif_false ?_; refine mm_ld hM ?_; refine mm_st hM ?_; clear hM; intro _ hM; refine rm_ld hM ?_)))
      exact ⟨_, rfl, _, _, _, _, _, rfl, hX, hM.sub⟩
theorem rput_ok (l : List Int) (x : Int) (hl : l.length ≤ 1000) (hs : Sl H 1 A (ints8 l)) (hf : Fz H w) :
    Calls Tryz.prog 159 #[.slice A l.length a, .int .i64 x] w fun en w' => ∃ v, en = .returned v ∧ ∃ A' a', v = .slice A' (putL l x).length a' ∧ Mem H w [rowR 3 1 A' (putL l x).length a' (ints8 (putL l x))] w' := by
  have hM := Mem.start hf
  refine C_bevyref08_put ?_
  unfold F_bevyref08_put
  have h0 : Mem H w [rowR 3 1 none 0 0 (ints8 [])] _ := hM.row0 3 1
  refine ⟨fun v u y w' => ∃ (i : Nat) (d : Bool) (o : List Int) (C : Option Addr) (c : Nat), v = .slice C o.length c ∧ u = .bool d ∧ y = .int .i64 i ∧ i ≤ l.length ∧ o.length ≤ i + d.toNat ∧ putL l x = o ++ putD (l.drop i) x d ∧ Mem H w [rowR 3 1 C o.length c (ints8 o)] w', fun _ _ y _ => match y with | .int _ k => l.length - k.toNat | _ => 0, ⟨0, false, [], none, 0, rfl, rfl, rfl, by omega, by simp, rfl, h0⟩, ?_⟩
  clear hM h0
  rintro v u y u2 w2 ⟨i, d, o, C, c, rfl, rfl, rfl, hi, ho, he, hM⟩
  have hd1 : d.toNat ≤ 1 := Bool.toNat_le d
  ((with_reducible (refine mop_c trivial ?_)))
  ((with_reducible (refine mop_cS trivial ?_ ?_)))
  · intro hlt
    have hlt' : i < l.length := by omega
    have e1 := ints8_at (l := l) (i := i) hlt'
    have hdr : l.drop i = l[i] :: l.drop (i + 1) := List.drop_eq_getElem_cons hlt'
    ((with_reducible (refine mif_true ?_)))
    refine ⟨fun v u w' => ∃ (d' : Bool) (o' : List Int) (C' : Option Addr) (c' : Nat), v = .slice C' o'.length c' ∧ u = .bool d' ∧ o'.length ≤ i + d'.toNat ∧ putL l x = o' ++ l[i] :: putD (l.drop (i + 1)) x d' ∧ Mem H w [rowR 3 1 C' o'.length c' (ints8 o')] w', ?_, ?_⟩
    · skip
      refine ⟨fun v w' => v = .bool (!d && decide (x < l[i])) ∧ hM.now w', ?_, ?_⟩
      · ((with_reducible (refine mop_c trivial ?_)))
        cases d
        · rw [Bool.not_false]
          ((with_reducible (refine mguard_yes ?_; refine mop_c trivial ?_; refine mguard_yes ?_; refine mop_c trivial ?_; refine mguard_yes ?_)); (with_reducible refine mm_ixs ‹_› ?_ ?_ ?_); (focus (simp only [List.length_map]; omega)); (focus (simp only [List.length_map]; first | done | omega)); (with_reducible (intro _ _ hA)); (cases hA); (with_reducible (refine mguard_yes ?_)); (with_reducible refine mm_lds0 hM ‹_› (map_atI ?_) ?_); (focus omega); (with_reducible (refine mguard_yes ?_; refine mop_c trivial ?_; refine mguard_yes ?_)))
          ((with_reducible (refine mop_cS trivial ?_ ?_)))
          · intro h
            ((with_reducible (refine mop_c trivial ?_)))
            exact ⟨by rw [decide_eq_true (show x < l[i] by omega)]; rfl, hM⟩
          · intro h
            ((with_reducible (refine mop_c trivial ?_)))
            exact ⟨by rw [decide_eq_false (show ¬ x < l[i] by omega)]; rfl, hM⟩
        · rw [Bool.not_true]
          ((with_reducible ((iterate 6 refine mguard_n2 ?_); refine mop_c trivial ?_)))
          exact ⟨rfl, hM⟩
      rintro v u3 w3 ⟨rfl, hM⟩
      rw [hdr] at he
      by_cases hc : d = false ∧ x < l[i]
      · obtain ⟨rfl, hx⟩ := hc
        rw [Bool.not_false, Bool.true_and, decide_eq_true hx]
        ((with_reducible (refine mif_true ?_; refine mm_bsl hM ?_ ?_ ?_)); (focus rfl); (focus (constructor <;> simp)); (with_reducible (clear hM; intro _ _ hM; refine mm_appo hM ?_ ?_)); (focus omega); (with_reducible (clear hM; intro _ _ _ hM)))
        rename_i A3 c3 _
        have e : ints8 o ++ [[.one (.int .i64 x)]] = ints8 (o ++ [x]) := by rw [ints8_app]; rfl
        rw [e] at hM
        have hl3 : o.length + 1 = (o ++ [x]).length := by simp
        rw [hl3] at hM ⊢
        refine ⟨true, o ++ [x], A3, c3, rfl, rfl, by simp at ho ⊢; omega, ?_, hM.sub⟩
        rw [he]
        unfold putD
        rw [if_neg (by simp), putL_cons, if_neg (by omega)]
        simp
      · have hb : (!d && decide (x < l[i])) = false := by
          cases d
          · rw [Bool.not_false, Bool.true_and, decide_eq_false (fun h => hc ⟨rfl, h⟩)]
          · rfl
        rw [hb]
        ((with_reducible (refine mif_false ?_)))
        refine ⟨d, o, C, c, rfl, rfl, by omega, ?_, hM⟩
        rw [he]
        congr 1
        cases d
        · unfold putD
          rw [if_neg (by simp), if_neg (by simp), putL_cons, if_pos (by have : ¬ x < l[i] := fun h => hc ⟨rfl, h⟩; omega)]
        · rfl
    · clear hM
      rintro v u u4 w4 ⟨d', o', C', c', rfl, rfl, ho', he', hM⟩
      have hd2 : d'.toNat ≤ 1 := Bool.toNat_le d'
      ((with_reducible refine mm_ixs ‹_› ?_ ?_ ?_); (focus (simp only [List.length_map]; omega)); (focus (simp only [List.length_map]; first | done | omega)); (with_reducible (intro _ _ hA)); (cases hA); (with_reducible refine mm_lds0 hM ‹_› (map_atI ?_) ?_); (focus omega); (with_reducible (refine mm_bsl hM ?_ ?_ ?_)); (focus rfl); (focus (constructor <;> simp)); (with_reducible (clear hM; intro _ _ hM; refine mm_appo hM ?_ ?_)); (focus omega); (with_reducible (clear hM; intro _ _ _ hM; refine mop_c ?_ ?_)); (focus omega))
      rename_i A3 c3 _
      have e : ints8 o' ++ [[.one (.int .i64 l[i])]] = ints8 (o' ++ [l[i]]) := by rw [ints8_app]; rfl
      rw [e] at hM
      have hl3 : o'.length + 1 = (o' ++ [l[i]]).length := by simp
      rw [hl3] at hM ⊢
      exact ⟨⟨i + 1, d', o' ++ [l[i]], A3, c3, rfl, rfl, rfl, by omega, by simp; omega, by rw [he']; simp, hM.sub⟩, by simp only; omega⟩
  · intro hge
    obtain rfl : i = l.length := by omega
    rw [List.drop_length] at he
    ((with_reducible (refine mif_false ?_)))
    refine ⟨fun v w' => ∃ A' a', v = .slice A' (putL l x).length a' ∧ Mem H w [rowR 3 1 A' (putL l x).length a' (ints8 (putL l x))] w', ?_, ?_⟩
    · ((with_reducible (refine mop_c trivial ?_)))
      cases d
      · rw [Bool.not_false]
        ((with_reducible (refine mif_true ?_; refine mm_bsl hM ?_ ?_ ?_)); (focus rfl); (focus (constructor <;> simp)); (with_reducible (clear hM; intro _ _ hM; refine mm_appo hM ?_ ?_)); (focus omega); (with_reducible (clear hM; intro _ _ _ hM)))
        rename_i A3 c3 _
        have e : ints8 o ++ [[.one (.int .i64 x)]] = ints8 (o ++ [x]) := by rw [ints8_app]; rfl
        have e2 : putL l x = o ++ [x] := he
        rw [e] at hM
        rw [e2]
        have hl3 : o.length + 1 = (o ++ [x]).length := by simp
        rw [hl3] at hM ⊢
        exact ⟨A3, c3, rfl, hM.sub⟩
      · rw [Bool.not_true]
        ((with_reducible (refine mif_false ?_)))
        have e2 : putL l x = o := by rw [he]; simp [putD]
        rw [e2]
        exact ⟨C, c, rfl, hM⟩
    · clear hM
      rintro v u4 w4 ⟨A', a', rfl, hM⟩
      exact ⟨_, rfl, A', a', rfl, hM⟩
end
end Go.Proofs.YtopcnkejobomaaaGreat
namespace Go.Proofs.YtopcnkejobomaaaGreat
open Go.RowKit Go.Lib
theorem Mem.weak {H H' : Hp} {w0 w : World} {L : List Res} (h : Mem H' w0 L w) (hl : H.le H') : Mem H w0 L w := by
  obtain ⟨B, h1, h2, h3⟩ := h.own
  refine ⟨⟨B, h1, h2, fun b hm => ⟨(h3 b hm).1, ?_⟩⟩, h.fz.mono hl⟩
  cases hh : H b.g with
  | none => rfl
  | some c =>
    have := hl _ _ hh
    rw [(h3 b hm).2] at this
    cases this
theorem set_take_drop {α β : Type} {f : α → β} {Z : List α} {G P : List β} {i : Nat} {y : α} (hZ : Z.map f = G.take i ++ P.drop i) (hG : G.length = P.length) (hi : i < P.length) (hy : f y = G[i]) : (Z.set i y).map f = G.take (i + 1) ++ P.drop (i + 1) := by
  rw [List.map_set, hZ, hy]
  refine List.ext_getElem (by simp; omega) fun j h1 h2 => ?_
  simp only [List.getElem_set, List.getElem_append, List.length_take, List.getElem_take, List.getElem_drop]
  by_cases e : i = j
  · subst e
    simp
    omega
  · by_cases h : j < i
    · have h3 : j < min i G.length := by omega
      have h4 : j < min (i + 1) G.length := by omega
      simp [e, h3, h4]
    · have h3 : ¬ j < min i G.length := by omega
      have h4 : ¬ j < min (i + 1) G.length := by omega
      simp only [e, if_false, h3, dif_neg, not_false_eq_true, h4]
      congr 1
      omega
theorem take_drop_get {α β : Type} {f : α → β} {Z : List α} {G P : List β} {i : Nat} (hZ : Z.map f = G.take i ++ P.drop i) (hG : G.length = P.length) (hi : i < P.length) (hz : i < Z.length) : f Z[i] = P[i] := by
  have h1 : (Z.map f)[i]? = some (f Z[i]) := by rw [List.getElem?_map, List.getElem?_eq_getElem hz]; rfl
  rw [hZ, List.getElem?_append_right (by simp; omega)] at h1
  have h2 : min i G.length = i := by omega
  rw [List.length_take, h2, Nat.sub_self, List.getElem?_drop, Nat.add_zero, List.getElem?_eq_getElem hi] at h1
  exact (Option.some.inj h1).symm
def slenW (w : World) (a : Addr) : Nat := match w.cell? a with
  | some (.slice _ n _) => n
  | _ => 0
theorem slenW_eq {w : World} {a : Addr} {A : Option Addr} {n c : Nat} (h : w.cell? a = some (.slice A n c)) : slenW w a = n := by unfold slenW; rw [h]
section
variable {H : Hp} {w0 w : World} {L R : List Res} {A B C : Option Addr} {a b c n : Nat} {t : Tr} {qs ps : List (List Fd)}
theorem rblank_ok {p : Int} (hR : t.Rt) (h1 : Sl H 97 A (t.ls.map Lf.fds)) (h2 : Sl H 66 B qs) (h3 : All2 (PnF H) qs t.ps) (hM : Mem H w0 L w) :
    Calls Tryz.prog 158 #[tv A t.ls.length a B t.ps.length b, .int .i64 p] w fun en w' => ∃ v, en = .returned v ∧ ∃ A' a' B' b' X, v = tv A' t.ls.length a' B' t.ps.length b' ∧ X.map (·.1) = blankR t.size p t.ps ∧
      Mem H w0 (rowR 57 97 A' t.ls.length a' (t.ls.map Lf.fds) :: rowR 61 66 B' t.ps.length b' (X.map xrow) :: allR X :: L) w' := by
  have hlen := hR.len
  refine C_bevyref08_blank ?_
  unfold F_bevyref08_blank
  ((with_reducible (refine mm_box hM ?_; clear hM; intro _ _ hM; refine mm_new hM ?_; clear hM; intro _ _ hM; refine mm_ld hM ?_)))
  rename_i g1 _ g2 _
  refine mm_own (rcopy_ok h1 h2 h3 (by omega) (by omega) (fun p hp => by have := (hR.loose p hp).1; omega) hM) ?_
  rintro v w' ⟨A', a', B', b', X, rfl, hX, hM⟩
  ((with_reducible (refine mm_st hM ?_; clear hM; intro _ hM)))
  have hbl : (blankR t.size p t.ps).length = t.ps.length := by unfold blankR; simp
  refine ⟨fun v w' => ∃ (i : Nat) (Z : List Xp), v = .int .i64 i ∧ i ≤ t.ps.length ∧ Z.length = t.ps.length ∧ Z.map (·.1) = (blankR t.size p t.ps).take i ++ t.ps.drop i ∧ Mem H w0 (fb g1 25 (tfd A' t.ls.length a' B' t.ps.length b') :: fb g2 25 (tfd none 0 0 none 0 0) :: rowR 57 97 A' t.ls.length a' (t.ls.map Lf.fds) :: rowR 61 66 B' t.ps.length b' (Z.map xrow) :: allR Z :: L) w', fun v _ => match v with | .int _ k => t.ps.length - k.toNat | _ => 0, ⟨0, X, rfl, by omega, by rw [← hX, List.length_map], by simpa using hX, hM.same⟩, ?_⟩
  clear hM
  rintro v u w3 ⟨i, Z, rfl, hi, hZl, hZ, hM⟩
  ((with_reducible (refine mop_c trivial ?_; refine mm_ld hM ?_; refine mop_c trivial ?_)))
  ((with_reducible (refine mop_cS trivial ?_ ?_)))
  · intro hlt
    have hlt' : i < t.ps.length := by omega
    have hget : (blankR t.size p t.ps)[i]'(by omega) = if hld t.size (2 * i + 1) p then Pn.zero else t.ps[i] := by
      unfold blankR
      rw [List.getElem_mapIdx]
    ((with_reducible (refine mif_true ?_)))
    refine ⟨fun w' => ∃ (Z' : List Xp), Z'.length = t.ps.length ∧ Z'.map (·.1) = (blankR t.size p t.ps).take (i + 1) ++ t.ps.drop (i + 1) ∧ Mem H w0 (fb g1 25 (tfd A' t.ls.length a' B' t.ps.length b') :: fb g2 25 (tfd none 0 0 none 0 0) :: rowR 57 97 A' t.ls.length a' (t.ls.map Lf.fds) :: rowR 61 66 B' t.ps.length b' (Z'.map xrow) :: allR Z' :: L) w', ?_, ?_⟩
    · ((with_reducible (refine mop_c trivial ?_; refine mm_ld hM ?_; refine mop_c trivial ?_; refine mop_c ?_ ?_)); (focus omega); (with_reducible (refine mop_c ?_ ?_)); (focus omega); (with_reducible (refine mm_purC hM ?_ ?_)); (focus (first | exact trivial | assumption | omega)); (with_reducible (clear hM; intro _ hM)))
      show mif (.bool (decide (hld t.size (2 * i + 1) p))) _ _
      by_cases hh : hld t.size (2 * i + 1) p
      · rw [if_pos hh] at hget
        rw [decide_eq_true hh]
        ((with_reducible (refine mif_true ?_; refine mop_c trivial ?_; refine mm_ld hM ?_; refine mop_c trivial ?_; refine mm_ixr hM ?_ ?_)); (focus omega); (with_reducible (intro _ hA)); (cases hA); (with_reducible (refine mm_str hM ?_ ?_)); (focus omega); (with_reducible (clear hM; intro _ hM)))
        rw [← xrow0, Int.toNat_natCast, ← List.map_set] at hM
        have hM := (hM.at_ (allR Z)).blankk (j := i) (by omega)
        exact ⟨Z.set i x0, by simpa using hZl, set_take_drop hZ hbl hlt' hget.symm, hM.same⟩
      · rw [if_neg hh] at hget
        rw [decide_eq_false hh]
        ((with_reducible (refine mif_false ?_)))
        refine ⟨Z, hZl, ?_, hM⟩
        rw [hZ, List.take_succ_eq_append_getElem (by omega), hget, List.append_assoc, List.drop_eq_getElem_cons hlt']
        rfl
    · clear hM
      rintro u4 w4 ⟨Z', hZl', hZ', hM⟩
      ((with_reducible (refine mop_c ?_ ?_)); (focus omega))
      exact ⟨⟨i + 1, Z', rfl, by omega, hZl', hZ', hM⟩, by simp only; omega⟩
  · intro hge
    obtain rfl : i = t.ps.length := by omega
    rw [List.drop_length, List.append_nil, List.take_of_length_le (by omega)] at hZ
    ((with_reducible (refine mif_false ?_; refine mm_ld hM ?_; refine mm_st hM ?_; clear hM; intro _ hM; refine rm_ld hM ?_)))
    exact ⟨_, rfl, _, _, _, _, _, rfl, hZ, hM.sub⟩
theorem Tr.Rt.blankR_loose {t : Tr} (h : t.Rt) {p : Int} : ∀ q ∈ blankR t.size p t.ps, q.loose.length ≤ 64 := fun q hq => by
  unfold blankR at hq
  obtain ⟨i, hi, rfl⟩ := List.getElem_of_mem hq
  rw [List.getElem_mapIdx]
  split
  · simp [Pn.zero]
  · exact (h.loose _ (List.getElem_mem _)).1
theorem rrenew_q {Q : Hp → Value → Prop} (p : Int) (pub : H32) (hq : ∀ H' v1 r, t.renR p pub = r → TrF H' v1 r.1 → Q H' (.tuple #[v1, .int .i64 r.2])) (hR : t.Rt) (h1 : Sl H 97 A (t.ls.map Lf.fds)) (h2 : Sl H 66 B qs) (h3 : All2 (PnF H) qs t.ps) (hf : Fz H w) :
    Calls Tryz.prog 138 #[tv A t.ls.length a B t.ps.length b, .int .i64 p, ha pub] w (Outp H w Q) := by
  obtain ⟨w1, hw1⟩ : ∃ w1, w1 = w := ⟨_, rfl⟩
  rw [← hw1]
  rw [← hw1] at hf
  have hM := Mem.start hf
  have hlen := hR.len
  refine C_bevyref08_Renew ?_
  unfold F_bevyref08_Renew
  unfold Tr.renR at hq
  ((with_reducible (refine mm_box hM ?_; clear hM; intro _ _ hM; refine mm_box hM ?_; clear hM; intro _ _ hM; refine mm_new hM ?_; clear hM; intro _ _ hM; refine mm_ld hM ?_)))
  rename_i g1 _ g5 _ g2 _
  refine mm_pure hM (rnone_ok p h1 (by simp only [maxLen]; omega) hM.fz) (fun w hM => ?_)
  by_cases hn : t.nobody p
  · rw [if_pos hn] at hq
    rw [decide_eq_true hn]
    ((with_reducible (refine mif_true ?_; refine mop_c trivial ?_; refine mm_st hM ?_; clear hM; intro _ hM; refine rm_ld hM ?_)))
    exact hM.out (Le.refl _ _) (hq _ _ _ rfl (trF_none H))
  rw [if_neg hn] at hq
  rw [decide_eq_false hn]
  obtain ⟨hb0, hb1, hb2⟩ := Tr.body hn
  ((with_reducible (refine mif_false ?_; refine mm_ld hM ?_)))
  refine mm_own (rblank_ok (p := p) hR h1 h2 h3 hM) ?_
  rintro v w' ⟨A', a', B', b', X, rfl, hX, hM⟩
  have hXl : X.length = t.ps.length := by have := congrArg List.length hX; simpa [blankR] using this
  obtain ⟨g4, rfl⟩ := hM.rowAt ⟨.refl _⟩ (by omega)
  obtain ⟨l0, hl0⟩ : ∃ l0, t.ls[p.toNat] = l0 := ⟨_, rfl⟩
  have hk0 : (t.ls.map Lf.fds)[p.toNat]? = some l0.fds := by rw [← hl0]; exact map_at hb1
  ((with_reducible (refine mm_st hM ?_; clear hM; intro _ hM; refine mop_c trivial ?_; refine mm_ld hM ?_; refine mm_ld hM ?_; refine mm_ixr hM ?_ ?_)); (focus omega); (with_reducible (intro _ hA)); (cases hA); (with_reducible (refine mop_c trivial ?_)))
  refine mm_stf hM hk0 (fun w' hM => ?_)
  have hz : [Fd.one (.int .i64 l0.name), .arr 32 (u8s pub.1), .arr 32 (u8s l0.ver.1), .arr 32 (u8s l0.abv.1)] = (l0.key pub l0.abv).fds := rfl
  rw [hz] at hM
  have hk1 : ((t.ls.map Lf.fds).set p.toNat (l0.key pub l0.abv).fds)[p.toNat]? = some (l0.key pub l0.abv).fds := by
    rw [List.getElem?_set_self (by simpa using hb1)]
  ((with_reducible (refine mop_c trivial ?_; refine mm_ld hM ?_; refine mop_c trivial ?_; refine mm_ixr hM ?_ ?_)); (focus omega); (with_reducible (intro _ hA)); (cases hA); (with_reducible (refine mop_c trivial ?_)))
  refine mm_stf hM hk1 (fun w' hM => ?_)
  have hz3 : [Fd.one (.int .i64 (l0.key pub l0.abv).name), .arr 32 (u8s (l0.key pub l0.abv).pub.1), .arr 32 (u8s (l0.key pub l0.abv).ver.1), .arr 32 (u8s hzero.1)] = (l0.key pub hzero).fds := rfl
  rw [hz3, List.set_set, ← List.map_set] at hM
  have hmod : t.ls.set p.toNat (l0.key pub hzero) = t.ls.modify p.toNat (·.key pub hzero) := by
    refine List.ext_getElem (by simp) fun i k1 k2 => ?_
    simp only [List.getElem_modify, List.getElem_set]
    split
    · rename_i e
      subst e
      rw [hl0]
    · rfl
  rw [hmod] at hM
  have hsl : (t.ls.modify p.toNat (·.key pub hzero)).length = t.ls.length := List.length_modify ..
  obtain ⟨ls2, hls⟩ : ∃ ls2, t.ls.modify p.toNat (·.key pub hzero) = ls2 := ⟨_, rfl⟩
  rw [hls] at hM hsl hq
  rw [← hsl, ← hXl] at hM
  ((with_reducible (refine mm_ld hM ?_; refine mm_st hM ?_; clear hM; intro _ hM; refine rm_ld hM ?_)))
  have hM : Mem H w1 [rowR 57 97 (some ⟨g4, 0, none⟩) ls2.length a' (ls2.map Lf.fds), rowR 61 66 B' X.length b' (X.map xrow), allR X] _ := hM.sub
  obtain ⟨H4, l4, hM, hT⟩ := hM.frzT (fun x hx => by
    have hm : x.1 ∈ blankR t.size p t.ps := hX ▸ List.mem_map_of_mem hx
    have := hR.blankR_loose _ hm
    simp only [maxLen]
    omega)
  refine hM.out l4 (hq _ _ _ rfl ?_)
  rw [hX] at hT
  exact hT
theorem rremove_q {Q : Hp → Value → Prop} (p : Int) (hq : ∀ H' v1 r, t.remR p = r → TrF H' v1 r.1 → Q H' (.tuple #[v1, .int .i64 r.2])) (hR : t.Rt) (h1 : Sl H 97 A (t.ls.map Lf.fds)) (h2 : Sl H 66 B qs) (h3 : All2 (PnF H) qs t.ps) (hf : Fz H w) :
    Calls Tryz.prog 139 #[tv A t.ls.length a B t.ps.length b, .int .i64 p] w (Outp H w Q) := by
  obtain ⟨w1, hw1⟩ : ∃ w1, w1 = w := ⟨_, rfl⟩
  rw [← hw1]
  rw [← hw1] at hf
  have hM := Mem.start hf
  have hlen := hR.len
  refine C_bevyref08_Remove ?_
  unfold F_bevyref08_Remove
  unfold Tr.remR at hq
  ((with_reducible (refine mm_box hM ?_; clear hM; intro _ _ hM; refine mm_new hM ?_; clear hM; intro _ _ hM; refine mm_ld hM ?_)))
  rename_i g1 _ g2 _
  refine mm_pure hM (rnone_ok p h1 (by simp only [maxLen]; omega) hM.fz) (fun w hM => ?_)
  by_cases hn : t.nobody p
  · rw [if_pos hn] at hq
    rw [decide_eq_true hn]
    ((with_reducible (refine mif_true ?_; refine mop_c trivial ?_; refine mm_st hM ?_; clear hM; intro _ hM; refine rm_ld hM ?_)))
    exact hM.out (Le.refl _ _) (hq _ _ _ rfl (trF_none H))
  rw [if_neg hn] at hq
  rw [decide_eq_false hn]
  obtain ⟨hb0, hb1, hb2⟩ := Tr.body hn
  ((with_reducible (refine mif_false ?_; refine mm_ld hM ?_)))
  refine mm_own (rblank_ok (p := p) hR h1 h2 h3 hM) ?_
  rintro v w' ⟨A', a', B', b', X, rfl, hX, hM⟩
  have hXl : X.length = t.ps.length := by have := congrArg List.length hX; simpa [blankR] using this
  obtain ⟨g4, rfl⟩ := hM.rowAt ⟨.refl _⟩ (by omega)
  ((with_reducible (refine mm_st hM ?_; clear hM; intro _ hM; refine mop_c trivial ?_; refine mm_ld hM ?_; refine mop_c trivial ?_; refine mm_ixr hM ?_ ?_)); (focus omega); (with_reducible (intro _ hA)); (cases hA); (with_reducible (refine mm_str hM ?_ ?_)); (focus omega); (with_reducible (clear hM; intro _ hM)))
  have hz : [Fd.one (.int .i64 0), .arr 32 (u8s hzero.1), .arr 32 (u8s hzero.1), .arr 32 (u8s hzero.1)] = Lf.zero.fds := rfl
  rw [hz, ← List.map_set] at hM
  have hsl : (t.ls.set p.toNat Lf.zero).length = t.ls.length := List.length_set
  obtain ⟨ls2, hls⟩ : ∃ ls2, t.ls.set p.toNat Lf.zero = ls2 := ⟨_, rfl⟩
  rw [hls] at hM hsl hq
  rw [← hsl, ← hXl] at hM
  have hM : Mem H w1 [fb g1 25 (tfd (some ⟨g4, 0, none⟩) ls2.length a' B' X.length b'), fb g2 25 (tfd none 0 0 none 0 0), rowR 57 97 (some ⟨g4, 0, none⟩) ls2.length a' (ls2.map Lf.fds), rowR 61 66 B' X.length b' (X.map xrow), allR X] _ := hM.sub
  refine ⟨fun w' => (∃ i, i ≤ ls2.length ∧ keepN ls2 ls2.length = keepN ls2 i ∧ Mem H w1 [fb g1 25 (tfd (some ⟨g4, 0, none⟩) i a' B' (i - 1) b'), fb g2 25 (tfd none 0 0 none 0 0), rowR 57 97 (some ⟨g4, 0, none⟩) i a' ((ls2.take i).map Lf.fds), rowR 61 66 B' (i - 1) b' ((X.take (i - 1)).map xrow), allR (X.take (i - 1))] w'), fun w' => slenW w' ⟨g1, 0, none⟩, ⟨ls2.length, by omega, rfl, ?_⟩, ?_⟩
  · rw [List.take_length, show ls2.length - 1 = X.length by omega, List.take_length]
    exact hM
  clear hM
  rintro u w3 ⟨i, hi, hk, hM⟩
  have hold : slenW w3 ⟨g1, 0, none⟩ = i := slenW_eq (((hM.upB g1).blf ⟨⟨_, .refl _, fun _ => .refl _⟩⟩).1.cell 0)
  obtain ⟨-, ca1, -, -⟩ := (hM.up (some ⟨g4, 0, none⟩)).rowLen ⟨.refl _⟩
  obtain ⟨-, cb1, -, -⟩ := (hM.up B').rowLen ⟨.refl _⟩
  have e1 : (ls2.take i).length = i := by rw [List.length_take]; omega
  have e2 : (X.take (i - 1)).length = i - 1 := by rw [List.length_take]; omega
  have hfin : keepN ls2 i = i → ∀ w3, Mem H w1 [rowR 57 97 (some ⟨g4, 0, none⟩) i a' ((ls2.take i).map Lf.fds), rowR 61 66 B' (i - 1) b' ((X.take (i - 1)).map xrow), allR (X.take (i - 1))] w3 → Outp H w1 Q (.returned (.tuple #[.agg (fl (tfd (some ⟨g4, 0, none⟩) i a' B' (i - 1) b')).toArray, .int .i64 0])) w3 := fun hi2 w3 hM => by
    rw [hi2] at hk
    have hM : Mem H w1 [rowR 57 97 (some ⟨g4, 0, none⟩) (ls2.take i).length a' ((ls2.take i).map Lf.fds), rowR 61 66 B' (X.take (i - 1)).length b' ((X.take (i - 1)).map xrow), allR (X.take (i - 1))] w3 := by
      rw [e1, e2]
      exact hM
    obtain ⟨H4, l4, hM, hT⟩ := hM.frzT (fun x hx => by
      have hm : x.1 ∈ blankR t.size p t.ps := hX ▸ List.mem_map_of_mem (List.mem_of_mem_take hx)
      have := hR.blankR_loose _ hm
      simp only [maxLen]
      omega)
    rw [e1, e2] at hT
    refine hM.out l4 (hq _ _ _ rfl ?_)
    show TrF H4 _ (cut ls2 (blankR t.size p t.ps))
    unfold cut
    rw [hk]
    rw [List.map_take, hX] at hT
    exact hT
  refine ⟨fun w' => (0 < i ∧ keepN ls2 i = keepN ls2 (i - 1)) ∧ w' = w3, ?_, ?_⟩
  · ((with_reducible (refine mop_c trivial ?_; refine mm_ld hM ?_; refine mop_c trivial ?_)))
    ((with_reducible (refine mop_cS trivial ?_ ?_)))
    · intro hpos
      have hix : ((i : Int) - 1).toNat < (ls2.take i).length := by omega
      have hix2 : ((i : Int) - 1).toNat < ls2.length := by omega
      have hna := nameAt_at (ls := ls2) (p := (i : Int) - 1) (by omega) hix2
      have hk0 : ((ls2.take i).map Lf.fds)[((i : Int) - 1).toNat]? = some (ls2[((i : Int) - 1).toNat]).fds := by
        rw [map_at hix, List.getElem_take]
      ((with_reducible (refine mguard_yes ?_; refine mop_c trivial ?_; refine mguard_yes ?_; refine mm_ld hM ?_; refine mguard_yes ?_; refine mop_c trivial ?_; refine mguard_yes ?_; refine mm_ld hM ?_; refine mguard_yes ?_; refine mop_c trivial ?_; refine mguard_yes ?_; refine mop_c ?_ ?_)); (focus omega); (with_reducible (refine mguard_yes ?_; refine mm_ixr hM ?_ ?_)); (focus omega); (with_reducible (intro _ hA)); (cases hA); (with_reducible (refine mguard_yes ?_; refine mop_c trivial ?_; refine mguard_yes ?_; refine mm_ldr hM (map_at ?_) ?_)); (focus omega); (with_reducible (refine mguard_yes ?_)))
      rw [List.getElem_take, ← hna]
      have hkn : keepN ls2 i = if nameAt ls2 ((i : Int) - 1) = 0 then keepN ls2 (i - 1) else i := by
        cases i with
        | zero => omega
        | succ i =>
          rw [keepN]
          simp
      ((with_reducible (refine mop_cS trivial ?_ ?_)))
      · intro h0
        ((with_reducible (refine mop_c trivial ?_; refine mif_true ?_)))
        exact ⟨⟨by omega, by rw [hkn, if_pos h0]⟩, rfl⟩
      · intro h0
        rw [if_neg h0] at hkn
        ((with_reducible (refine mop_c trivial ?_; refine mif_false ?_; refine mm_ld hM ?_; refine mm_st hM ?_; clear hM; intro _ hM; refine rm_ld hM ?_)))
        exact hfin hkn _ hM.sub
    · intro hz
      ((with_reducible ((iterate 10 refine mguard_n2 ?_); refine mop_c trivial ?_; refine mif_false ?_; refine mm_ld hM ?_; refine mm_st hM ?_; clear hM; intro _ hM; refine rm_ld hM ?_)))
      obtain rfl : i = 0 := by omega
      exact hfin rfl _ hM.sub
  · rintro u7 w7 ⟨⟨hpos, hk2⟩, rfl⟩
    ((with_reducible (refine mop_c trivial ?_; refine mm_ld hM ?_; refine mop_c trivial ?_; refine mm_ld hM ?_; refine mop_c trivial ?_; refine mop_c ?_ ?_)); (focus omega); (with_reducible (refine mop_c ?_ ?_)); (focus omega); (with_reducible (refine mop_c trivial ?_; refine mm_st hM ?_; clear hM; intro _ hM; refine mop_c trivial ?_; refine mm_ld hM ?_; refine mop_c trivial ?_)))
    ((with_reducible (refine mop_cS trivial ?_ ?_)))
    · intro hp2
      ((with_reducible (refine mif_true ?_; refine mop_c trivial ?_; refine mm_ld hM ?_; refine mop_c trivial ?_; refine mm_ld hM ?_; refine mop_c trivial ?_; refine mop_c ?_ ?_)); (focus omega); (with_reducible (refine mop_c ?_ ?_)); (focus omega); (with_reducible (refine mop_c trivial ?_; refine mm_st hM ?_; clear hM; intro _ hM)))
      rw [show ((i : Int) - 1).toNat = i - 1 by omega, show (((i - 1 : Nat) : Int) - 1).toNat = i - 1 - 1 by omega] at hM
      have hnew := slenW_eq (((hM.upB g1).blf ⟨⟨_, .refl _, fun _ => .refl _⟩⟩).1.cell 0)
      have hM := (hM.up (some ⟨g4, 0, none⟩)).short (k := i - 1) (by omega)
      have hM := (hM.up B').short (k := i - 1 - 1) (by omega)
      have hM := (hM.at_ (allR (X.take (i - 1)))).dropk (i - 1 - 1)
      rw [← List.map_take, ← List.map_take, List.take_take, List.take_take, show min (i - 1) i = i - 1 by omega, show min (i - 1 - 1) (i - 1) = i - 1 - 1 by omega] at hM
      refine ⟨⟨i - 1, by omega, by rw [hk, hk2], hM.same⟩, ?_⟩
      show slenW _ _ < slenW _ _
      rw [hnew, hold]
      omega
    · intro hp2
      ((with_reducible (refine mif_false ?_)))
      rw [show ((i : Int) - 1).toNat = i - 1 by omega] at hM
      have hnew := slenW_eq (((hM.upB g1).blf ⟨⟨_, .refl _, fun _ => .refl _⟩⟩).1.cell 0)
      have hM := (hM.up (some ⟨g4, 0, none⟩)).short (k := i - 1) (by omega)
      have hM := (hM.up B').short (k := i - 1) (by omega)
      have hM := (hM.at_ (allR (X.take (i - 1)))).dropk (i - 1 - 1)
      have e9 : i - 1 - 1 = i - 1 := by omega
      rw [← List.map_take, ← List.map_take, List.take_take, List.take_take, List.take_take, e9, Nat.min_self, show min (i - 1) i = i - 1 by omega] at hM
      refine ⟨⟨i - 1, by omega, by rw [hk, hk2], ?_⟩, ?_⟩
      · rw [e9]
        exact hM.same
      show slenW _ _ < slenW _ _
      rw [hnew, hold]
      omega
end
end Go.Proofs.YtopcnkejobomaaaGreat
namespace Go.Proofs.YtopcnkejobomaaaGreat
open Go.RowKit Go.Lib
def addF (n x : Int) (i : Nat) (p : Pn) : Pn := if p.set = true ∧ hld n (2 * i + 1) x then { p with loose := putL p.loose x } else p
theorem addF_loose {n x : Int} {ps : List Pn} (h : ∀ p ∈ ps, p.loose.length ≤ 64) : ∀ p ∈ ps.mapIdx (addF n x), p.loose.length ≤ 65 := fun p hp => by
  obtain ⟨i, hi, rfl⟩ := List.getElem_of_mem hp
  rw [List.getElem_mapIdx]
  have := h _ (List.getElem_mem (by simpa using hi : i < ps.length))
  unfold addF
  split
  · rw [putL_len]
    omega
  · omega
def gapM (t : Tr) (l : Lf) : List Lf := if t.gap = t.ls.length then t.ls ++ [l] else t.ls
theorem gapM_set (t : Tr) (l : Lf) : (gapM t l).set t.gap l = addL t l := rfl
theorem gapM_len (t : Tr) (l : Lf) : (gapM t l).length = (addL t l).length := by
  rw [← gapM_set t l, List.length_set]
section
variable {H : Hp} {w0 w : World} {L R : List Res} {A B C : Option Addr} {a b c n : Nat} {t : Tr} {qs ps : List (List Fd)}
theorem dm_joined {P : Program} {f : Nat} {args : List Value} {ext : Bool} {K : Value → World → Prop} {R : Value → List Res → Prop} (h : Mem H w0 L w) [hf : FunC P f] (hc : ∀ w, Mem H w0 L w → Calls P f args.toArray w fun en w' => ∃ v L', en = .returned v ∧ R v L' ∧ Mem H w L' w') (hk : ∀ v L' w', Ext w w' → R v L' → Mem H w0 (L' ++ L) w' → K v w') : df P w (o_call (fv f) args) ext K :=
  dm_ownE (Q := fun v w' => ∃ L', R v L' ∧ Mem H w0 (L' ++ L) w') h (fun w h => (hc w h).mono fun en w' ⟨v, L', he, hr, hm⟩ => ⟨v, he, hm.ext, L', hr, h.join hm fun _ _ h => h⟩) fun v w' hx ⟨L', hr, hm⟩ => hk v L' w' hx hr hm
theorem radd_q {Q : Hp → Value → Prop} (l : Lf) (hq : ∀ H' v1 r, t.addR l = r → TrF H' v1 r.1 → Q H' (.tuple #[v1, .int .i64 r.2.1, .int .i64 r.2.2])) (hR : t.Rt) (h1 : Sl H 97 A (t.ls.map Lf.fds)) (h2 : Sl H 66 B qs) (h3 : All2 (PnF H) qs t.ps) (hf : Fz H w) :
    Calls Tryz.prog 140 #[tv A t.ls.length a B t.ps.length b, lv l] w (Outp H w Q) := by
  obtain ⟨w1, hw1⟩ : ∃ w1, w1 = w := ⟨_, rfl⟩
  rw [← hw1]
  rw [← hw1] at hf
  have hM := Mem.start hf
  have hlen := hR.len
  refine C_bevyref08_Add ?_
  unfold F_bevyref08_Add
  unfold Tr.addR at hq
  ((with_reducible (refine mm_box hM ?_; clear hM; intro _ _ hM; refine mm_box hM ?_; clear hM; intro _ _ hM; refine mm_new hM ?_; clear hM; intro _ _ hM)))
  rename_i g1 _ g2 _ g3 _
  refine ⟨fun v w' => v = .bool (decide (l.name < 1 ∨ 64 < l.name)) ∧ hM.now w', ?_, ?_⟩
  · ((with_reducible (refine mop_c trivial ?_; refine mm_ld hM ?_)))
    ((with_reducible (refine mop_cS trivial ?_ ?_)))
    · intro h
      ((with_reducible ((iterate 3 refine mguard_n1 ?_); refine mop_c trivial ?_)))
      exact ⟨by rw [decide_eq_true (.inl h)], hM⟩
    · intro h
      ((with_reducible (refine mguard_yes ?_; refine mop_c trivial ?_; refine mguard_yes ?_; refine mm_ld hM ?_; refine mguard_yes ?_)))
      ((with_reducible (refine mop_cS trivial ?_ ?_)))
      · intro h4
        ((with_reducible (refine mop_c trivial ?_)))
        exact ⟨by rw [decide_eq_true (.inr h4)], hM⟩
      · intro h4
        ((with_reducible (refine mop_c trivial ?_)))
        exact ⟨by rw [decide_eq_false (fun hh => hh.elim h h4)], hM⟩
  rintro v u2 w2 ⟨rfl, hM⟩
  by_cases hc : l.name < 1 ∨ 64 < l.name
  · rw [if_pos hc] at hq
    rw [decide_eq_true hc]
    ((with_reducible (refine mif_true ?_; refine mop_c trivial ?_; refine mm_st hM ?_; clear hM; intro _ hM; refine rm_ld hM ?_)))
    exact hM.out (Le.refl _ _) (hq _ _ _ rfl (trF_none H))
  rw [if_neg hc] at hq
  rw [decide_eq_false hc]
  ((with_reducible (refine mif_false ?_; refine mm_ld hM ?_; refine mop_c trivial ?_; refine mm_ld hM ?_)))
  refine mm_pure hM (rplace_ok l.name h1 (by simp only [maxLen]; omega) hM.fz) (fun w hM => ?_)
  ((with_reducible (refine mop_cS trivial ?_ ?_)))
  · intro h
    have h' : 0 ≤ t.place l.name := by omega
    rw [if_pos h'] at hq
    ((with_reducible (refine mif_true ?_; refine mop_c trivial ?_; refine mm_st hM ?_; clear hM; intro _ hM; refine rm_ld hM ?_)))
    exact hM.out (Le.refl _ _) (hq _ _ _ rfl (trF_none H))
  intro h
  rw [if_neg (show ¬ 0 ≤ t.place l.name by omega)] at hq
  ((with_reducible (refine mif_false ?_; refine mm_ld hM ?_)))
  refine mm_own (rcopy_ok h1 h2 h3 (by omega) (by omega) (fun p hp => by have := (hR.loose p hp).1; omega) hM) ?_
  rintro v w' ⟨A', a', B', b', X, rfl, hX, hM⟩
  have hXl : X.length = t.ps.length := by rw [← hX, List.length_map]
  ((with_reducible (refine mm_st hM ?_; clear hM; intro _ hM)))
  refine ⟨fun v w' => ∃ i : Nat, v = .int .i64 i ∧ i ≤ t.ls.length ∧ (∀ j (hj : j < t.ls.length), j < i → decide (t.ls[j].name = 0) = false) ∧ hM.now w', fun v _ => match v with | .int _ k => t.ls.length - k.toNat | _ => 0, ⟨0, rfl, by omega, fun j _ h => by omega, hM⟩, ?_⟩
  rintro v u w3 ⟨i, rfl, hi, hlo, hM⟩
  have hgl := t.gap_le
  refine ⟨fun w' => i < t.ls.length ∧ (∀ (h : i < t.ls.length), t.ls[i].name ≠ 0) ∧ hM.now w', ?_, ?_⟩
  · ((with_reducible (refine mop_c trivial ?_; refine mm_ld hM ?_; refine mop_c trivial ?_)))
    have hex : t.gap = i ∨ i < t.ls.length ∧ ∀ (h : i < t.ls.length), t.ls[i].name ≠ 0 := by
      by_cases h : i < t.ls.length
      · by_cases h0 : t.ls[i].name = 0
        · exact .inl (findIdx_at h hlo (decide_eq_true h0))
        · exact .inr ⟨h, fun _ => h0⟩
      · have : t.gap = t.ls.length := findIdx_none fun j hj => hlo j hj (by omega)
        exact .inl (by omega)
    have hgn : t.gap = i → ∀ (h : i < t.ls.length), t.ls[i].name = 0 := fun e h => by
      have := List.findIdx_getElem (p := fun l : Lf => decide (l.name = 0)) (xs := t.ls) (w := by show t.gap < _; omega)
      simp only [decide_eq_true_eq] at this
      rw [← this]
      congr 2
      exact e.symm
    by_cases hg : t.gap = i
    rotate_left
    · obtain ⟨hlt, hne⟩ := hex.resolve_left hg
      have hne' := hne hlt
      ((with_reducible (refine mop_cT trivial ?_ ?_)); (focus (first | assumption | omega | with_reducible rfl | exact fun h => Bool.noConfusion h)); (with_reducible (refine mguard_yes ?_; refine mop_c trivial ?_; refine mguard_yes ?_; refine mm_ld hM ?_; refine mguard_yes ?_; refine mop_c trivial ?_; refine mguard_yes ?_; refine mm_ixr hM ?_ ?_)); (focus omega); (with_reducible (intro _ hA)); (cases hA); (with_reducible (refine mguard_yes ?_; refine mop_c trivial ?_; refine mguard_yes ?_; refine mm_ldr hM (map_atI ?_) ?_)); (focus omega); (with_reducible (refine mguard_yes ?_; refine mop_cT trivial ?_ ?_)); (focus (first | assumption | omega | with_reducible rfl | exact fun h => Bool.noConfusion h)); (with_reducible (refine mop_c trivial ?_; refine mif_true ?_)))
      exact ⟨hlt, hne, hM⟩
    · have hgn := hgn hg
      clear hex
      rcases Nat.lt_or_ge i t.ls.length with hlt | hge
      · have hgn' := hgn hlt
        have e1 : gapM t l = t.ls := if_neg (by omega)
        have e2 : addPs t = t.ps := if_neg (by omega)
        rw [if_neg (by omega)] at hq
        obtain ⟨gA, rfl⟩ := (hM.up A').rowAt ⟨.refl _⟩ (by omega)
        ((with_reducible (refine mop_cT trivial ?_ ?_)); (focus (first | assumption | omega | with_reducible rfl | exact fun h => Bool.noConfusion h)); (with_reducible (refine mguard_yes ?_; refine mop_c trivial ?_; refine mguard_yes ?_; refine mm_ld hM ?_; refine mguard_yes ?_; refine mop_c trivial ?_; refine mguard_yes ?_; refine mm_ixr hM ?_ ?_)); (focus omega); (with_reducible (intro _ hA)); (cases hA); (with_reducible (refine mguard_yes ?_; refine mop_c trivial ?_; refine mguard_yes ?_; refine mm_ldr hM (map_atI ?_) ?_)); (focus omega); (with_reducible (refine mguard_yes ?_; refine mop_cF trivial ?_ ?_)); (focus (first | assumption | omega | with_reducible rfl | exact fun h => Bool.noConfusion h)); (with_reducible (refine mop_c trivial ?_; refine mif_false ?_; refine mop_cF trivial ?_ ?_)); (focus (first | assumption | omega | with_reducible rfl | exact fun h => Bool.noConfusion h)); (with_reducible (refine mif_false ?_)))
        refine ⟨fun w' => ∃ A2 a2 B2 b2 m Y, Y.map (·.1) = addPs t ∧ Y.length = m ∧ Mem H w1 [fb g1 25 (tfd A2 (gapM t l).length a2 B2 m b2), fb g2 57 l.fds, fb g3 25 (tfd none 0 0 none 0 0), rowR 57 97 A2 (gapM t l).length a2 ((gapM t l).map Lf.fds), rowR 61 66 B2 m b2 (Y.map xrow), allR Y] w', ?_, ?_⟩
        · ((with_reducible (refine mop_c trivial ?_; refine mm_ld hM ?_; refine mop_c trivial ?_; refine mop_cF trivial ?_ ?_)); (focus (first | assumption | omega | with_reducible rfl | exact fun h => Bool.noConfusion h)); (with_reducible (refine mif_false ?_)))
          rw [e1, e2]
          exact ⟨some ⟨gA, 0, none⟩, a', B', b', t.ps.length, X, hX, hXl, hM.sub⟩
        clear hM
        rintro u5 w5 ⟨A2, a2, B2, b2, m, Y, hY, hYl, hM⟩
        have hgn2 := gapM_len t l
        have hgs := gapM_set t l
        have hap := addPs_len hR l
        have hln : (addL t l).length ≤ 64 ∧ t.gap < (addL t l).length := by
          rw [addL_len]
          split <;> omega
        rw [← hY, List.length_map, hYl] at hap
        obtain ⟨g4, rfl⟩ := (hM.up A2).rowAt ⟨.refl _⟩ (by omega)
        ((with_reducible (refine mop_c trivial ?_; refine mm_ld hM ?_; refine mm_ld hM ?_; refine mm_ixr hM ?_ ?_)); (focus omega); (with_reducible (intro _ hA)); (cases hA); (with_reducible (refine mm_str hM ?_ ?_)); (focus omega); (with_reducible (clear hM; intro _ hM)))
        rw [Int.toNat_natCast, ← hg, ← List.map_set, hgs, hgn2] at hM
        rw [← hg]
        have hloose := hR.addPs_loose
        have hGl : ((addPs t).mapIdx (addF (addL t l).length t.gap)).length = (addPs t).length := by simp
        have hPl : (addPs t).length = m := by rw [← hY, List.length_map, hYl]
        refine ⟨fun v w' => ∃ (k : Nat) (Z : List Xp), v = .int .i64 k ∧ k ≤ m ∧ Z.length = m ∧ Z.map (·.1) = ((addPs t).mapIdx (addF (addL t l).length t.gap)).take k ++ (addPs t).drop k ∧ Mem H w1 [fb g1 25 (tfd (some ⟨g4, 0, none⟩) (addL t l).length a2 B2 m b2), fb g2 57 l.fds, fb g3 25 (tfd none 0 0 none 0 0), rowR 57 97 (some ⟨g4, 0, none⟩) (addL t l).length a2 ((addL t l).map Lf.fds), rowR 61 66 B2 m b2 (Z.map xrow), allR Z] w', fun v _ => match v with | .int _ k => m - k.toNat | _ => 0, ⟨0, Y, rfl, by omega, hYl, by simpa using hY, hM.same⟩, ?_⟩
        clear hM
        rintro v u6 w6 ⟨k, Z, rfl, hk, hZl, hZ, hM⟩
        ((with_reducible (refine mop_c trivial ?_; refine mm_ld hM ?_; refine mop_c trivial ?_)))
        ((with_reducible (refine mop_cS trivial ?_ ?_)))
        · intro hlt2
          have hk' : k < Z.length := by omega
          have hk2 : k < (addPs t).length := by omega
          have hZk := take_drop_get hZ hGl hk2 hk'
          have hget : ((addPs t).mapIdx (addF (addL t l).length t.gap))[k]'(by omega) = addF (addL t l).length t.gap k Z[k].1 := by rw [List.getElem_mapIdx, hZk]
          obtain ⟨hs1, -⟩ := hloose _ (List.getElem_mem hk2)
          rw [← hZk] at hs1
          ((with_reducible (refine mif_true ?_)))
          refine ⟨fun w' => ∃ (Z' : List Xp), Z'.length = m ∧ Z'.map (·.1) = ((addPs t).mapIdx (addF (addL t l).length t.gap)).take (k + 1) ++ (addPs t).drop (k + 1) ∧ Mem H w1 [fb g1 25 (tfd (some ⟨g4, 0, none⟩) (addL t l).length a2 B2 m b2), fb g2 57 l.fds, fb g3 25 (tfd none 0 0 none 0 0), rowR 57 97 (some ⟨g4, 0, none⟩) (addL t l).length a2 ((addL t l).map Lf.fds), rowR 61 66 B2 m b2 (Z'.map xrow), allR Z'] w', ?_, ?_⟩
          · skip
            refine ⟨fun v w' => v = .bool (decide (Z[k].1.set = true ∧ hld (addL t l).length (2 * k + 1) t.gap)) ∧ hM.now w', ?_, ?_⟩
            · ((with_reducible (refine mop_c trivial ?_; refine mm_ld hM ?_; refine mm_ixr hM ?_ ?_)); (focus omega); (with_reducible (intro _ hA)); (cases hA); (with_reducible (refine mop_c trivial ?_; refine mm_ldr hM (map_atI ?_) ?_)); (focus omega))
              rcases Bool.eq_false_or_eq_true Z[k].1.set with hs | hs
              · rw [hs]
                ((with_reducible (refine mguard_yes ?_; refine mop_c trivial ?_; refine mguard_yes ?_; refine mm_ld hM ?_; refine mguard_yes ?_; refine mop_c trivial ?_; refine mguard_yes ?_; refine mop_c trivial ?_; refine mguard_yes ?_; refine mop_c ?_ ?_)); (focus omega); (with_reducible (refine mguard_yes ?_; refine mop_c ?_ ?_)); (focus omega); (with_reducible (refine mguard_yes ?_; refine mop_c trivial ?_; refine mguard_yes ?_; refine mm_purC hM ?_ (fun _ hM2 => ?_))); (focus (first | exact trivial | assumption | omega)); (with_reducible (replace hM := hM2; clear hM2; refine mop_c trivial ?_)))
                refine ⟨?_, hM⟩
                congr 1
                rw [decide_eq_decide]
                exact ⟨fun h => ⟨rfl, h⟩, fun h => h.2⟩
              · rw [hs]
                ((with_reducible ((iterate 8 refine mguard_n2 ?_); refine mop_c trivial ?_)))
                exact ⟨by rw [decide_eq_false (fun h => by cases h.1)], hM⟩
            rintro v u7 w7 ⟨rfl, hM⟩
            by_cases hc2 : Z[k].1.set = true ∧ hld (addL t l).length (2 * k + 1) t.gap
            · rw [decide_eq_true hc2]
              have hM := (hM.at_ (allR Z)).outk hk'
              ((with_reducible (refine mif_true ?_; refine dp_c trivial ?_; refine dm_ld hM ?_; refine dp_c trivial ?_; refine dm_ld hM ?_; refine dp_ixr hM ?_ ?_)); (focus omega); (with_reducible (intro _ hA)); (cases hA); (with_reducible (refine dp_c trivial ?_; refine dm_ldr hM (map_atI ?_) ?_)); (focus omega))
              refine dm_joined (R := fun v L' => ∃ A5 c5, v = .slice A5 (putL Z[k].1.loose t.gap).length c5 ∧ L' = [rowR 3 1 A5 (putL Z[k].1.loose t.gap).length c5 (ints8 (putL Z[k].1.loose t.gap))]) hM (fun w hM => (rput_ok (H := Hp.of w) Z[k].1.loose t.gap (by omega) (hM.reads (A := Z[k].2.1)) (Fz.of w)).mono ?_) ?_
              · rintro e w' ⟨v, rfl, A5, c5, rfl, hP⟩
                exact ⟨_, _, rfl, ⟨A5, c5, rfl, rfl⟩, hP.weak (le_of hM.fz)⟩
              rintro v L' w' hx ⟨A5, c5, rfl, rfl⟩ hM
              rw [List.cons_append, List.nil_append] at hM
              ((with_reducible (refine dp_ixr hM ?_ ?_)); (focus omega); (with_reducible (intro _ hA)); (cases hA); (with_reducible (refine dp_c trivial ?_)))
              refine dm_stf hM (map_at hk') (fun w' hM => ?_)
              have hfy : addF (addL t l).length t.gap k Z[k].1 = { Z[k].1 with loose := putL Z[k].1.loose t.gap } := if_pos hc2
              have hrow : xrow (addF (addL t l).length t.gap k Z[k].1, A5, c5) = [.one (.bool Z[k].1.set), .arr 32 (u8s Z[k].1.pub.1), .arr 32 (u8s Z[k].1.abv.1), .one (.slice A5 (putL Z[k].1.loose t.gap).length c5)] := by
                rw [hfy]
              have hres : rowR 3 1 A5 (putL Z[k].1.loose t.gap).length c5 (ints8 (putL Z[k].1.loose t.gap)) = xres (addF (addL t l).length t.gap k Z[k].1, A5, c5) := by
                rw [hfy]
              rw [← hrow, Int.toNat_natCast, ← List.map_set, hres] at hM
              have hM := ((hM.at_ (restR Z k)).at_ (xres (addF (addL t l).length t.gap k Z[k].1, A5, c5))).ink hk'
              ((with_reducible (refine mm_end hM ?_; clear hM; intro _ hM)))
              exact ⟨Z.set k (addF (addL t l).length t.gap k Z[k].1, A5, c5), by simpa using hZl, set_take_drop hZ hGl hk2 hget.symm, hM.sub⟩
            · rw [decide_eq_false hc2]
              ((with_reducible (refine mif_false ?_)))
              refine ⟨Z, hZl, ?_, hM⟩
              have hsame : addF (addL t l).length t.gap k Z[k].1 = Z[k].1 := if_neg hc2
              rw [hsame, hZk] at hget
              rw [hZ, List.take_succ_eq_append_getElem (by omega), hget, List.append_assoc, List.drop_eq_getElem_cons hk2]
              rfl
          · clear hM
            rintro u7 w7 ⟨Z', hZl', hZ', hM⟩
            ((with_reducible (refine mop_c ?_ ?_)); (focus omega))
            exact ⟨⟨k + 1, Z', rfl, by omega, hZl', hZ', hM⟩, by simp only; omega⟩
        · intro hge2
          obtain rfl : k = m := by omega
          rw [List.drop_eq_nil_of_le (by omega), List.append_nil, List.take_of_length_le (by omega)] at hZ
          ((with_reducible (refine mif_false ?_; refine mm_ld hM ?_; refine mm_st hM ?_; clear hM; intro _ hM; refine rm_ld hM ?_)))
          rw [← hZl] at hM ⊢
          have hM : Mem H w1 [rowR 57 97 (some ⟨g4, 0, none⟩) (addL t l).length a2 ((addL t l).map Lf.fds), rowR 61 66 B2 Z.length b2 (Z.map xrow), allR Z] _ := hM.sub
          obtain ⟨H4, l4, hM, hT⟩ := hM.frzT (fun x hx => by
            have hm : x.1 ∈ (addPs t).mapIdx (addF (addL t l).length t.gap) := hZ ▸ List.mem_map_of_mem hx
            have := addF_loose (fun p hp => (hloose p hp).1) _ hm
            simp only [maxLen]
            omega)
          refine hM.out l4 (hq _ _ _ rfl ?_)
          rw [hZ] at hT
          exact hT
      · have hgm : t.gap = t.ls.length := by omega
        have e1 : gapM t l = t.ls ++ [l] := if_pos hgm
        ((with_reducible (refine mop_cF trivial ?_ ?_)); (focus (first | assumption | omega | with_reducible rfl | exact fun h => Bool.noConfusion h)); (with_reducible ((iterate 7 refine mguard_n2 ?_); refine mop_c trivial ?_; refine mif_false ?_)))
        ((with_reducible (refine mop_cS trivial ?_ ?_)))
        · intro hf
          rw [if_pos (by omega)] at hq
          ((with_reducible (refine mif_true ?_; refine mop_c trivial ?_; refine mm_st hM ?_; clear hM; intro _ hM; refine rm_ld hM ?_)))
          exact hM.out (Le.refl _ _) (hq _ _ _ rfl (trF_none H))
        intro hnf
        rw [if_neg (by omega)] at hq
        ((with_reducible (refine mif_false ?_)))
        refine ⟨fun w' => ∃ A2 a2 B2 b2 m Y, Y.map (·.1) = addPs t ∧ Y.length = m ∧ Mem H w1 [fb g1 25 (tfd A2 (gapM t l).length a2 B2 m b2), fb g2 57 l.fds, fb g3 25 (tfd none 0 0 none 0 0), rowR 57 97 A2 (gapM t l).length a2 ((gapM t l).map Lf.fds), rowR 61 66 B2 m b2 (Y.map xrow), allR Y] w', ?_, ?_⟩
        · ((with_reducible (refine mop_c trivial ?_; refine mm_ld hM ?_; refine mop_c trivial ?_; refine mop_cT trivial ?_ ?_)); (focus (first | assumption | omega | with_reducible rfl | exact fun h => Bool.noConfusion h)); (with_reducible (refine mif_true ?_)))
          refine ⟨fun w' => ∃ B2 b2 m Y, Y.map (·.1) = addPs t ∧ Y.length = m ∧ Mem H w1 [fb g1 25 (tfd A' t.ls.length a' B2 m b2), fb g2 57 l.fds, fb g3 25 (tfd none 0 0 none 0 0), rowR 57 97 A' t.ls.length a' (t.ls.map Lf.fds), rowR 61 66 B2 m b2 (Y.map xrow), allR Y] w', ?_, ?_⟩
          · skip
            ((with_reducible (refine mop_cS trivial ?_ ?_)))
            · intro hpos
              ((with_reducible (refine mif_true ?_; refine mop_c trivial ?_; refine mm_ld hM ?_; refine mop_c trivial ?_; refine mm_bsl hM ?_ ?_ ?_)); (focus rfl); (focus (constructor <;> simp)); (with_reducible (clear hM; intro _ _ hM; refine mm_appo hM ?_ ?_)); (focus omega); (with_reducible (clear hM; intro _ _ _ hM; refine mop_c trivial ?_; refine mm_st hM ?_; clear hM; intro _ hM)))
              rename_i A3 c3 _ _
              have e2 : addPs t = t.ps ++ [Pn.zero] := if_pos ⟨hgm, by omega⟩
              rw [← xrow0, show X.map xrow ++ [xrow x0] = (X ++ [x0]).map xrow by simp] at hM
              have h0 : Mem H w1 (xres x0 :: _) _ := hM.row0 3 1
              have hM : Mem H w1 [allR X, xres x0, rowR 61 66 A3 (t.ps.length + 1) c3 ((X ++ [x0]).map xrow), fb g1 25 (tfd A' t.ls.length a' A3 (t.ps.length + 1) c3), rowR 57 97 A' t.ls.length a' (t.ls.map Lf.fds), fb g3 25 (tfd none 0 0 none 0 0), fb g2 57 l.fds] _ := h0.same
              exact ⟨A3, c3, t.ps.length + 1, X ++ [x0], by rw [e2, List.map_append, hX]; rfl, by simp [hXl], hM.addk.same⟩
            · intro hz
              ((with_reducible (refine mif_false ?_)))
              have e2 : addPs t = t.ps := if_neg (by omega)
              rw [e2]
              exact ⟨B', b', t.ps.length, X, hX, hXl, hM.sub⟩
          · clear hM
            rintro u3 w3 ⟨B2, b2, m, Y, hY, hYl, hM⟩
            ((with_reducible (refine mop_c trivial ?_; refine mm_ld hM ?_; refine mm_ld hM ?_; refine mm_bsl hM ?_ ?_ ?_)); (focus rfl); (focus (constructor <;> simp)); (with_reducible (clear hM; intro _ _ hM; refine mm_appo hM ?_ ?_)); (focus omega); (with_reducible (clear hM; intro _ _ _ hM; refine mop_c trivial ?_; refine mm_st hM ?_; clear hM; intro _ hM)))
            rename_i A3 c3 _ _
            have e4 : t.ls.length + 1 = (gapM t l).length := by rw [e1]; simp
            have e5 : t.ls.map Lf.fds ++ [l.fds] = (gapM t l).map Lf.fds := by
              rw [e1, List.map_append]
              rfl
            rw [e5, e4] at hM
            exact ⟨A3, c3, B2, b2, m, Y, hY, hYl, hM.sub⟩
        clear hM
        rintro u5 w5 ⟨A2, a2, B2, b2, m, Y, hY, hYl, hM⟩
        have hgn2 := gapM_len t l
        have hgs := gapM_set t l
        have hap := addPs_len hR l
        have hln : (addL t l).length ≤ 64 ∧ t.gap < (addL t l).length := by
          rw [addL_len]
          split <;> omega
        rw [← hY, List.length_map, hYl] at hap
        obtain ⟨g4, rfl⟩ := (hM.up A2).rowAt ⟨.refl _⟩ (by omega)
        ((with_reducible (refine mop_c trivial ?_; refine mm_ld hM ?_; refine mm_ld hM ?_; refine mm_ixr hM ?_ ?_)); (focus omega); (with_reducible (intro _ hA)); (cases hA); (with_reducible (refine mm_str hM ?_ ?_)); (focus omega); (with_reducible (clear hM; intro _ hM)))
        rw [Int.toNat_natCast, ← hg, ← List.map_set, hgs, hgn2] at hM
        rw [← hg]
        have hloose := hR.addPs_loose
        have hGl : ((addPs t).mapIdx (addF (addL t l).length t.gap)).length = (addPs t).length := by simp
        have hPl : (addPs t).length = m := by rw [← hY, List.length_map, hYl]
        refine ⟨fun v w' => ∃ (k : Nat) (Z : List Xp), v = .int .i64 k ∧ k ≤ m ∧ Z.length = m ∧ Z.map (·.1) = ((addPs t).mapIdx (addF (addL t l).length t.gap)).take k ++ (addPs t).drop k ∧ Mem H w1 [fb g1 25 (tfd (some ⟨g4, 0, none⟩) (addL t l).length a2 B2 m b2), fb g2 57 l.fds, fb g3 25 (tfd none 0 0 none 0 0), rowR 57 97 (some ⟨g4, 0, none⟩) (addL t l).length a2 ((addL t l).map Lf.fds), rowR 61 66 B2 m b2 (Z.map xrow), allR Z] w', fun v _ => match v with | .int _ k => m - k.toNat | _ => 0, ⟨0, Y, rfl, by omega, hYl, by simpa using hY, hM.same⟩, ?_⟩
        clear hM
        rintro v u6 w6 ⟨k, Z, rfl, hk, hZl, hZ, hM⟩
        ((with_reducible (refine mop_c trivial ?_; refine mm_ld hM ?_; refine mop_c trivial ?_)))
        ((with_reducible (refine mop_cS trivial ?_ ?_)))
        · intro hlt2
          have hk' : k < Z.length := by omega
          have hk2 : k < (addPs t).length := by omega
          have hZk := take_drop_get hZ hGl hk2 hk'
          have hget : ((addPs t).mapIdx (addF (addL t l).length t.gap))[k]'(by omega) = addF (addL t l).length t.gap k Z[k].1 := by rw [List.getElem_mapIdx, hZk]
          obtain ⟨hs1, -⟩ := hloose _ (List.getElem_mem hk2)
          rw [← hZk] at hs1
          ((with_reducible (refine mif_true ?_)))
          refine ⟨fun w' => ∃ (Z' : List Xp), Z'.length = m ∧ Z'.map (·.1) = ((addPs t).mapIdx (addF (addL t l).length t.gap)).take (k + 1) ++ (addPs t).drop (k + 1) ∧ Mem H w1 [fb g1 25 (tfd (some ⟨g4, 0, none⟩) (addL t l).length a2 B2 m b2), fb g2 57 l.fds, fb g3 25 (tfd none 0 0 none 0 0), rowR 57 97 (some ⟨g4, 0, none⟩) (addL t l).length a2 ((addL t l).map Lf.fds), rowR 61 66 B2 m b2 (Z'.map xrow), allR Z'] w', ?_, ?_⟩
          · skip
            refine ⟨fun v w' => v = .bool (decide (Z[k].1.set = true ∧ hld (addL t l).length (2 * k + 1) t.gap)) ∧ hM.now w', ?_, ?_⟩
            · ((with_reducible (refine mop_c trivial ?_; refine mm_ld hM ?_; refine mm_ixr hM ?_ ?_)); (focus omega); (with_reducible (intro _ hA)); (cases hA); (with_reducible (refine mop_c trivial ?_; refine mm_ldr hM (map_atI ?_) ?_)); (focus omega))
              rcases Bool.eq_false_or_eq_true Z[k].1.set with hs | hs
              · rw [hs]
                ((with_reducible (refine mguard_yes ?_; refine mop_c trivial ?_; refine mguard_yes ?_; refine mm_ld hM ?_; refine mguard_yes ?_; refine mop_c trivial ?_; refine mguard_yes ?_; refine mop_c trivial ?_; refine mguard_yes ?_; refine mop_c ?_ ?_)); (focus omega); (with_reducible (refine mguard_yes ?_; refine mop_c ?_ ?_)); (focus omega); (with_reducible (refine mguard_yes ?_; refine mop_c trivial ?_; refine mguard_yes ?_; refine mm_purC hM ?_ (fun _ hM2 => ?_))); (focus (first | exact trivial | assumption | omega)); (with_reducible (replace hM := hM2; clear hM2; refine mop_c trivial ?_)))
                refine ⟨?_, hM⟩
                congr 1
                rw [decide_eq_decide]
                exact ⟨fun h => ⟨rfl, h⟩, fun h => h.2⟩
              · rw [hs]
                ((with_reducible ((iterate 8 refine mguard_n2 ?_); refine mop_c trivial ?_)))
                exact ⟨by rw [decide_eq_false (fun h => by cases h.1)], hM⟩
            rintro v u7 w7 ⟨rfl, hM⟩
            by_cases hc2 : Z[k].1.set = true ∧ hld (addL t l).length (2 * k + 1) t.gap
            · rw [decide_eq_true hc2]
              have hM := (hM.at_ (allR Z)).outk hk'
              ((with_reducible (refine mif_true ?_; refine dp_c trivial ?_; refine dm_ld hM ?_; refine dp_c trivial ?_; refine dm_ld hM ?_; refine dp_ixr hM ?_ ?_)); (focus omega); (with_reducible (intro _ hA)); (cases hA); (with_reducible (refine dp_c trivial ?_; refine dm_ldr hM (map_atI ?_) ?_)); (focus omega))
              refine dm_joined (R := fun v L' => ∃ A5 c5, v = .slice A5 (putL Z[k].1.loose t.gap).length c5 ∧ L' = [rowR 3 1 A5 (putL Z[k].1.loose t.gap).length c5 (ints8 (putL Z[k].1.loose t.gap))]) hM (fun w hM => (rput_ok (H := Hp.of w) Z[k].1.loose t.gap (by omega) (hM.reads (A := Z[k].2.1)) (Fz.of w)).mono ?_) ?_
              · rintro e w' ⟨v, rfl, A5, c5, rfl, hP⟩
                exact ⟨_, _, rfl, ⟨A5, c5, rfl, rfl⟩, hP.weak (le_of hM.fz)⟩
              rintro v L' w' hx ⟨A5, c5, rfl, rfl⟩ hM
              rw [List.cons_append, List.nil_append] at hM
              ((with_reducible (refine dp_ixr hM ?_ ?_)); (focus omega); (with_reducible (intro _ hA)); (cases hA); (with_reducible (refine dp_c trivial ?_)))
              refine dm_stf hM (map_at hk') (fun w' hM => ?_)
              have hfy : addF (addL t l).length t.gap k Z[k].1 = { Z[k].1 with loose := putL Z[k].1.loose t.gap } := if_pos hc2
              have hrow : xrow (addF (addL t l).length t.gap k Z[k].1, A5, c5) = [.one (.bool Z[k].1.set), .arr 32 (u8s Z[k].1.pub.1), .arr 32 (u8s Z[k].1.abv.1), .one (.slice A5 (putL Z[k].1.loose t.gap).length c5)] := by
                rw [hfy]
              have hres : rowR 3 1 A5 (putL Z[k].1.loose t.gap).length c5 (ints8 (putL Z[k].1.loose t.gap)) = xres (addF (addL t l).length t.gap k Z[k].1, A5, c5) := by
                rw [hfy]
              rw [← hrow, Int.toNat_natCast, ← List.map_set, hres] at hM
              have hM := ((hM.at_ (restR Z k)).at_ (xres (addF (addL t l).length t.gap k Z[k].1, A5, c5))).ink hk'
              ((with_reducible (refine mm_end hM ?_; clear hM; intro _ hM)))
              exact ⟨Z.set k (addF (addL t l).length t.gap k Z[k].1, A5, c5), by simpa using hZl, set_take_drop hZ hGl hk2 hget.symm, hM.sub⟩
            · rw [decide_eq_false hc2]
              ((with_reducible (refine mif_false ?_)))
              refine ⟨Z, hZl, ?_, hM⟩
              have hsame : addF (addL t l).length t.gap k Z[k].1 = Z[k].1 := if_neg hc2
              rw [hsame, hZk] at hget
              rw [hZ, List.take_succ_eq_append_getElem (by omega), hget, List.append_assoc, List.drop_eq_getElem_cons hk2]
              rfl
          · clear hM
            rintro u7 w7 ⟨Z', hZl', hZ', hM⟩
            ((with_reducible (refine mop_c ?_ ?_)); (focus omega))
            exact ⟨⟨k + 1, Z', rfl, by omega, hZl', hZ', hM⟩, by simp only; omega⟩
        · intro hge2
          obtain rfl : k = m := by omega
          rw [List.drop_eq_nil_of_le (by omega), List.append_nil, List.take_of_length_le (by omega)] at hZ
          ((with_reducible (refine mif_false ?_; refine mm_ld hM ?_; refine mm_st hM ?_; clear hM; intro _ hM; refine rm_ld hM ?_)))
          rw [← hZl] at hM ⊢
          have hM : Mem H w1 [rowR 57 97 (some ⟨g4, 0, none⟩) (addL t l).length a2 ((addL t l).map Lf.fds), rowR 61 66 B2 Z.length b2 (Z.map xrow), allR Z] _ := hM.sub
          obtain ⟨H4, l4, hM, hT⟩ := hM.frzT (fun x hx => by
            have hm : x.1 ∈ (addPs t).mapIdx (addF (addL t l).length t.gap) := hZ ▸ List.mem_map_of_mem hx
            have := addF_loose (fun p hp => (hloose p hp).1) _ hm
            simp only [maxLen]
            omega)
          refine hM.out l4 (hq _ _ _ rfl ?_)
          rw [hZ] at hT
          exact hT
  · rintro u4 w4 ⟨hlt, hne, hM⟩
    ((with_reducible (refine mop_c ?_ ?_)); (focus omega))
    refine ⟨⟨i + 1, rfl, by omega, fun j hj hji => ?_, hM⟩, by simp only; omega⟩
    rcases Nat.lt_or_ge j i with h2 | h2
    · exact hlo j hj h2
    · obtain rfl : j = i := by omega
      exact decide_eq_false (hne hj)
end
end Go.Proofs.YtopcnkejobomaaaGreat
namespace Go.Proofs.YtopcnkejobomaaaGreat
open Go.RowKit Go.Lib
section
variable {H : Hp} {w0 w : World} {L R : List Res} {v : Value} {t : Tr}
theorem right_c (h : TrF H v t) (hf : Fz H w) : Calls Tryz.prog 8 #[v] w fun en w' => en = .returned (.bool t.right) ∧ St w [] w' := by
  obtain ⟨A, a, B, b, q, rfl, h1, h2, h3⟩ := h.ex
  exact right_ok h1 h2 h3 h.len.1 h.len.2 hf
theorem tright_c (h : TrF H v t) (hf : Fz H w) : Calls Tryz.prog 7 #[v] w fun en w' => en = .returned (.bool t.right) ∧ St w [] w' := by
  obtain ⟨A, a, B, b, q, rfl, h1, h2, h3⟩ := h.ex
  exact tright_ok h1 h2 h3 h.len.1 h.len.2 hf
theorem add_c (l : Lf) (h : TrF H v t) (hf : Fz H w) : Calls Tryz.prog 28 #[v, lv l] w (Outp H w fun H' r => ∃ v1, r = .tuple #[v1, .int .i64 (t.addP l).2.1, .int .i64 (t.addP l).2.2] ∧ TrF H' v1 (t.addP l).1) := by
  obtain ⟨A, a, B, b, q, rfl, h1, h2, h3⟩ := h.ex
  exact add_q l (fun H' v1 r e k => by rw [e]; exact ⟨v1, rfl, k⟩) h1 h2 h3 h.len.1 h.len.2 hf
theorem remove_c (p : Int) (h : TrF H v t) (hf : Fz H w) : Calls Tryz.prog 29 #[v, .int .i64 p] w (Outp H w fun H' r => ∃ v1, r = .tuple #[v1, .int .i64 (t.remP p).2] ∧ TrF H' v1 (t.remP p).1) := by
  obtain ⟨A, a, B, b, q, rfl, h1, h2, h3⟩ := h.ex
  exact remove_q p (fun H' v1 r e k => by rw [e]; exact ⟨v1, rfl, k⟩) h1 h2 h3 h.len.1 h.len.2 hf
theorem renew_c (p : Int) (pub : H32) (h : TrF H v t) (hf : Fz H w) : Calls Tryz.prog 113 #[v, .int .i64 p, ha pub] w (Outp H w fun H' r => ∃ v1, r = .tuple #[v1, .int .i64 (t.renP p pub).2] ∧ TrF H' v1 (t.renP p pub).1) := by
  obtain ⟨A, a, B, b, q, rfl, h1, h2, h3⟩ := h.ex
  exact renew_q p pub (fun H' v1 r e k => by rw [e]; exact ⟨v1, rfl, k⟩) h1 h2 h3 h.len.1 h.len.2 hf
theorem radd_c (l : Lf) (hR : t.Rt) (h : TrF H v t) (hf : Fz H w) : Calls Tryz.prog 140 #[v, lv l] w (Outp H w fun H' r => ∃ v1, r = .tuple #[v1, .int .i64 (t.addR l).2.1, .int .i64 (t.addR l).2.2] ∧ TrF H' v1 (t.addR l).1) := by
  obtain ⟨A, a, B, b, q, rfl, h1, h2, h3⟩ := h.ex
  exact radd_q l (fun H' v1 r e k => by rw [e]; exact ⟨v1, rfl, k⟩) hR h1 h2 h3 hf
theorem rremove_c (p : Int) (hR : t.Rt) (h : TrF H v t) (hf : Fz H w) : Calls Tryz.prog 139 #[v, .int .i64 p] w (Outp H w fun H' r => ∃ v1, r = .tuple #[v1, .int .i64 (t.remR p).2] ∧ TrF H' v1 (t.remR p).1) := by
  obtain ⟨A, a, B, b, q, rfl, h1, h2, h3⟩ := h.ex
  exact rremove_q p (fun H' v1 r e k => by rw [e]; exact ⟨v1, rfl, k⟩) hR h1 h2 h3 hf
theorem rrenew_c (p : Int) (pub : H32) (hR : t.Rt) (h : TrF H v t) (hf : Fz H w) : Calls Tryz.prog 138 #[v, .int .i64 p, ha pub] w (Outp H w fun H' r => ∃ v1, r = .tuple #[v1, .int .i64 (t.renR p pub).2] ∧ TrF H' v1 (t.renR p pub).1) := by
  obtain ⟨A, a, B, b, q, rfl, h1, h2, h3⟩ := h.ex
  exact rrenew_q p pub (fun H' v1 r e k => by rw [e]; exact ⟨v1, rfl, k⟩) hR h1 h2 h3 hf
end
end Go.Proofs.YtopcnkejobomaaaGreat
namespace Go.Proofs.YtopcnkejobomaaaGreat
open Go.RowKit Go.Lib
def lvsOk (s : List Int) (ls : List Lf) : Prop := (∀ l ∈ ls, l = Lf.zero ∨ (1 ≤ l.name ∧ l.name ≤ 64)) ∧ (∀ l ∈ ls, l.name ≠ 0 → l.name ∉ s) ∧ ∀ i j (hi : i < ls.length) (hj : j < ls.length), i < j → ls[i].name ≠ 0 → ls[i].name ≠ ls[j].name
theorem lvsOk_cons {s : List Int} {l : Lf} {r : List Lf} : lvsOk s (l :: r) ↔ (l = Lf.zero ∧ lvsOk s r) ∨ ((1 ≤ l.name ∧ l.name ≤ 64) ∧ l.name ∉ s ∧ lvsOk (l.name :: s) r) := by
  constructor
  · rintro ⟨h1, h2, h3⟩
    have hr1 : ∀ x ∈ r, x = Lf.zero ∨ (1 ≤ x.name ∧ x.name ≤ 64) := fun x hx => h1 x (List.mem_cons_of_mem _ hx)
    have hr3 : ∀ i j (hi : i < r.length) (hj : j < r.length), i < j → r[i].name ≠ 0 → r[i].name ≠ r[j].name := fun i j hi hj hij hn => by
      have := h3 (i + 1) (j + 1) (by simpa using hi) (by simpa using hj) (by omega)
      simpa using this hn
    rcases h1 l (List.mem_cons_self ..) with hz | hz
    · exact .inl ⟨hz, hr1, fun x hx => h2 x (List.mem_cons_of_mem _ hx), hr3⟩
    · refine .inr ⟨hz, h2 l (List.mem_cons_self ..) (by omega), hr1, fun x hx hn hm => ?_, hr3⟩
      rcases List.mem_cons.1 hm with e | hm
      · obtain ⟨j, hj, rfl⟩ := List.getElem_of_mem hx
        have := h3 0 (j + 1) (by simp) (by simpa using hj) (by omega)
        simp only [List.getElem_cons_zero, List.getElem_cons_succ] at this
        exact this (by omega) e.symm
      · exact h2 x (List.mem_cons_of_mem _ hx) hn hm
  · rintro (⟨hz, h1, h2, h3⟩ | ⟨hz, hs, h1, h2, h3⟩)
    · refine ⟨fun x hx => ?_, fun x hx hn => ?_, fun i j hi hj hij hn => ?_⟩
      · rcases List.mem_cons.1 hx with rfl | hx
        · exact .inl hz
        · exact h1 x hx
      · rcases List.mem_cons.1 hx with rfl | hx
        · rw [hz] at hn
          exact absurd rfl hn
        · exact h2 x hx hn
      · cases i with
        | zero =>
          rw [List.getElem_cons_zero, hz] at hn
          exact absurd rfl hn
        | succ i =>
          obtain ⟨j, rfl⟩ : ∃ k, j = k + 1 := ⟨j - 1, by omega⟩
          simp only [List.getElem_cons_succ] at hn ⊢
          exact h3 i j (by simpa using hi) (by simpa using hj) (by omega) hn
    · refine ⟨fun x hx => ?_, fun x hx hn => ?_, fun i j hi hj hij hn => ?_⟩
      · rcases List.mem_cons.1 hx with rfl | hx
        · exact .inr hz
        · exact h1 x hx
      · rcases List.mem_cons.1 hx with rfl | hx
        · exact hs
        · exact fun hm => h2 x hx hn (List.mem_cons_of_mem _ hm)
      · obtain ⟨j, rfl⟩ : ∃ k, j = k + 1 := ⟨j - 1, by omega⟩
        have hj' : j < r.length := by simpa using hj
        cases i with
        | zero =>
          simp only [List.getElem_cons_zero, List.getElem_cons_succ] at hn ⊢
          intro e
          exact h2 r[j] (List.getElem_mem hj') (by omega) (by rw [← e]; exact List.mem_cons_self ..)
        | succ i =>
          simp only [List.getElem_cons_succ] at hn ⊢
          exact h3 i j (by simpa using hi) hj' (by omega) hn
theorem leavesB_iff : ∀ {s : List Int} {ls : List Lf}, leavesB s ls = true ↔ lvsOk s ls
  | s, [] => ⟨fun _ => ⟨fun _ h => (by cases h), fun _ h => (by cases h), fun i j hi => (by cases hi)⟩, fun _ => rfl⟩
  | s, l :: r => by
    rw [lvsOk_cons]
    unfold leavesB
    by_cases hz : l = Lf.zero
    · rw [if_pos hz, leavesB_iff]
      constructor
      · exact fun h => .inl ⟨hz, h⟩
      · rintro (⟨-, h⟩ | ⟨h, -⟩)
        · exact h
        · rw [hz] at h
          simp [Lf.zero] at h
    · rw [if_neg hz, Bool.and_eq_true, decide_eq_true_eq, leavesB_iff]
      constructor
      · exact fun ⟨⟨h1, h2⟩, h3⟩ => .inr ⟨h1, h2, h3⟩
      · rintro (⟨h, -⟩ | ⟨h1, h2, h3⟩)
        · exact absurd h hz
        · exact ⟨⟨h1, h2⟩, h3⟩
theorem looseB_of {n : Int} {ls : List Lf} {x : Int} : ∀ {o : Option Int} {l : List Int}, (∀ p ∈ l, hld n x p ∧ nameAt ls p ≠ 0 ∧ ∀ q ∈ o, q < p) → l.Pairwise (· < ·) → looseB n ls x o l = true
  | _, [], _, _ => rfl
  | o, p :: r, h, hp => by
    obtain ⟨h1, h2⟩ := List.pairwise_cons.1 hp
    simp only [looseB, Bool.and_eq_true, decide_eq_true_eq]
    refine ⟨h p (List.mem_cons_self ..), looseB_of (fun y hy => ?_) h2⟩
    obtain ⟨a, b, -⟩ := h y (List.mem_cons_of_mem _ hy)
    exact ⟨a, b, fun q hq => by cases hq; exact h1 y hy⟩
theorem parB_mk {n : Int} {ls : List Lf} : ∀ {x : Int} {ps : List Pn}, (∀ i (hi : i < ps.length), (ps[i].set = true ∨ ps[i].isZero) ∧ looseB n ls (x + 2 * i) none ps[i].loose = true) → parB n ls x ps = true
  | _, [], _ => rfl
  | x, p :: r, h => by
    have h0 := h 0 (by simp)
    have ih := parB_mk (n := n) (ls := ls) (x := x + 2) (ps := r) fun i hi => by
      have := h (i + 1) (by simpa using hi)
      have e : x + 2 * ((i + 1 : Nat) : Int) = x + 2 + 2 * (i : Int) := by omega
      rw [e] at this
      simpa using this
    simp only [parB, Bool.and_eq_true, Bool.or_eq_true, decide_eq_true_eq]
    exact ⟨by simpa using h0, ih⟩
theorem Tr.Rt.mk' {t : Tr} (h1 : t.ls.length ≤ 64 ∧ t.ps.length = t.ls.length - 1) (h2 : lvsOk [] t.ls) (h3 : ∀ i (hi : i < t.ps.length), (t.ps[i].set = true ∨ t.ps[i].isZero) ∧ (∀ p ∈ t.ps[i].loose, hld t.size (2 * i + 1) p ∧ nameAt t.ls p ≠ 0) ∧ t.ps[i].loose.Pairwise (· < ·)) (h4 : t.ls = [] ∨ 0 < nameAt t.ls (t.size - 1)) : t.Rt :=
  ⟨h1, leavesB_iff.2 h2, parB_mk fun i hi => ⟨(h3 i hi).1, looseB_of (fun p hp => by
    have := (h3 i hi).2.1 p hp
    rw [show (1 : Int) + 2 * i = 2 * i + 1 by omega]
    exact ⟨this.1, this.2, fun _ h => by cases h⟩) (h3 i hi).2.2⟩, h4⟩
theorem Tr.Rt.parts {t : Tr} (h : t.Rt) : lvsOk [] t.ls ∧ ∀ i (hi : i < t.ps.length), (t.ps[i].set = true ∨ t.ps[i].isZero) ∧ (∀ p ∈ t.ps[i].loose, hld t.size (2 * i + 1) p ∧ nameAt t.ls p ≠ 0) ∧ t.ps[i].loose.Pairwise (· < ·) :=
  ⟨leavesB_iff.1 h.leaves, fun i hi => by
    obtain ⟨a, b⟩ := parB_spec h.par i hi
    obtain ⟨c, d⟩ := looseB_spec b
    rw [show (1 : Int) + 2 * i = 2 * i + 1 by omega] at c
    exact ⟨a, fun p hp => ⟨(c p hp).1, (c p hp).2.1⟩, d⟩⟩
end Go.Proofs.YtopcnkejobomaaaGreat
namespace Go.Proofs.YtopcnkejobomaaaGreat
open Go.RowKit Go.Lib
theorem nameAt_eq {ls ls' : List Lf} (hl : ls'.length = ls.length) (hn : ∀ i (h : i < ls'.length), ls'[i].name = (ls[i]'(by omega)).name) (p : Int) : nameAt ls' p = nameAt ls p := by
  unfold nameAt
  by_cases h : p.toNat < ls'.length
  · rw [List.getElem?_eq_getElem h, List.getElem?_eq_getElem (by omega)]
    exact hn _ h
  · rw [List.getElem?_eq_none (l := ls') (by omega), List.getElem?_eq_none (l := ls) (by omega)]
theorem lvsOk_same {ls ls' : List Lf} (h : lvsOk [] ls) (hl : ls'.length = ls.length) (hn : ∀ i (h : i < ls'.length), ls'[i].name = (ls[i]'(by omega)).name) (hz : ∀ l ∈ ls', l = Lf.zero ∨ (1 ≤ l.name ∧ l.name ≤ 64)) : lvsOk [] ls' :=
  ⟨hz, fun _ _ _ h => (by cases h), fun i j hi hj hij hne => by
    rw [hn i hi] at hne ⊢
    rw [hn j hj]
    exact h.2.2 i j (by omega) (by omega) hij hne⟩
theorem Tr.Rt.turned {t : Tr} (h : t.Rt) {ls : List Lf} {ps : List Pn} (hl : ls.length = t.ls.length) (hn : ∀ i (h : i < ls.length), ls[i].name = (t.ls[i]'(by omega)).name) (hz : ∀ l ∈ ls, l = Lf.zero ∨ (1 ≤ l.name ∧ l.name ≤ 64))
    (hp : ps.length = t.ps.length) (hq : ∀ i (h : i < ps.length), ps[i] = t.ps[i]'(by omega) ∨ ps[i] = Pn.zero ∨ (ps[i].set = true ∧ ps[i].loose = [])) : Tr.Rt ⟨ls, ps⟩ := by
  obtain ⟨a, b⟩ := h.parts
  have hna := nameAt_eq hl hn
  have hsz : (⟨ls, ps⟩ : Tr).size = t.size := by unfold Tr.size; simp only; omega
  refine Tr.Rt.mk' ⟨by simp only; have := h.len.1; omega, by simp only; have := h.len.2; omega⟩ (lvsOk_same a hl hn hz) (fun i hi => ?_) ?_
  · have hi2 : i < ps.length := hi
    rw [hsz]
    rcases hq i hi2 with e | e | ⟨e1, e2⟩
    · show (ps[i].set = true ∨ ps[i].isZero) ∧ (∀ p ∈ ps[i].loose, hld t.size (2 * i + 1) p ∧ nameAt ls p ≠ 0) ∧ ps[i].loose.Pairwise (· < ·)
      rw [e]
      obtain ⟨c, d, f⟩ := b i (by omega)
      exact ⟨c, fun p hp => ⟨(d p hp).1, by rw [hna]; exact (d p hp).2⟩, f⟩
    · show (ps[i].set = true ∨ ps[i].isZero) ∧ (∀ p ∈ ps[i].loose, hld t.size (2 * i + 1) p ∧ nameAt ls p ≠ 0) ∧ ps[i].loose.Pairwise (· < ·)
      rw [e]
      exact ⟨.inr ⟨rfl, rfl, rfl, rfl⟩, fun _ h => (by cases h), .nil⟩
    · show (ps[i].set = true ∨ ps[i].isZero) ∧ (∀ p ∈ ps[i].loose, hld t.size (2 * i + 1) p ∧ nameAt ls p ≠ 0) ∧ ps[i].loose.Pairwise (· < ·)
      rw [e2]
      exact ⟨.inl e1, fun _ h => (by cases h), .nil⟩
  · rw [hsz]
    show ls = [] ∨ 0 < nameAt ls (t.size - 1)
    rw [hna]
    exact h.last.imp (fun e => List.eq_nil_of_length_eq_zero (by rw [hl, e]; rfl)) id
theorem key_leaves {t : Tr} (h : t.Rt) {p : Int} (hp : ¬ t.nobody p) (pub abv : H32) : ∀ l ∈ t.ls.modify p.toNat (·.key pub abv), l = Lf.zero ∨ (1 ≤ l.name ∧ l.name ≤ 64) := fun l hl => by
  obtain ⟨i, hi, rfl⟩ := List.getElem_of_mem hl
  have hi' : i < t.ls.length := by simpa using hi
  have h0 := leavesB_spec h.leaves _ (List.getElem_mem hi')
  rw [List.getElem_modify]
  split
  · rename_i e
    subst e
    obtain ⟨b0, b1, b2⟩ := Tr.body hp
    have hne : nameAt t.ls p ≠ 0 := fun e => hp (.inr e)
    rw [nameAt_at b0 b1] at hne
    refine .inr ?_
    rcases h0 with h0 | h0
    · rw [h0] at hne
      exact absurd rfl hne
    · exact h0
  · exact h0
theorem key_names {ls : List Lf} {k : Nat} {pub abv : H32} : ∀ i (h : i < (ls.modify k (·.key pub abv)).length), (ls.modify k (·.key pub abv))[i].name = (ls[i]'(by simpa using h)).name := fun i h => by
  rw [List.getElem_modify]
  split <;> rfl
theorem ren_rt {t : Tr} (h : t.Rt) (p : Int) (pub : H32) (h0 : (t.renR p pub).2 = 0) : (t.renR p pub).1.Rt := by
  unfold Tr.renR at h0 ⊢
  by_cases hp : t.nobody p
  · rw [if_pos hp] at h0
    cases h0
  · rw [if_neg hp]
    refine h.turned (List.length_modify ..) key_names (key_leaves h hp _ _) (by unfold blankR; simp) fun i hi => ?_
    have e : (blankR t.size p t.ps)[i]'hi = (if hld t.size (2 * i + 1) p then Pn.zero else t.ps[i]'(by simpa [blankR] using hi)) := List.getElem_mapIdx ..
    rw [e]
    split
    · exact .inr (.inl rfl)
    · exact .inl rfl
theorem hld_other {n n' x p : Int} (h : hld n x p) (ht : thr n' x) (hp : p < n') : hld n' x p := by
  obtain ⟨-, -, ht1⟩ := hld_rng h
  obtain ⟨-, -, -, -, hF, hT, -⟩ := bough_eq ht1
  obtain ⟨-, -, -, -, hF2, hT2, -⟩ := bough_eq ht
  unfold hld at h ⊢
  rw [← hF, ← hT] at h
  rw [← hF2, ← hT2]
  unfold pFrom pTo at *
  rw [if_pos ht1, if_pos ht1] at h
  rw [if_pos ht, if_pos ht]
  omega
theorem keepN_spec (ls : List Lf) : ∀ n : Nat, (∀ j, j < n → nameAt ls j ≠ 0 → j < keepN ls n) ∧ (keepN ls n = 0 ∨ nameAt ls ((keepN ls n : Int) - 1) ≠ 0)
  | 0 => ⟨fun j h => by omega, .inl rfl⟩
  | n + 1 => by
    obtain ⟨a, b⟩ := keepN_spec ls n
    unfold keepN
    by_cases h : nameAt ls n = 0
    · rw [if_pos h]
      refine ⟨fun j hj hn => ?_, b⟩
      rcases Nat.lt_or_ge j n with h1 | h1
      · exact a j h1 hn
      · obtain rfl : j = n := by omega
        exact absurd h hn
    · rw [if_neg h]
      refine ⟨fun j hj _ => hj, .inr ?_⟩
      rw [show (((n + 1 : Nat) : Int) - 1) = (n : Int) by omega]
      exact h
theorem nameAt_set {ls : List Lf} {k : Nat} {l : Lf} {p : Int} (h0 : 0 ≤ p) (hk : k < ls.length) : nameAt (ls.set k l) p = if p = k then l.name else nameAt ls p := by
  unfold nameAt
  by_cases e : p = k
  · rw [if_pos e]
    have : p.toNat = k := by omega
    rw [this, List.getElem?_set_self hk]
  · rw [if_neg e, List.getElem?_set_ne (by omega)]
theorem nameAt_take {ls : List Lf} {k : Nat} {p : Int} (h : p.toNat < k) : nameAt (ls.take k) p = nameAt ls p := by
  unfold nameAt
  rw [List.getElem?_take, if_pos h]
theorem name_nonneg {ls : List Lf} (h : ∀ l ∈ ls, l = Lf.zero ∨ (1 ≤ l.name ∧ l.name ≤ 64)) (p : Int) : 0 ≤ nameAt ls p := by
  unfold nameAt
  by_cases hp : p.toNat < ls.length
  · rw [List.getElem?_eq_getElem hp]
    rcases h _ (List.getElem_mem hp) with e | e
    · simp only
      rw [e]
      exact Int.le_refl 0
    · simp only
      omega
  · rw [List.getElem?_eq_none (by omega)]
    exact Int.le_refl 0
theorem rem_rt {t : Tr} (h : t.Rt) (p : Int) (h0 : (t.remR p).2 = 0) : (t.remR p).1.Rt := by
  unfold Tr.remR at h0 ⊢
  by_cases hp : t.nobody p
  · rw [if_pos hp] at h0
    cases h0
  rw [if_neg hp]
  obtain ⟨b0, b1, b2⟩ := Tr.body hp
  obtain ⟨a, b⟩ := h.parts
  have hlen := h.len
  have hts : t.size = t.ls.length := rfl
  show (cut (t.ls.set p.toNat Lf.zero) (blankR t.size p t.ps)).Rt
  have hz : ∀ l ∈ t.ls.set p.toNat Lf.zero, l = Lf.zero ∨ (1 ≤ l.name ∧ l.name ≤ 64) := fun l hl => by
    rcases List.mem_or_eq_of_mem_set hl with hl | rfl
    · exact a.1 l hl
    · exact .inl rfl
  have hna : ∀ x, 0 ≤ x → nameAt (t.ls.set p.toNat Lf.zero) x = if x = p then 0 else nameAt t.ls x := fun x hx => by
    rw [nameAt_set hx b1, Int.toNat_of_nonneg b0]
    rfl
  have hlv : lvsOk [] (t.ls.set p.toNat Lf.zero) := ⟨hz, fun _ _ _ h => (by cases h), fun i j hi hj hij hne => by
    have hi' : i < t.ls.length := by simpa using hi
    have hj' : j < t.ls.length := by simpa using hj
    simp only [List.getElem_set] at hne ⊢
    by_cases e1 : p.toNat = i
    · rw [if_pos e1] at hne
      exact absurd rfl hne
    · rw [if_neg e1] at hne ⊢
      by_cases e2 : p.toNat = j
      · rw [if_pos e2]
        exact hne
      · rw [if_neg e2]
        exact a.2.2 i j hi' hj' hij hne⟩
  have hll : (t.ls.set p.toNat Lf.zero).length = t.ls.length := List.length_set
  generalize hls : t.ls.set p.toNat Lf.zero = ls at *
  obtain ⟨ks, kl⟩ := keepN_spec ls ls.length
  have kle := keepN_le ls ls.length
  unfold cut
  generalize hn' : keepN ls ls.length = n' at *
  have e1 : (ls.take n').length = n' := by rw [List.length_take]; omega
  have e2 : ((blankR t.size p t.ps).take (n' - 1)).length = n' - 1 := by rw [List.length_take]; unfold blankR; rw [List.length_mapIdx]; omega
  have hsz : (⟨ls.take n', (blankR t.size p t.ps).take (n' - 1)⟩ : Tr).size = n' := by unfold Tr.size; simp only; omega
  refine Tr.Rt.mk' ⟨by simp only; omega, by simp only; omega⟩ ⟨fun l hl => hlv.1 l (List.mem_of_mem_take hl), fun _ _ _ h => (by cases h), fun i j hi hj hij hne => ?_⟩ (fun i hi => ?_) ?_
  · simp only [List.getElem_take] at hne ⊢
    exact hlv.2.2 i j (by simp only [List.length_take] at hi; omega) (by simp only [List.length_take] at hj; omega) hij hne
  · rw [hsz]
    have hi2 : i < n' - 1 := by simp only [e2] at hi; exact hi
    have hi3 : i < t.ps.length := by omega
    have hg : ((blankR t.size p t.ps).take (n' - 1))[i]'hi = (if hld t.size (2 * i + 1) p then Pn.zero else t.ps[i]) := by
      simp only [List.getElem_take]
      unfold blankR
      rw [List.getElem_mapIdx]
    show (((blankR t.size p t.ps).take (n' - 1))[i].set = true ∨ ((blankR t.size p t.ps).take (n' - 1))[i].isZero) ∧ (∀ q ∈ ((blankR t.size p t.ps).take (n' - 1))[i].loose, hld n' (2 * i + 1) q ∧ nameAt (ls.take n') q ≠ 0) ∧ ((blankR t.size p t.ps).take (n' - 1))[i].loose.Pairwise (· < ·)
    rw [hg]
    by_cases hh : hld t.size (2 * i + 1) p
    · rw [if_pos hh]
      exact ⟨.inr ⟨rfl, rfl, rfl, rfl⟩, fun _ h => (by cases h), .nil⟩
    · rw [if_neg hh]
      obtain ⟨c, d, f⟩ := b i hi3
      refine ⟨c, fun q hq => ?_, f⟩
      obtain ⟨d1, d2⟩ := d q hq
      obtain ⟨q0, q1, -⟩ := hld_rng d1
      have hqp : q ≠ p := fun e => hh (e ▸ d1)
      have hqn : nameAt ls q ≠ 0 := by
        rw [hna q q0, if_neg hqp]
        exact d2
      have hqk : q.toNat < n' := ks q.toNat (by omega) (by rw [Int.toNat_of_nonneg q0]; exact hqn)
      refine ⟨hld_other d1 ⟨by omega, by omega, by omega⟩ (by omega), ?_⟩
      rw [nameAt_take hqk]
      exact hqn
  · rw [hsz]
    show ls.take n' = [] ∨ 0 < nameAt (ls.take n') (n' - 1)
    rcases kl with kl | kl
    · refine .inl ?_
      rw [kl]
      rfl
    · by_cases hz0 : n' = 0
      · refine .inl ?_
        rw [hz0]
        rfl
      · refine .inr ?_
        rw [nameAt_take (by omega)]
        have := name_nonneg hz ((n' : Int) - 1)
        omega
end Go.Proofs.YtopcnkejobomaaaGreat
namespace Go.Proofs.YtopcnkejobomaaaGreat
open Go.RowKit Go.Lib
theorem place_none {t : Tr} {x : Int} (h1 : 1 ≤ x) (h : ¬ 0 ≤ t.place x) : ∀ l ∈ t.ls, l.name ≠ x := fun l hl e => by
  unfold Tr.place fix at h
  rw [if_neg (by omega)] at h
  by_cases hf : t.ls.findIdx (fun l => decide (l.name = x)) < t.ls.length
  · rw [if_pos hf] at h
    omega
  · have := List.findIdx_eq_length.1 (show t.ls.findIdx (fun l => decide (l.name = x)) = t.ls.length by have := List.findIdx_le_length (p := fun l : Lf => decide (l.name = x)) (xs := t.ls); omega) l hl
    simp only [decide_eq_false_iff_not] at this
    exact this e
theorem putL_mem {l : List Int} {x y : Int} : y ∈ putL l x ↔ y = x ∨ y ∈ l := by
  induction l with
  | nil => simp [putL_nil]
  | cons z r ih =>
    rw [putL_cons]
    split
    · simp only [List.mem_cons, ih]
      constructor
      · rintro (h | h | h)
        · exact .inr (.inl h)
        · exact .inl h
        · exact .inr (.inr h)
      · rintro (h | h | h)
        · exact .inr (.inl h)
        · exact .inl h
        · exact .inr (.inr h)
    · simp only [List.mem_cons]
theorem putL_sorted {l : List Int} {x : Int} (h : l.Pairwise (· < ·)) (hx : x ∉ l) : (putL l x).Pairwise (· < ·) := by
  induction l with
  | nil => simp [putL_nil]
  | cons z r ih =>
    obtain ⟨h1, h2⟩ := List.pairwise_cons.1 h
    simp only [List.mem_cons, not_or] at hx
    rw [putL_cons]
    by_cases hz : z ≤ x
    · rw [if_pos hz]
      refine List.pairwise_cons.2 ⟨fun y hy => ?_, ih h2 hx.2⟩
      rcases putL_mem.1 hy with rfl | hy
      · omega
      · exact h1 y hy
    · rw [if_neg hz]
      refine List.pairwise_cons.2 ⟨fun y hy => ?_, h⟩
      rcases List.mem_cons.1 hy with rfl | hy
      · omega
      · have := h1 y hy
        omega
theorem gap_blank (t : Tr) : nameAt t.ls t.gap = 0 := by
  unfold nameAt
  rw [Int.toNat_natCast]
  by_cases h : t.gap < t.ls.length
  · rw [List.getElem?_eq_getElem h]
    have := List.findIdx_getElem (p := fun l : Lf => decide (l.name = 0)) (xs := t.ls) (w := h)
    simp only [decide_eq_true_eq] at this
    exact this
  · rw [List.getElem?_eq_none (by omega)]
theorem addL_get {t : Tr} {l : Lf} {i : Nat} (hi : i < (addL t l).length) : (addL t l)[i] = l ∧ i = t.gap ∨ ∃ h : i < t.ls.length, (addL t l)[i] = t.ls[i] ∧ i ≠ t.gap := by
  have hs := gapM_set t l
  have hg := gapM_len t l
  have hgl := t.gap_le
  have e : (addL t l)[i]'hi = ((gapM t l).set t.gap l)[i]'(by rw [hs]; exact hi) := rfl
  rw [e, List.getElem_set]
  by_cases h : t.gap = i
  · rw [if_pos h]
    exact .inl ⟨rfl, h.symm⟩
  · rw [if_neg h]
    have hl : i < t.ls.length := by
      rw [addL_len] at hi
      split at hi <;> omega
    refine .inr ⟨hl, ?_, fun e => h e.symm⟩
    unfold gapM
    split
    · rw [List.getElem_append_left hl]
    · rfl
theorem addL_name {t : Tr} {l : Lf} {x : Int} (h0 : 0 ≤ x) : nameAt (addL t l) x = if x = t.gap then l.name else nameAt t.ls x := by
  have hgl := t.gap_le
  have hll := addL_len t l
  by_cases hx : x.toNat < (addL t l).length
  · rw [nameAt_at h0 hx]
    rcases addL_get hx with ⟨e, e2⟩ | ⟨h, e, e2⟩
    · rw [e, if_pos (by omega)]
    · rw [e, if_neg (by omega), nameAt_at h0 h]
  · have hx2 : ¬ x.toNat < t.ls.length := by split at hll <;> omega
    rw [if_neg (by split at hll <;> omega)]
    unfold nameAt
    rw [List.getElem?_eq_none (l := addL t l) (by omega), List.getElem?_eq_none (l := t.ls) (by omega)]
theorem add_rt {t : Tr} (h : t.Rt) (l : Lf) (h0 : (t.addR l).2.2 = 0) : (t.addR l).1.Rt := by
  unfold Tr.addR at h0 ⊢
  by_cases h1 : l.name < 1 ∨ 64 < l.name
  · rw [if_pos h1] at h0
    cases h0
  rw [if_neg h1] at h0 ⊢
  by_cases h2 : 0 ≤ t.place l.name
  · rw [if_pos h2] at h0
    cases h0
  rw [if_neg h2] at h0 ⊢
  by_cases h3 : t.gap = 64
  · rw [if_pos h3] at h0
    cases h0
  rw [if_neg h3]
  obtain ⟨a, b⟩ := h.parts
  have hlen := h.len
  have hgl := t.gap_le
  have hpn := place_none (by omega) h2
  have hal := addPs_len h l
  have hll := addL_len t l
  have hgb := gap_blank t
  have hts : t.size = t.ls.length := rfl
  show Tr.Rt ⟨addL t l, (addPs t).mapIdx (addF (addL t l).length t.gap)⟩
  have hml : ((addPs t).mapIdx (addF (addL t l).length t.gap)).length = (addPs t).length := by simp
  have hsz : (⟨addL t l, (addPs t).mapIdx (addF (addL t l).length t.gap)⟩ : Tr).size = (addL t l).length := rfl
  have hz : ∀ x ∈ addL t l, x = Lf.zero ∨ (1 ≤ x.name ∧ x.name ≤ 64) := fun x hx => by
    obtain ⟨i, hi, rfl⟩ := List.getElem_of_mem hx
    rcases addL_get hi with ⟨e, -⟩ | ⟨hi2, e, -⟩
    · rw [e]
      exact .inr (by omega)
    · rw [e]
      exact a.1 _ (List.getElem_mem hi2)
  refine Tr.Rt.mk' ⟨by simp only; split at hll <;> omega, by simp only; omega⟩ ⟨hz, fun _ _ _ h => (by cases h), fun i j hi hj hij hne => ?_⟩ (fun i hi => ?_) ?_
  · have hi' : i < (addL t l).length := hi
    have hj' : j < (addL t l).length := hj
    show (addL t l)[i].name ≠ (addL t l)[j].name
    have hne : (addL t l)[i].name ≠ 0 := hne
    rcases addL_get hi' with ⟨e, ei⟩ | ⟨hi2, e, ei⟩
    · rcases addL_get hj' with ⟨f, fj⟩ | ⟨hj2, f, fj⟩
      · omega
      · rw [e, f]
        exact fun k => hpn _ (List.getElem_mem hj2) k.symm
    · rcases addL_get hj' with ⟨f, fj⟩ | ⟨hj2, f, fj⟩
      · rw [e, f]
        exact hpn _ (List.getElem_mem hi2)
      · rw [e] at hne ⊢
        rw [f]
        exact a.2.2 i j hi2 hj2 hij hne
  · rw [hsz]
    have hi2 : i < (addPs t).length := by rw [← hml]; exact hi
    have hg : ((addPs t).mapIdx (addF (addL t l).length t.gap))[i]'hi = addF (addL t l).length t.gap i (addPs t)[i] := List.getElem_mapIdx ..
    show (((addPs t).mapIdx (addF (addL t l).length t.gap))[i].set = true ∨ ((addPs t).mapIdx (addF (addL t l).length t.gap))[i].isZero) ∧ (∀ q ∈ ((addPs t).mapIdx (addF (addL t l).length t.gap))[i].loose, hld (addL t l).length (2 * i + 1) q ∧ nameAt (addL t l) q ≠ 0) ∧ ((addPs t).mapIdx (addF (addL t l).length t.gap))[i].loose.Pairwise (· < ·)
    rw [hg]
    have hn64 : (addL t l).length ≤ 64 := by split at hll <;> omega
    have hthr : thr (addL t l).length (2 * i + 1) := ⟨⟨by omega, by omega⟩, by omega, by omega⟩
    have hp0 : ((addPs t)[i].set = true ∨ (addPs t)[i].isZero) ∧ (∀ q ∈ (addPs t)[i].loose, hld (addL t l).length (2 * i + 1) q ∧ nameAt (addL t l) q ≠ 0 ∧ q ≠ t.gap) ∧ (addPs t)[i].loose.Pairwise (· < ·) := by
      have hcase : (∃ h : i < t.ps.length, (addPs t)[i] = t.ps[i]) ∨ (addPs t)[i] = Pn.zero := by
        unfold addPs at hi2 ⊢
        by_cases hc : t.gap = t.ls.length ∧ 0 < t.gap
        · simp only [if_pos hc] at hi2 ⊢
          by_cases hi3 : i < t.ps.length
          · exact .inl ⟨hi3, List.getElem_append_left hi3⟩
          · refine .inr ?_
            rw [List.getElem_append_right (by omega)]
            simp
        · simp only [if_neg hc] at hi2 ⊢
          exact .inl ⟨hi2, trivial⟩
      rcases hcase with ⟨hi3, e⟩ | e
      · rw [e]
        obtain ⟨c, d, f⟩ := b i hi3
        refine ⟨c, fun q hq => ?_, f⟩
        obtain ⟨d1, d2⟩ := d q hq
        obtain ⟨q0, q1, -⟩ := hld_rng d1
        have hqg : q ≠ t.gap := fun e => by
          rw [e] at d2
          exact d2 hgb
        refine ⟨hld_other d1 hthr (by split at hll <;> omega), ?_, hqg⟩
        rw [addL_name q0, if_neg hqg]
        exact d2
      · rw [e]
        exact ⟨.inr ⟨rfl, rfl, rfl, rfl⟩, fun _ h => (by cases h), .nil⟩
    obtain ⟨c, d, f⟩ := hp0
    unfold addF
    by_cases hc : (addPs t)[i].set = true ∧ hld (addL t l).length (2 * i + 1) t.gap
    · rw [if_pos hc]
      refine ⟨.inl hc.1, fun q hq => ?_, putL_sorted f fun hm => (d _ hm).2.2 rfl⟩
      rcases putL_mem.1 hq with rfl | hq
      · refine ⟨hc.2, ?_⟩
        rw [addL_name (by omega), if_pos rfl]
        omega
      · exact ⟨(d q hq).1, (d q hq).2.1⟩
    · rw [if_neg hc]
      exact ⟨c, fun q hq => ⟨(d q hq).1, (d q hq).2.1⟩, f⟩
  · rw [hsz]
    show addL t l = [] ∨ 0 < nameAt (addL t l) ((addL t l).length - 1)
    refine .inr ?_
    by_cases hg : t.gap = t.ls.length
    · rw [if_pos hg] at hll
      rw [addL_name (by omega), if_pos (by omega)]
      omega
    · rw [if_neg hg] at hll
      have hne : t.ls ≠ [] := fun e => by rw [e] at hgl hg; simp at hgl hg; omega
      have hl := h.last.resolve_left hne
      have hgne : ((addL t l).length : Int) - 1 ≠ t.gap := fun e => by
        rw [hts, show (t.ls.length : Int) - 1 = t.gap by omega, hgb] at hl
        omega
      rw [addL_name (by omega), if_neg hgne, show ((addL t l).length : Int) - 1 = t.size - 1 by rw [hll, hts]]
      exact hl
end Go.Proofs.YtopcnkejobomaaaGreat
namespace Go.Proofs.YtopcnkejobomaaaGreat
open Go.RowKit
theorem bits_or_comm (a b : Int) : bits .or .u32 a b = bits .or .u32 b a := by
  show IntKind.u32.wrap ((BitVec.ofInt 32 a ||| BitVec.ofInt 32 b).toNat : Int) = IntKind.u32.wrap ((BitVec.ofInt 32 b ||| BitVec.ofInt 32 a).toNat : Int)
  rw [BitVec.or_comm]
theorem wrap_u32_bd (a : Int) : 0 ≤ IntKind.u32.wrap a ∧ IntKind.u32.wrap a < 4294967296 := by
  have : IntKind.u32.wrap a = a % 4294967296 := by simp [IntKind.wrap, IntKind.bits, IntKind.signed]
  rw [this]; omega
def Wd (x : Int) : Prop := 0 ≤ x ∧ x < 4294967296
theorem wd_or (a b : Int) : Wd (bits .or .u32 a b) := wrap_u32_bd _
theorem wd_mod (a : Int) : Wd (a % 4294967296) := ⟨by omega, by omega⟩
def rotr (x : Int) (k : Nat) : Int := bits .or .u32 (x / 2 ^ k) (x * 2 ^ (32 - k) % 4294967296)
def word4 (a b c d : Int) : Int := bits .or .u32 (bits .or .u32 (bits .or .u32 (a * 16777216 % 4294967296) (b * 65536 % 4294967296)) (c * 256 % 4294967296)) d
def sig0 (x : Int) : Int := bits .xor .u32 (bits .xor .u32 (rotr x 7) (rotr x 18)) (x / 8)
def sig1 (x : Int) : Int := bits .xor .u32 (bits .xor .u32 (rotr x 17) (rotr x 19)) (x / 1024)
def nextw (a b x y : Int) : Int := (((a + b) % 4294967296 + sig0 x) % 4294967296 + sig1 y) % 4294967296
def wl (bs : List Int) : Nat → List Int
  | 0 => []
  | i + 1 => wl bs i ++ [if i < 16 then word4 (bs.getD (4 * i) 0) (bs.getD (4 * i + 1) 0) (bs.getD (4 * i + 2) 0) (bs.getD (4 * i + 3) 0)
      else nextw ((wl bs i).getD (i - 16) 0) ((wl bs i).getD (i - 7) 0) ((wl bs i).getD (i - 15) 0) ((wl bs i).getD (i - 2) 0)]
structure S8 where
  a : Int
  b : Int
  c : Int
  d : Int
  e : Int
  f : Int
  g : Int
  h : Int
  deriving DecidableEq
def S8.t1 (s : S8) (k w : Int) : Int :=
  ((((s.h + bits .xor .u32 (bits .xor .u32 (rotr s.e 6) (rotr s.e 11)) (rotr s.e 25)) % 4294967296 + bits .xor .u32 (bits .and .u32 s.e s.f) (bits .and .u32 (bits .xor .u32 4294967295 s.e) s.g)) % 4294967296 + k) % 4294967296 + w) % 4294967296
def S8.t2 (s : S8) : Int :=
  (bits .xor .u32 (bits .xor .u32 (rotr s.a 2) (rotr s.a 13)) (rotr s.a 22) + bits .xor .u32 (bits .xor .u32 (bits .and .u32 s.a s.b) (bits .and .u32 s.a s.c)) (bits .and .u32 s.b s.c)) % 4294967296
def S8.rnd (s : S8) (k w : Int) : S8 := ⟨(s.t1 k w + s.t2) % 4294967296, s.a, s.b, s.c, (s.d + s.t1 k w) % 4294967296, s.e, s.f, s.g⟩
def kl : List Int := [1116352408, 1899447441, 3049323471, 3921009573, 961987163, 1508970993, 2453635748, 2870763221, 3624381080, 310598401, 607225278, 1426881987, 1925078388, 2162078206, 2614888103, 3248222580, 3835390401, 4022224774, 264347078, 604807628, 770255983, 1249150122, 1555081692, 1996064986, 2554220882, 2821834349, 2952996808, 3210313671, 3336571891, 3584528711, 113926993, 338241895, 666307205, 773529912, 1294757372, 1396182291, 1695183700, 1986661051, 2177026350, 2456956037, 2730485921, 2820302411, 3259730800, 3345764771, 3516065817, 3600352804, 4094571909, 275423344, 430227734, 506948616, 659060556, 883997877, 958139571, 1322822218, 1537002063, 1747873779, 1955562222, 2024104815, 2227730452, 2361852424, 2428436474, 2756734187, 3204031479, 3329325298]
def rl (ws : List Int) : Nat → S8 → S8
  | 0, s => s
  | i + 1, s => (rl ws i s).rnd (kl.getD i 0) (ws.getD i 0)
def S8.add (s t : S8) : S8 := ⟨(s.a + t.a) % 4294967296, (s.b + t.b) % 4294967296, (s.c + t.c) % 4294967296, (s.d + t.d) % 4294967296, (s.e + t.e) % 4294967296, (s.f + t.f) % 4294967296, (s.g + t.g) % 4294967296, (s.h + t.h) % 4294967296⟩
def compress (s : S8) (bs : List Int) : S8 := s.add (rl (wl bs 64) 64 s)
def h0 : S8 := ⟨1779033703, 3144134277, 1013904242, 2773480762, 1359893119, 2600822924, 528734635, 1541459225⟩
def feed (x : S8 × List Int) (b : Int) : S8 × List Int := if x.2.length = 63 then (compress x.1 (x.2 ++ [b]), []) else (x.1, x.2 ++ [b])
end Go.Proofs.YtopcnkejobomaaaGreat
namespace Go.Proofs.YtopcnkejobomaaaGreat
@[simp] theorem kd_lit (n : Nat) : (OfNat.ofNat n : Kd) = Kd.ty n := rfl
theorem rot_k (x : Int) (k : Int) (c : Nat) (w : World) (h : Wd x) (hc : 0 < c ∧ c < 32) (hk : bits .and .u64 (k % 18446744073709551616) 31 = ((32 - c : Nat) : Int)) :
    Calls Tryz.prog 151 #[.int .u32 x, .int .i64 k] w fun e w' => e = .returned (.int .u32 (rotr x c)) ∧ w = w' := by
  obtain ⟨h0, h1⟩ := h
  refine C_math_bits_RotateLeft32 ?_
  unfold F_math_bits_RotateLeft32
  refine mop_c trivial ?_
  refine mop_c trivial ?_
  rw [hk]
  (repeat (first | (refine mop_c ?_ ?_; first | exact trivial | omega) | (refine dp_c ?_ ?_; first | exact trivial | omega)))
  refine ⟨?_, rfl⟩
  have e1 : ((32 - c : Nat) : Int).toNat = 32 - c := by omega
  have e2 : ((32 - ((32 - c : Nat) : Int)) % 18446744073709551616).toNat = c := by omega
  rw [e1, e2, bits_or_comm]
  rfl
theorem turned_k (x : Int) (c : Nat) (w : World) (h : Wd x) (hc : 0 < c ∧ c < 32) :
    Calls Tryz.prog 89 #[.int .u32 x, .int .u64 (c : Int)] w fun e w' => e = .returned (.int .u32 (rotr x c)) ∧ w = w' := by
  obtain ⟨h0, h1⟩ := h
  refine C_bevyref02_turned ?_
  unfold F_bevyref02_turned
  (repeat (first | (refine mop_c ?_ ?_; first | exact trivial | omega) | (refine dp_c ?_ ?_; first | exact trivial | omega)))
  refine ⟨?_, rfl⟩
  have e1 : ((c : Nat) : Int).toNat = c := by omega
  have e2 : ((32 - (c : Int)) % 18446744073709551616).toNat = 32 - c := by omega
  rw [e1, e2]
  rfl
end Go.Proofs.YtopcnkejobomaaaGreat
namespace Go.Proofs.YtopcnkejobomaaaGreat
open Go.RowKit
theorem wl_len (bs : List Int) : ∀ i, (wl bs i).length = i
  | 0 => rfl
  | i + 1 => by rw [wl, List.length_append, wl_len bs i]; rfl
theorem wl_old (bs : List Int) (i j : Nat) (h : j < i) : (wl bs (i + 1)).getD j 0 = (wl bs i).getD j 0 := by
  rw [wl, List.getD_eq_getElem?_getD, List.getElem?_append_left (by rw [wl_len]; exact h)]
  rfl
theorem wl_new (bs : List Int) (i : Nat) : (wl bs (i + 1)).getD i 0 = if i < 16 then word4 (bs.getD (4 * i) 0) (bs.getD (4 * i + 1) 0) (bs.getD (4 * i + 2) 0) (bs.getD (4 * i + 3) 0)
      else nextw ((wl bs i).getD (i - 16) 0) ((wl bs i).getD (i - 7) 0) ((wl bs i).getD (i - 15) 0) ((wl bs i).getD (i - 2) 0) := by
  conv => lhs; rw [wl]
  rw [List.getD_eq_getElem?_getD, List.getElem?_append_right (by rw [wl_len]; exact Nat.le_refl _), wl_len, Nat.sub_self]
  rfl
theorem wl_wd (bs : List Int) : ∀ i j, Wd ((wl bs i).getD j 0)
  | 0, j => by simp [wl, Wd]
  | i + 1, j => by
    rcases Nat.lt_trichotomy j i with h | h | h
    · rw [wl_old bs i j h]; exact wl_wd bs i j
    · subst h
      rw [wl_new]
      split
      · exact wd_or _ _
      · exact wd_mod _
    · rw [List.getD_eq_getElem?_getD, List.getElem?_eq_none (by rw [wl_len]; omega)]
      simp [Wd]
def stCells (hs bl : List Int) (n : Int) : List Value := u32s hs ++ (u8s bl ++ (Value.int .i64 n :: u32s kl))
theorem kl_len : kl.length = 64 := by decide
section
variable {hs bl : List Int} {n : Int}
theorem st_len (hh : hs.length = 8) (hb : bl.length = 64) : (stCells hs bl n).length = 137 := by
  simp [stCells, u32s, u8s, hh, hb, kl_len]
theorem st_h (hh : hs.length = 8) (i : Nat) (hi : i < 8) : (stCells hs bl n)[i]? = some (.int .u32 (hs.getD i 0)) := by
  rw [stCells, List.getElem?_append_left (by simp [u32s]; omega), u32s_at _ _ (by omega)]
theorem st_b (hh : hs.length = 8) (hb : bl.length = 64) (i : Nat) (hi : i < 64) : (stCells hs bl n)[8 + i]? = some (.int .u8 (bl.getD i 0)) := by
  rw [stCells, List.getElem?_append_right (by simp [u32s]; omega), List.getElem?_append_left (by simp [u32s, u8s]; omega)]
  rw [show 8 + i - (u32s hs).length = i by simp [u32s]; omega, u8s_at _ _ (by omega)]
theorem st_n (hh : hs.length = 8) (hb : bl.length = 64) : (stCells hs bl n)[72]? = some (.int .i64 n) := by
  rw [stCells, List.getElem?_append_right (by simp [u32s]; omega), List.getElem?_append_right (by simp [u32s, u8s]; omega)]
  rw [show 72 - (u32s hs).length - (u8s bl).length = 0 by simp [u32s, u8s]; omega]
  rfl
theorem st_k (hh : hs.length = 8) (hb : bl.length = 64) (i : Nat) (hi : i < 64) : (stCells hs bl n)[73 + i]? = some (.int .u32 (kl.getD i 0)) := by
  rw [stCells, List.getElem?_append_right (by simp [u32s]; omega), List.getElem?_append_right (by simp [u32s, u8s]; omega)]
  rw [show 73 + i - (u32s hs).length - (u8s bl).length = i + 1 by simp [u32s, u8s]; omega, List.getElem?_cons_succ, u32s_at _ _ (by rw [kl_len]; exact hi)]
theorem st_set_h (hh : hs.length = 8) (i : Nat) (hi : i < 8) (v : Int) : (stCells hs bl n).set i (.int .u32 v) = stCells (hs.set i v) bl n := by
  rw [stCells, stCells, List.set_append, if_pos (by simp [u32s]; omega)]
  simp [u32s, List.map_set]
theorem st_set_n (hh : hs.length = 8) (hb : bl.length = 64) (v : Int) : (stCells hs bl n).set 72 (.int .i64 v) = stCells hs bl v := by
  rw [stCells, stCells, List.set_append, if_neg (by simp [u32s]; omega), List.set_append, if_neg (by simp [u32s, u8s]; omega)]
  rw [show 72 - (u32s hs).length - (u8s bl).length = 0 by simp [u32s, u8s]; omega]
  rfl
end
theorem getD_bd (l : List Int) (i : Nat) (h : ∀ x ∈ l, 0 ≤ x ∧ x < 256) : 0 ≤ l.getD i 0 ∧ l.getD i 0 < 256 := by
  rw [List.getD_eq_getElem?_getD]
  cases hx : l[i]? with
  | none => simp
  | some x => exact h x (List.mem_of_getElem? hx)
theorem getD_wd (l : List Int) (i : Nat) (h : ∀ x ∈ l, Wd x) : Wd (l.getD i 0) := by
  rw [List.getD_eq_getElem?_getD]
  cases hx : l[i]? with
  | none => simp [Wd]
  | some x => exact h x (List.mem_of_getElem? hx)
def wk (bl : List Int) (k : Nat) : List Int := wl bl k ++ List.replicate (64 - k) 0
theorem wk_len (bl : List Int) (k : Nat) (h : k ≤ 64) : (wk bl k).length = 64 := by simp [wk, wl_len]; omega
theorem wk_at (bl : List Int) (k j : Nat) (h : j < k) : (u32s (wk bl k))[j]? = some (.int .u32 ((wl bl k).getD j 0)) := by
  rw [u32s_at _ _ (by simp [wk, wl_len]; omega), wk]
  congr 2
  rw [List.getD_eq_getElem?_getD, List.getElem?_append_left (by rw [wl_len]; exact h)]
  rfl
theorem wk_set (bl : List Int) (k : Nat) (h : k < 64) (v : Int) (hv : (wl bl (k + 1)).getD k 0 = v) : (u32s (wk bl k)).set k (.int .u32 v) = u32s (wk bl (k + 1)) := by
  have e : wl bl (k + 1) = wl bl k ++ [v] := by
    rw [wl]
    rw [wl_new] at hv
    rw [hv]
  unfold u32s wk
  rw [← List.map_set, List.set_append, if_neg (by rw [wl_len]; omega), wl_len, Nat.sub_self, e, List.append_assoc]
  congr 2
  rw [show 64 - k = (64 - (k + 1)) + 1 by omega, List.replicate_succ]
  rfl
def s8 (hs : List Int) : S8 := ⟨hs.getD 0 0, hs.getD 1 0, hs.getD 2 0, hs.getD 3 0, hs.getD 4 0, hs.getD 5 0, hs.getD 6 0, hs.getD 7 0⟩
def S8.list (s : S8) : List Int := [s.a, s.b, s.c, s.d, s.e, s.f, s.g, s.h]
structure S8.Ok (s : S8) : Prop where
  a : Wd s.a
  b : Wd s.b
  c : Wd s.c
  d : Wd s.d
  e : Wd s.e
  f : Wd s.f
  g : Wd s.g
  h : Wd s.h
theorem rl_ok (ws : List Int) {s : S8} (h : s.Ok) : ∀ i, (rl ws i s).Ok
  | 0 => h
  | i + 1 => by
    have h := rl_ok ws h i
    exact ⟨wd_mod _, h.a, h.b, h.c, wd_mod _, h.e, h.f, h.g⟩
def addK (hs ts : List Int) : Nat → List Int
  | 0 => hs
  | i + 1 => (addK hs ts i).set i ((hs.getD i 0 + ts.getD i 0) % 4294967296)
theorem addK_len (hs ts : List Int) : ∀ i, (addK hs ts i).length = hs.length
  | 0 => rfl
  | i + 1 => by rw [addK, List.length_set, addK_len hs ts i]
theorem addK_at (hs ts : List Int) : ∀ i j, i ≤ j → (addK hs ts i).getD j 0 = hs.getD j 0
  | 0, j, _ => rfl
  | i + 1, j, h => by
    rw [addK, List.getD_eq_getElem?_getD, List.getElem?_set_ne (by omega), ← List.getD_eq_getElem?_getD]
    exact addK_at hs ts i j (by omega)
theorem addK_end (hs : List Int) (s : S8) (hh : hs.length = 8) : addK hs s.list 8 = ((s8 hs).add s).list := by
  match hs, hh with
  | [a, b, c, d, e, f, g, h], _ => rfl
theorem build8 (a b c d e f g h : Int) : Pur Tryz.prog (o_build 126 [(0, .int .u32 a), (1, .int .u32 b), (2, .int .u32 c), (3, .int .u32 d), (4, .int .u32 e), (5, .int .u32 f), (6, .int .u32 g), (7, .int .u32 h)])
  (.agg (u32s [a, b, c, d, e, f, g, h]).toArray) := fun w => by kernel_rfl
set_option maxRecDepth 100000 in
set_option maxHeartbeats 2000000 in
theorem turn_ok (b : Nat) (hs bl : List Int) (n : Int) (w : World) (hb : Blf w b 131 (stCells hs bl n)) (hh : hs.length = 8) (hbl : bl.length = 64) (hby : ∀ x ∈ bl, 0 ≤ x ∧ x < 256) (hhw : ∀ x ∈ hs, Wd x) :
    Calls Tryz.prog 129 #[.pointer (some ⟨b, 0, none⟩)] w fun e w' => e = .returned (.tuple #[]) ∧ St w [⟨b, 131, stCells (compress (s8 hs) bl).list bl n, false⟩] w' := by
  refine C_sha_state_turn ?_
  unfold F_sha_state_turn
  refine mop_new (St.oneF hb) (fun g w1 h1 => ?_)
  refine ⟨fun x w2 => ∃ k : Nat, k ≤ 16 ∧ x = .int .i64 k ∧ St w [⟨g, 127, u32s (wk bl k), true⟩, ⟨b, 131, stCells hs bl n, false⟩] w2, fun x _ => 16 - (intOf x).toNat, ⟨0, by omega, rfl, h1⟩, ?_⟩
  rintro x21 u w2 ⟨k, hk, rfl, h2⟩
  refine mop_c trivial ?_
  refine mif_dec (fun hlt => ?_) (fun hge => ?_)
  · have q0 := getD_bd bl (4 * k) hby
    have q1 := getD_bd bl (4 * k + 1) hby
    have q2 := getD_bd bl (4 * k + 2) hby
    have q3 := getD_bd bl (4 * k + 3) hby
    (repeat (first | (refine mop_c ?_ ?_; first | exact trivial | omega) | (refine dp_c ?_ ?_; first | exact trivial | omega)))
    refine dq_ld ((h2.cell 1 rfl (8 + 4 * k)).trans (st_b hh hbl (4 * k) (by omega))) (by omega) ?_
    (repeat (first | (refine mop_c ?_ ?_; first | exact trivial | omega) | (refine dp_c ?_ ?_; first | exact trivial | omega)))
    refine dq_ld ((h2.cell 1 rfl (8 + (4 * k + 1))).trans (st_b hh hbl (4 * k + 1) (by omega))) (by omega) ?_
    (repeat (first | (refine mop_c ?_ ?_; first | exact trivial | omega) | (refine dp_c ?_ ?_; first | exact trivial | omega)))
    refine dq_ld ((h2.cell 1 rfl (8 + (4 * k + 2))).trans (st_b hh hbl (4 * k + 2) (by omega))) (by omega) ?_
    (repeat (first | (refine mop_c ?_ ?_; first | exact trivial | omega) | (refine dp_c ?_ ?_; first | exact trivial | omega)))
    refine dq_ld ((h2.cell 1 rfl (8 + (4 * k + 3))).trans (st_b hh hbl (4 * k + 3) (by omega))) (by omega) ?_
    (repeat (first | (refine mop_c ?_ ?_; first | exact trivial | omega) | (refine dp_c ?_ ?_; first | exact trivial | omega)))
    refine df_st (j := k) h2 (by omega) (by simp [u32s, wk_len bl k (by omega)]; omega) rfl (fun w3 h3 => ?_)
    refine dend_intro fun w4 hd => ?_
    have h4 := h3.drawn hd
    (repeat (first | (refine mop_c ?_ ?_; first | exact trivial | omega) | (refine dp_c ?_ ?_; first | exact trivial | omega)))
    refine ⟨⟨k + 1, by omega, rfl, ?_⟩, by simp [intOf]; omega⟩
    rw [wk_set bl k (by omega)] at h4
    · exact h4
    · rw [wl_new, if_pos (by omega)]
      rfl
  · obtain rfl : k = 16 := by omega
    refine ⟨fun x w2 => ∃ k : Nat, 16 ≤ k ∧ k ≤ 64 ∧ x = .int .i64 k ∧ St w [⟨g, 127, u32s (wk bl k), true⟩, ⟨b, 131, stCells hs bl n, false⟩] w2, fun x _ => 64 - (intOf x).toNat, ⟨16, by omega, by omega, rfl, h2⟩, ?_⟩
    clear h1 h2
    rintro x5 u2 w3 ⟨k, hk0, hk, rfl, h3⟩
    refine mop_c trivial ?_
    refine mif_dec (fun hlt => ?_) (fun hge => ?_)
    · have d15 := wl_wd bl k (k - 15)
      have d2 := wl_wd bl k (k - 2)
      (repeat (first | (refine mop_c ?_ ?_; first | exact trivial | omega) | (refine dp_c ?_ ?_; first | exact trivial | omega)))
      refine dq_ld ((h3.cell 0 rfl (k - 15)).trans (wk_at bl k (k - 15) (by omega))) (by omega) ?_
      (repeat (first | (refine mop_c ?_ ?_; first | exact trivial | omega) | (refine dp_c ?_ ?_; first | exact trivial | omega)))
      refine dq_ld ((h3.cell 0 rfl (k - 2)).trans (wk_at bl k (k - 2) (by omega))) (by omega) ?_
      refine dend_intro fun w4 hd => ?_
      have h4 := h3.drawn hd
      (repeat (first | (refine mop_c ?_ ?_; first | exact trivial | omega) | (refine dp_c ?_ ?_; first | exact trivial | omega)))
      refine dq_ld ((h4.cell 0 rfl (k - 16)).trans (wk_at bl k (k - 16) (by omega))) (by omega) ?_
      (repeat (first | (refine mop_c ?_ ?_; first | exact trivial | omega) | (refine dp_c ?_ ?_; first | exact trivial | omega)))
      refine dq_ld ((h4.cell 0 rfl (k - 7)).trans (wk_at bl k (k - 7) (by omega))) (by omega) ?_
      (repeat (first | (refine mop_c ?_ ?_; first | exact trivial | omega) | (refine dp_c ?_ ?_; first | exact trivial | omega)))
      refine df_eq (fun w => rot_k _ (-7) 7 w d15 (by decide) (by decide)) fun w5 hd5 => ?_
      refine df_eq (fun w => rot_k _ (-18) 18 w d15 (by decide) (by decide)) fun w6 hd6 => ?_
      (repeat (first | (refine mop_c ?_ ?_; first | exact trivial | omega) | (refine dp_c ?_ ?_; first | exact trivial | omega)))
      refine df_eq (fun w => rot_k _ (-17) 17 w d2 (by decide) (by decide)) fun w7 hd7 => ?_
      refine df_eq (fun w => rot_k _ (-19) 19 w d2 (by decide) (by decide)) fun w8 hd8 => ?_
      (repeat (first | (refine mop_c ?_ ?_; first | exact trivial | omega) | (refine dp_c ?_ ?_; first | exact trivial | omega)))
      have h8 := h4.drawn (((hd5.trans hd6).trans hd7).trans hd8)
      refine df_st (j := k) h8 (by omega) (by simp [u32s, wk_len bl k hk]; omega) rfl (fun w9 h9 => ?_)
      refine dend_intro fun w10 hd10 => ?_
      have h10 := h9.drawn hd10
      (repeat (first | (refine mop_c ?_ ?_; first | exact trivial | omega) | (refine dp_c ?_ ?_; first | exact trivial | omega)))
      refine ⟨⟨k + 1, by omega, by omega, rfl, ?_⟩, by simp [intOf]; omega⟩
      rw [wk_set bl k (by omega)] at h10
      · exact h10
      · rw [wl_new, if_neg (by omega)]
        rfl
    · obtain rfl : k = 64 := by omega
      have hw : wk bl 64 = wl bl 64 := by simp [wk]
      have hWl : (wl bl 64).length = 64 := wl_len bl 64
      have hcomp : compress (s8 hs) bl = (s8 hs).add (rl (wl bl 64) 64 (s8 hs)) := rfl
      rw [hw] at h3
      rw [hcomp]
      clear hw hcomp
      generalize wl bl 64 = W at h3 hWl ⊢
      (repeat (first | (refine mop_c ?_ ?_; first | exact trivial | omega) | (refine dp_c ?_ ?_; first | exact trivial | omega)))
      refine dq_ld ((h3.cell 1 rfl 0).trans (st_h hh 0 (by omega))) rfl ?_
      (repeat (first | (refine mop_c ?_ ?_; first | exact trivial | omega) | (refine dp_c ?_ ?_; first | exact trivial | omega)))
      refine dq_ld ((h3.cell 1 rfl 1).trans (st_h hh 1 (by omega))) rfl ?_
      (repeat (first | (refine mop_c ?_ ?_; first | exact trivial | omega) | (refine dp_c ?_ ?_; first | exact trivial | omega)))
      refine dq_ld ((h3.cell 1 rfl 2).trans (st_h hh 2 (by omega))) rfl ?_
      (repeat (first | (refine mop_c ?_ ?_; first | exact trivial | omega) | (refine dp_c ?_ ?_; first | exact trivial | omega)))
      refine dq_ld ((h3.cell 1 rfl 3).trans (st_h hh 3 (by omega))) rfl ?_
      (repeat (first | (refine mop_c ?_ ?_; first | exact trivial | omega) | (refine dp_c ?_ ?_; first | exact trivial | omega)))
      refine dq_ld ((h3.cell 1 rfl 4).trans (st_h hh 4 (by omega))) rfl ?_
      (repeat (first | (refine mop_c ?_ ?_; first | exact trivial | omega) | (refine dp_c ?_ ?_; first | exact trivial | omega)))
      refine dq_ld ((h3.cell 1 rfl 5).trans (st_h hh 5 (by omega))) rfl ?_
      (repeat (first | (refine mop_c ?_ ?_; first | exact trivial | omega) | (refine dp_c ?_ ?_; first | exact trivial | omega)))
      refine dq_ld ((h3.cell 1 rfl 6).trans (st_h hh 6 (by omega))) rfl ?_
      (repeat (first | (refine mop_c ?_ ?_; first | exact trivial | omega) | (refine dp_c ?_ ?_; first | exact trivial | omega)))
      refine dq_ld ((h3.cell 1 rfl 7).trans (st_h hh 7 (by omega))) rfl ?_
      refine dend_intro fun w4 hd => ?_
      have h4 := h3.drawn hd
      clear h3
      have hok : (s8 hs).Ok := ⟨getD_wd _ _ hhw, getD_wd _ _ hhw, getD_wd _ _ hhw, getD_wd _ _ hhw, getD_wd _ _ hhw, getD_wd _ _ hhw, getD_wd _ _ hhw, getD_wd _ _ hhw⟩
      refine ⟨fun xa xb xc xd xe xf xg xh x w2 => ∃ i : Nat, i ≤ 64 ∧ x = .int .i64 i ∧ xa = .int .u32 (rl W i (s8 hs)).a ∧ xb = .int .u32 (rl W i (s8 hs)).b ∧ xc = .int .u32 (rl W i (s8 hs)).c ∧ xd = .int .u32 (rl W i (s8 hs)).d ∧
          xe = .int .u32 (rl W i (s8 hs)).e ∧ xf = .int .u32 (rl W i (s8 hs)).f ∧ xg = .int .u32 (rl W i (s8 hs)).g ∧ xh = .int .u32 (rl W i (s8 hs)).h ∧
          St w [⟨g, 127, u32s W, true⟩, ⟨b, 131, stCells hs bl n, false⟩] w2, fun _ _ _ _ _ _ _ _ x _ => 64 - (intOf x).toNat, ⟨0, by omega, rfl, rfl, rfl, rfl, rfl, rfl, rfl, rfl, rfl, h4⟩, ?_⟩
      clear h4 hd
      rintro xa xb xc xd xe xf xg xh x u3 w5 ⟨i, hi, rfl, rfl, rfl, rfl, rfl, rfl, rfl, rfl, rfl, h5⟩
      have hr := rl_ok W hok i
      have hrs : rl W (i + 1) (s8 hs) = (rl W i (s8 hs)).rnd (kl.getD i 0) (W.getD i 0) := rfl
      obtain ⟨s', hs'⟩ : ∃ s', s' = rl W (i + 1) (s8 hs) := ⟨_, rfl⟩
      obtain ⟨s, hs64⟩ : ∃ s, rl W i (s8 hs) = s := ⟨_, rfl⟩
      rw [← hs'] at hrs
      rw [hs64] at hr hrs
      rw [hs64]
      refine mop_c trivial ?_
      refine mif_dec (fun hlt => ?_) (fun hge => ?_)
      · refine df_eq (fun w => rot_k _ (-6) 6 w hr.e (by decide) (by decide)) fun w6 hd6 => ?_
        refine df_eq (fun w => rot_k _ (-11) 11 w hr.e (by decide) (by decide)) fun w7 hd7 => ?_
        (repeat (first | (refine mop_c ?_ ?_; first | exact trivial | omega) | (refine dp_c ?_ ?_; first | exact trivial | omega)))
        refine df_eq (fun w => rot_k _ (-25) 25 w hr.e (by decide) (by decide)) fun w8 hd8 => ?_
        (repeat (first | (refine mop_c ?_ ?_; first | exact trivial | omega) | (refine dp_c ?_ ?_; first | exact trivial | omega)))
        refine dq_ld ((h5.cell 1 rfl (73 + i)).trans (st_k hh hbl i (by omega))) (by omega) ?_
        (repeat (first | (refine mop_c ?_ ?_; first | exact trivial | omega) | (refine dp_c ?_ ?_; first | exact trivial | omega)))
        refine dq_ld ((h5.cell 0 rfl i).trans (u32s_at W i (by omega))) (by omega) ?_
        (repeat (first | (refine mop_c ?_ ?_; first | exact trivial | omega) | (refine dp_c ?_ ?_; first | exact trivial | omega)))
        refine dend_intro fun w9 hd9 => ?_
        have h9 := h5.drawn (((hd6.trans hd7).trans hd8).trans hd9)
        refine mop_eq (rot_k _ (-2) 2 _ hr.a (by decide) (by decide)) ?_
        refine mop_eq (rot_k _ (-13) 13 _ hr.a (by decide) (by decide)) ?_
        (repeat (first | (refine mop_c ?_ ?_; first | exact trivial | omega) | (refine dp_c ?_ ?_; first | exact trivial | omega)))
        refine mop_eq (rot_k _ (-22) 22 _ hr.a (by decide) (by decide)) ?_
        (repeat (first | (refine mop_c ?_ ?_; first | exact trivial | omega) | (refine dp_c ?_ ?_; first | exact trivial | omega)))
        refine ⟨⟨i + 1, by omega, rfl, ?_, ?_, ?_, ?_, ?_, ?_, ?_, ?_, h9⟩, by simp [intOf]; omega⟩
        all_goals (rw [← hs', hrs]; rfl)
      · obtain rfl : i = 64 := by omega
        refine mop_pur (build8 _ _ _ _ _ _ _ _) ?_
        have hrs : rl W 64 (s8 hs) = s := hs64
        refine ⟨fun x w2 => ∃ i : Nat, i ≤ 8 ∧ x = .int .i64 i ∧ St w [⟨b, 131, stCells (addK hs s.list i) bl n, false⟩, ⟨g, 127, u32s W, true⟩] w2, fun x _ => 8 - (intOf x).toNat, ⟨0, by omega, rfl, h5.swap⟩, ?_⟩
        clear h5
        rintro x u4 w6 ⟨i, hi, rfl, h6⟩
        refine mop_c trivial ?_
        refine mif_dec (fun hlt => ?_) (fun hge => ?_)
        · refine mop_pur (p_index_array _ 125 8 _ _ _ (.int .u32 (s.list.getD i 0)) (by kernel_rfl) (by kernel_rfl) (by omega) (by omega) ?_) ?_
          · have := u32s_at s.list i (by simp [S8.list]; omega)
            have e : ((i : Nat) : Int).toNat = i := by omega
            rw [e, List.getElem?_toArray]
            exact this
          have hal := addK_len hs s.list i
          (repeat (first | (refine mop_c ?_ ?_; first | exact trivial | omega) | (refine dp_c ?_ ?_; first | exact trivial | omega)))
          refine dq_ld ((h6.cell 0 rfl i).trans (st_h (by omega) i (by omega))) (by omega) ?_
          (repeat (first | (refine mop_c ?_ ?_; first | exact trivial | omega) | (refine dp_c ?_ ?_; first | exact trivial | omega)))
          refine df_st (j := i) h6 (by omega) (by rw [st_len (by omega) hbl]; omega) rfl (fun w7 h7 => ?_)
          refine dend_intro fun w8 hd8 => ?_
          have h8 := h7.drawn hd8
          (repeat (first | (refine mop_c ?_ ?_; first | exact trivial | omega) | (refine dp_c ?_ ?_; first | exact trivial | omega)))
          refine ⟨⟨i + 1, by omega, rfl, ?_⟩, by simp [intOf]; omega⟩
          rw [st_set_h (by omega) i (by omega), addK_at hs s.list i i (Nat.le_refl i)] at h8
          exact h8
        · obtain rfl : i = 8 := by omega
          refine ⟨rfl, ?_⟩
          rw [hrs, ← addK_end hs s hh]
          exact h6.swap.drop
end Go.Proofs.YtopcnkejobomaaaGreat
namespace Go.Proofs.YtopcnkejobomaaaGreat
open Go.RowKit
def feedAll (x : S8 × List Int) (bs : List Int) : S8 × List Int := bs.foldl feed x
theorem feedAll_append (x : S8 × List Int) (a b : List Int) : feedAll x (a ++ b) = feedAll (feedAll x a) b := by simp [feedAll]
theorem feedAll_short (s : S8) : ∀ (bs p : List Int), p.length + bs.length < 64 → feedAll (s, p) bs = (s, p ++ bs)
  | [], p, _ => by simp [feedAll]
  | b :: bs, p, h => by
    have h1 : feed (s, p) b = (s, p ++ [b]) := by
      unfold feed
      rw [if_neg (by simp at h ⊢; omega)]
    show feedAll (feed (s, p) b) bs = _
    rw [h1, feedAll_short s bs (p ++ [b]) (by simp at h ⊢; omega)]
    simp
theorem feedAll_full (s : S8) (bs p : List Int) (hb : 0 < bs.length) (h : p.length + bs.length = 64) : feedAll (s, p) bs = (compress s (p ++ bs), []) := by
  obtain ⟨cs, c, rfl⟩ : ∃ cs c, bs = cs ++ [c] := ⟨bs.dropLast, bs.getLast (by intro e; simp [e] at hb), (List.dropLast_concat_getLast _).symm⟩
  rw [feedAll_append, feedAll_short s cs p (by simp at h; omega)]
  show feed (s, p ++ cs) c = _
  unfold feed
  rw [if_pos (by simp at h ⊢; omega)]
  simp
theorem compress_ok {s : S8} (bs : List Int) : (compress s bs).Ok := ⟨wd_mod _, wd_mod _, wd_mod _, wd_mod _, wd_mod _, wd_mod _, wd_mod _, wd_mod _⟩
structure Dig (x : S8 × List Int) (n : Nat) (bl : List Int) : Prop where
  ok : x.1.Ok
  len : bl.length = 64
  by_ : ∀ c ∈ bl, 0 ≤ c ∧ c < 256
  pend : x.2.length = n % 64
  has : bl.take x.2.length = x.2
theorem s8_list (s : S8) : s8 s.list = s := rfl
theorem list_wd {s : S8} (h : s.Ok) : ∀ x ∈ s.list, Wd x := by
  intro x hx
  simp only [S8.list, List.mem_cons, List.not_mem_nil, or_false] at hx
  rcases hx with rfl | rfl | rfl | rfl | rfl | rfl | rfl | rfl
  · exact h.a
  · exact h.b
  · exact h.c
  · exact h.d
  · exact h.e
  · exact h.f
  · exact h.g
  · exact h.h
def blCopy (bl bs : List Int) (i : Nat) : List Int := bl.take i ++ bs ++ bl.drop (i + bs.length)
theorem st_lay (hs bl bs : List Int) (n : Int) (i : Nat) (hh : hs.length = 8) (hb : bl.length = 64) (hi : i + bs.length ≤ 64) : lay (stCells hs bl n) (u8s bs) (8 + i) = stCells hs (blCopy bl bs i) n := by
  have e8 : (u32s hs).length = 8 := by simp [u32s, hh]
  have ebs : (u8s bs).length = bs.length := by simp [u8s]
  unfold lay stCells
  rw [List.take_append, List.take_of_length_le (by omega), List.drop_append, List.drop_eq_nil_of_le (by omega), e8, ebs]
  rw [show 8 + i - 8 = i by omega, show 8 + i + bs.length - 8 = i + bs.length by omega]
  rw [List.take_append_of_le_length (by simp [u8s]; omega), List.drop_append_of_le_length (by simp [u8s]; omega)]
  simp [u8s, blCopy]
theorem put_step {x : S8 × List Int} {n : Nat} {bl bs : List Int} (h : Dig x n bl) (hbs : ∀ c ∈ bs, 0 ≤ c ∧ c < 256) (hl : n % 64 + bs.length ≤ 64) (h0 : 0 < bs.length) :
    let bl' := blCopy bl bs (n % 64)
    (∀ c ∈ bl', 0 ≤ c ∧ c < 256) ∧ bl'.length = 64 ∧ (n % 64 + bs.length < 64 → Dig (feedAll x bs) (n + bs.length) bl' ∧ (feedAll x bs).1 = x.1) ∧ (n % 64 + bs.length = 64 → (feedAll x bs).1 = compress x.1 bl' ∧ Dig (feedAll x bs) (n + bs.length) bl') := by
  obtain ⟨s, p⟩ := x
  obtain ⟨hok, hlen, hby, hp, hhas⟩ := h
  simp only [] at hp hhas hok
  have hpn : p.length ≤ 64 := by omega
  have hb1 : ∀ c ∈ blCopy bl bs (n % 64), 0 ≤ c ∧ c < 256 := fun c hc => by
    simp only [blCopy, List.mem_append] at hc
    rcases hc with (hc | hc) | hc
    · exact hby c (List.mem_of_mem_take hc)
    · exact hbs c hc
    · exact hby c (List.mem_of_mem_drop hc)
  have hb2 : (blCopy bl bs (n % 64)).length = 64 := by simp [blCopy, hlen]; omega
  have hpre : (blCopy bl bs (n % 64)).take (p.length + bs.length) = p ++ bs := by
    unfold blCopy
    rw [hp] at hhas
    rw [hhas, hp, List.take_append_of_le_length (by simp [hp]), List.take_of_length_le (by simp [hp])]
  refine ⟨hb1, hb2, fun hlt => ?_, fun heq => ?_⟩
  · have e := feedAll_short s bs p (by omega)
    rw [e]
    exact ⟨⟨hok, hb2, hb1, by simp [hp]; omega, by simpa using hpre⟩, rfl⟩
  · have e := feedAll_full s bs p h0 (by omega)
    rw [e]
    have hall : blCopy bl bs (n % 64) = p ++ bs := by
      rw [← hpre, List.take_of_length_le (by omega)]
    refine ⟨by rw [hall], compress_ok _, hb2, hb1, ?_, rfl⟩
    simp
    omega
def strLen : Value → Nat
  | .string s => s.size
  | _ => 0
theorem ints_extract (s : ByteArray) (i j : Nat) : ints (s.extract i j) = ((ints s).take j).drop i := by
  simp [ints, List.map_drop, List.map_take]
  rw [List.drop_take]
theorem extract_extract (s : ByteArray) (k m : Nat) (h : k + m ≤ s.size) : (s.extract k s.size).extract m (s.size - k) = s.extract (k + m) s.size := by
  rw [← str_ints ((s.extract k s.size).extract m (s.size - k)), ← str_ints (s.extract (k + m) s.size), ints_extract, ints_extract, ints_extract]
  congr 1
  have hl := ints_length s
  have e : (ints s).take s.size = ints s := List.take_of_length_le (by omega)
  rw [e, List.take_of_length_le (by rw [List.length_drop]; omega), List.drop_drop]
set_option maxRecDepth 100000 in
theorem put_ok (b : Nat) (x : S8 × List Int) (n : Nat) (bl : List Int) (t : ByteArray) (w : World) (hb : Blf w b 131 (stCells x.1.list bl n)) (hd : Dig x n bl) (hn : n + t.size < 9223372036854775808) :
    Calls Tryz.prog 86 #[.pointer (some ⟨b, 0, none⟩), .string t] w fun e w' => e = .returned (.tuple #[]) ∧ ∃ bl', Dig (feedAll x (ints t)) (n + t.size) bl' ∧ St w [⟨b, 131, stCells (feedAll x (ints t)).1.list bl' ((n + t.size : Nat) : Int), false⟩] w' := by
  refine C_sha_state_put ?_
  unfold F_sha_state_put
  refine ⟨fun v w2 => ∃ (k : Nat) (bl' : List Int), k ≤ t.size ∧ v = .string (t.extract k t.size) ∧ Dig (feedAll x ((ints t).take k)) (n + k) bl' ∧ St w [⟨b, 131, stCells (feedAll x ((ints t).take k)).1.list bl' ((n + k : Nat) : Int), false⟩] w2, fun v _ => strLen v, ⟨0, bl, by omega, by simp, by simpa [feedAll] using hd, by simp [feedAll]; exact St.oneF hb⟩, ?_⟩
  rintro v u w1 ⟨k, bl', hk, rfl, hd1, h1⟩
  have hsz : (t.extract k t.size).size = t.size - k := by simp
  refine mop_c trivial ?_
  rw [hsz]
  refine mop_c trivial ?_
  refine mif_dec (fun hlt => ?_) (fun hge => ?_)
  · have hll : 0 < t.size - k := by omega
    (repeat (first | (refine mop_c ?_ ?_; first | exact trivial | omega) | (refine dp_c ?_ ?_; first | exact trivial | omega)))
    have hlist : (feedAll x ((ints t).take k)).1.list.length = 8 := rfl
    refine dq_ld ((h1.cell 0 rfl 72).trans (st_n hlist hd1.len)) rfl ?_
    (repeat (first | (refine mop_c ?_ ?_; first | exact trivial | omega) | (refine dp_c ?_ ?_; first | exact trivial | omega)))
    refine df_mop fun w2 hd2 => ?_
    have hi : ((((n + k : Nat) : Int)) % 64).toNat = (n + k) % 64 := by omega
    rw [hi]
    obtain ⟨w3, hr, h3⟩ := run_copy_string (P := Tryz.prog) (o := 0 + 8 + (n + k) % 64) (m := 64 - (n + k) % 64) (c := 64 - (n + k) % 64) (s := t.extract k t.size) (dT := 135) (sT := 9) (ty := 3) (e := 5) (ks := [false, false]) (h1.drawn hd2) (by kernel_rfl) (by kernel_rfl) (by rw [st_len hlist hd1.len]; omega)
    refine mop_run hr ⟨(fun e => by cases e), ?_⟩
    have hm : min (t.extract k t.size).size (64 - (n + k) % 64) = min (t.size - k) (64 - (n + k) % 64) := by rw [hsz]
    rw [hm] at h3 ⊢
    obtain ⟨m, hmm⟩ : ∃ m, m = min (t.size - k) (64 - (n + k) % 64) := ⟨_, rfl⟩
    rw [← hmm] at h3 ⊢
    have hbl : ((ints (t.extract k t.size)).take m).length = m := by rw [List.length_take, ints_length, hsz]; omega
    have hbr : ∀ c ∈ (ints (t.extract k t.size)).take m, 0 ≤ c ∧ c < 256 := fun c hc => ints_range _ c (List.mem_of_mem_take hc)
    rw [show 0 + 8 + (n + k) % 64 = 8 + (n + k) % 64 by omega, st_lay _ _ _ _ _ hlist hd1.len (by rw [hbl]; omega)] at h3
    have hstep := put_step hd1 hbr (by rw [hbl]; omega) (by rw [hbl]; omega)
    have hfeed : feedAll (feedAll x ((ints t).take k)) ((ints (t.extract k t.size)).take m) = feedAll x ((ints t).take (k + m)) := by
      have e : (ints t).take t.size = ints t := List.take_of_length_le (by rw [ints_length]; omega)
      rw [← feedAll_append, ints_extract, e, ← List.take_add]
    rw [hfeed, hbl] at hstep
    have hext := extract_extract t k m (by omega)
    generalize blCopy bl' ((ints (t.extract k t.size)).take m) ((n + k) % 64) = bl2 at h3 hstep
    obtain ⟨hby2, hlen2, hs1, hs2⟩ := hstep
    refine dend_intro fun w4 hd4 => ?_
    have h4 := h3.drawn hd4
    clear h1 h3 hr hfeed
    refine mop_c (by rw [hsz]; omega) ?_
    rw [hsz, Int.toNat_natCast, hext]
    (repeat (first | (refine mop_c ?_ ?_; first | exact trivial | omega) | (refine dp_c ?_ ?_; first | exact trivial | omega)))
    refine mop_ld ((h4.cell 0 rfl 72).trans (st_n hlist hlen2)) rfl ?_
    (repeat (first | (refine mop_c ?_ ?_; first | exact trivial | omega) | (refine dp_c ?_ ?_; first | exact trivial | omega)))
    refine mop_st (j := 72) h4 rfl (by rw [st_len hlist hlen2]; omega) rfl (fun w5 h5 => ?_)
    rw [st_set_n hlist hlen2] at h5
    (repeat (first | (refine mop_c ?_ ?_; first | exact trivial | omega) | (refine dp_c ?_ ?_; first | exact trivial | omega)))
    refine mop_ld ((h5.cell 0 rfl 72).trans (st_n hlist hlen2)) rfl ?_
    (repeat (first | (refine mop_c ?_ ?_; first | exact trivial | omega) | (refine dp_c ?_ ?_; first | exact trivial | omega)))
    have hsz2 : (t.extract (k + m) t.size).size = t.size - (k + m) := by simp
    have hnk : ((n + k : Nat) : Int) + (m : Int) = ((n + (k + m) : Nat) : Int) := by omega
    rw [hnk] at h5 ⊢
    refine mif_dec (fun hz => ?_) (fun hnz => ?_)
    · obtain ⟨hs3, hs4⟩ := hs2 (by omega)
      refine mop_to (turn_ok b _ bl2 _ w5 h5.head hlist hlen2 hby2 (list_wd hd1.ok)) ?_
      rintro e w6 ⟨rfl, h6⟩
      have h7 := h5.call1 h6
      rw [s8_list, ← hs3] at h7
      exact ⟨⟨k + m, bl2, by omega, rfl, by rw [← Nat.add_assoc]; exact hs4, h7⟩, by simp only [strLen, hsz, hsz2]; omega⟩
    · obtain ⟨hs3, hs4⟩ := hs1 (by omega)
      rw [← hs4] at h5
      exact ⟨⟨k + m, bl2, by omega, rfl, by rw [← Nat.add_assoc]; exact hs3, h5⟩, by simp only [strLen, hsz, hsz2]; omega⟩
  · obtain rfl : k = t.size := by omega
    have e : (ints t).take t.size = ints t := List.take_of_length_le (by rw [ints_length]; omega)
    rw [e] at hd1 h1
    exact ⟨rfl, bl', hd1, h1⟩
end Go.Proofs.YtopcnkejobomaaaGreat
namespace Go.Proofs.YtopcnkejobomaaaGreat
open Go.RowKit
def lenB (n : Nat) (i : Nat) : Int := ((n : Int) % 18446744073709551616 * 8 % 18446744073709551616) / 2 ^ (56 - 8 * (i : Int)).toNat % 256
def padding (n : Nat) : List Int := (128 :: List.replicate (63 - (n + 8) % 64) 0) ++ (List.range 8).map (lenB n)
def outAt (l : List Int) (i : Nat) : Int := l.getD (i / 4) 0 / 2 ^ (24 - 8 * (i % 4)) % 256
def outB (s : S8) : List Int := (List.range 32).map (outAt s.list)
def shaSum (bs : List Int) : List Int := outB (feedAll (h0, []) (bs ++ padding bs.length)).1
theorem shaSum_length (bs : List Int) : (shaSum bs).length = 32 := by simp [shaSum, outB]
theorem outB_range (s : S8) : ∀ x ∈ outB s, 0 ≤ x ∧ x < 256 := by
  intro x hx
  obtain ⟨i, _, rfl⟩ := List.mem_map.1 hx
  unfold outAt
  omega
theorem shaSum_range (bs : List Int) : ∀ x ∈ shaSum bs, 0 ≤ x ∧ x < 256 := outB_range _
def fill (f : Nat → Int) (n i : Nat) : List Int := (List.range i).map f ++ List.replicate (n - i) 0
theorem fill_length (f : Nat → Int) (n i : Nat) (h : i ≤ n) : (fill f n i).length = n := by simp [fill]; omega
theorem fill_set (f : Nat → Int) (n i : Nat) (h : i < n) : (fill f n i).set i (f i) = fill f n (i + 1) := by
  unfold fill
  rw [List.set_append, if_neg (by simp), List.length_map, List.length_range, Nat.sub_self, List.range_succ, List.map_append, List.append_assoc]
  congr 1
  rw [show n - i = (n - (i + 1)) + 1 by omega, List.replicate_succ]
  rfl
theorem set_u8s (l : List Int) (i : Nat) (v : Int) : (u8s l).set i (.int .u8 v) = u8s (l.set i v) := by simp [u8s, List.map_set]
theorem u8s_length (l : List Int) : (u8s l).length = l.length := by simp [u8s]
def hv (l : List Int) : Value := .agg (u8s l).toArray
theorem cells_of_row {w : World} {b : Nat} {t : TypeId} {cs : List Value} (h : Blf w b t cs) : ∀ k v, cs[k]? = some v → w.cell? ⟨b, 0 + k, none⟩ = some v := fun k v hk => by
  rw [Nat.zero_add, h.cell]; exact hk
theorem lay_all (cs vs : List Value) (h : vs.length = cs.length) : lay cs vs 0 = vs := by
  unfold lay
  rw [List.take_zero, List.nil_append, List.drop_eq_nil_of_le (by omega), List.append_nil]
set_option maxRecDepth 100000 in
theorem rounds_ok (w : World) : Calls Tryz.prog 85 #[] w fun e w' => e = .returned (.agg (u32s kl).toArray) ∧ St w [] w' := by
  refine C_sha_rounds ?_
  unfold F_sha_rounds
  refine mop_new (St.nil w) (fun g w1 h1 => ?_)
  refine mop_pur (v := .agg (u32s kl).toArray) (fun w => by kernel_rfl) ?_
  refine mop_storeN (q := true) (k := 64) (by kernel_rfl) h1 rfl (by intro u hu; obtain ⟨x, _, rfl⟩ := List.mem_map.1 (show u ∈ kl.map (Value.int .u32) from hu); rfl) (by simp) (fun w2 h2 => ?_)
  have e : lay (List.replicate 64 (Value.int .u32 0)) (Value.agg (u32s kl).toArray).cells.toList 0 = u32s kl := lay_all _ _ rfl
  rw [e] at h2
  refine rcell_ldN (cells_of_row h2.head) rfl ?_
  exact ⟨rfl, h2.drop⟩
def cat (ss : List ByteArray) : List Int := (ss.map ints).flatten
theorem cat_take (ss : List ByteArray) (k : Nat) (h : k < ss.length) : cat (ss.take (k + 1)) = cat (ss.take k) ++ ints ss[k] := by
  unfold cat
  rw [List.take_succ_eq_append_getElem h, List.map_append, List.flatten_append]
  simp only [List.map_cons, List.map_nil, List.flatten_cons, List.flatten_nil, List.append_nil]
theorem cat_append (a b : List ByteArray) : cat (a ++ b) = cat a ++ cat b := by simp only [cat, List.map_append, List.flatten_append]
theorem cat_le (ss : List ByteArray) (k : Nat) : (cat (ss.take k)).length ≤ (cat ss).length := by
  conv => rhs; rw [← List.take_append_drop k ss, cat_append, List.length_append]
  omega
theorem lenB_range (n i : Nat) : 0 ≤ lenB n i ∧ lenB n i < 256 := by unfold lenB; omega
theorem padding_range (n : Nat) : ∀ x ∈ padding n, 0 ≤ x ∧ x < 256 := by
  intro x hx
  simp only [padding, List.mem_append, List.mem_cons, List.mem_replicate, List.mem_map] at hx
  rcases hx with (rfl | ⟨_, rfl⟩) | ⟨i, _, rfl⟩
  · omega
  · omega
  · exact lenB_range n i
theorem dig0 : Dig (h0, []) 0 (List.replicate 64 0) := by
  refine ⟨⟨?_, ?_, ?_, ?_, ?_, ?_, ?_, ?_⟩, by simp, ?_, rfl, by simp⟩
  all_goals first
    | (constructor <;> decide)
    | (intro c hc; rw [List.eq_of_mem_replicate hc]; omega)
def tailK (n z i : Nat) : List Int := (128 :: List.replicate z 0) ++ fill (lenB n) (71 - z) i
theorem tailK_length (n z i : Nat) (hz : z ≤ 63) (hi : i ≤ 8) : (tailK n z i).length = 72 := by
  simp [tailK, fill_length (lenB n) (71 - z) i (by omega)]; omega
theorem tailK_set (n z i : Nat) (hz : z ≤ 63) (hi : i < 8) : (tailK n z i).set (z + 1 + i) (lenB n i) = tailK n z (i + 1) := by
  unfold tailK
  rw [List.set_append, if_neg (by simp), List.length_cons, List.length_replicate, show z + 1 + i - (z + 1) = i by omega, fill_set _ _ _ (by omega)]
theorem tailK_zero (n z : Nat) (hz : z ≤ 63) : (List.replicate 72 (0 : Int)).set 0 128 = tailK n z 0 := by
  unfold tailK fill
  rw [show 72 = (z + (71 - z)) + 1 by omega, List.replicate_succ, List.set_cons_zero, ← List.replicate_append_replicate]
  simp
theorem tailK_end (n : Nat) : (tailK n (63 - (n + 8) % 64) 8).take (63 - (n + 8) % 64 + 9) = padding n := by
  unfold tailK fill padding
  rw [← List.append_assoc, List.take_append_of_le_length (by simp), List.take_of_length_le (by simp)]
set_option maxRecDepth 100000 in
set_option maxHeartbeats 1000000 in
theorem sum_ok (A : Option Addr) (ss : List ByteArray) (c : Nat) (w : World) (hr : Rd w A (ss.map .string)) (hss : ss.length < 9223372036854775807) (hsz : (cat ss).length < 4611686018427387904) :
    Calls Tryz.prog 40 #[.slice A ss.length c] w fun e w' => e = .returned (hv (shaSum (cat ss))) ∧ St w [] w' := by
  refine C_sha_Sum ?_
  unfold F_sha_Sum
  refine mop_new (St.nil w) (fun go w1 h1 => ?_)
  refine mop_pur (build8 _ _ _ _ _ _ _ _) ?_
  refine mop_to (rounds_ok w1) ?_
  rintro e w2 ⟨rfl, h2⟩
  have h2 := h1.call0 h2
  refine mop_pur (v := .agg (stCells h0.list (List.replicate 64 0) 0).toArray) (fun w => by kernel_rfl) ?_
  refine mop_box h2 (fun b w3 h3 => ?_)
  have h3 : St w [⟨b, 131, stCells h0.list (List.replicate 64 0) 0, true⟩, ⟨go, 33, u8s (List.replicate 32 0), true⟩] w3 := h3
  clear h1 h2
  refine mop_c trivial ?_
  refine ⟨fun v w2 => ∃ (k : Nat) (bl : List Int), k ≤ ss.length ∧ v = .int .i64 k ∧ Dig (feedAll (h0, []) (cat (ss.take k))) (cat (ss.take k)).length bl ∧
      St w [⟨b, 131, stCells (feedAll (h0, []) (cat (ss.take k))).1.list bl ((cat (ss.take k)).length : Int), true⟩, ⟨go, 33, u8s (List.replicate 32 0), true⟩] w2, fun v _ => ss.length - (intOf v).toNat, ⟨0, _, by omega, rfl, dig0, h3⟩, ?_⟩
  clear h3
  rintro v u w4 ⟨k, bl, hk, rfl, hd, h4⟩
  refine mop_c trivial ?_
  refine mif_dec (fun hlt => ?_) (fun hge => ?_)
  · have hk' : k < ss.length := by omega
    have x0 : (ss.map Value.string)[k]? = some (.string ss[k]) := by simp [hk']
    obtain ⟨ab, ao, rfl, hab, hc⟩ := hr.at_ x0
    (repeat (first | (refine mop_c ?_ ?_; first | exact trivial | omega) | (refine dp_c ?_ ?_; first | exact trivial | omega)))
    refine mop_ld (j := ao + k) ((h4.old (p := ⟨ab, ao + k, none⟩) hab (by intro q hq hn; simp at hq; rcases hq with rfl | rfl <;> cases hn)).trans (hc k _ x0)) (by omega) ?_
    have hcl := cat_le ss (k + 1)
    rw [cat_take ss k hk', List.length_append, ints_length] at hcl
    refine mop_to (put_ok b _ _ bl ss[k] w4 h4.head hd (by omega)) ?_
    rintro e w5 ⟨rfl, bl', hd5, h5⟩
    have h6 := h4.call1 h5
    (repeat (first | (refine mop_c ?_ ?_; first | exact trivial | omega) | (refine dp_c ?_ ?_; first | exact trivial | omega)))
    rw [← feedAll_append, ← ints_length, ← List.length_append, ← cat_take ss k hk'] at hd5 h6
    exact ⟨⟨k + 1, bl', hk', rfl, hd5, h6⟩, by simp [intOf]; omega⟩
  · obtain rfl : k = ss.length := by omega
    rw [List.take_length] at hd h4
    obtain ⟨n, hn⟩ : ∃ n, n = (cat ss).length := ⟨_, rfl⟩
    have hsum : shaSum (cat ss) = outB (feedAll (feedAll (h0, []) (cat ss)) (padding n)).1 := by rw [shaSum, feedAll_append, hn]
    rw [hsum]
    rw [← hn] at hd h4 hsz
    generalize feedAll (h0, []) (cat ss) = x at hd h4
    have hl8 : x.1.list.length = 8 := rfl
    refine mop_new h4 (fun gt w5 h5 => ?_)
    (repeat (first | (refine mop_c ?_ ?_; first | exact trivial | omega) | (refine dp_c ?_ ?_; first | exact trivial | omega)))
    refine mop_st (j := 0) h5 rfl (by simp) rfl (fun w6 h6 => ?_)
    (repeat (first | (refine mop_c ?_ ?_; first | exact trivial | omega) | (refine dp_c ?_ ?_; first | exact trivial | omega)))
    refine mop_ld ((h6.cell 1 rfl 72).trans (st_n hl8 hd.len)) rfl ?_
    (repeat (first | (refine mop_c ?_ ?_; first | exact trivial | omega) | (refine dp_c ?_ ?_; first | exact trivial | omega)))
    have hz : (64 : Int) - ((n : Int) + 8) % 64 = ((63 - (n + 8) % 64 + 1 : Nat) : Int) := by omega
    rw [hz]
    have h6 : St w [⟨gt, 133, u8s (tailK n (63 - (n + 8) % 64) 0), true⟩, ⟨b, 131, stCells x.1.list bl (n : Int), true⟩, ⟨go, 33, u8s (List.replicate 32 0), true⟩] w6 := by
      rw [← tailK_zero n (63 - (n + 8) % 64) (by omega), ← set_u8s]
      exact h6
    have hend := tailK_end n
    obtain ⟨z, hzz⟩ : ∃ z, z = 63 - (n + 8) % 64 := ⟨_, rfl⟩
    rw [← hzz] at h6 hend ⊢
    have hz63 : z ≤ 63 := by omega
    clear hz hzz
    refine ⟨fun v w2 => ∃ i : Nat, i ≤ 8 ∧ v = .int .i64 i ∧ St w [⟨gt, 133, u8s (tailK n z i), true⟩, ⟨b, 131, stCells x.1.list bl (n : Int), true⟩, ⟨go, 33, u8s (List.replicate 32 0), true⟩] w2, fun v _ => 8 - (intOf v).toNat, ⟨0, by omega, rfl, h6⟩, ?_⟩
    clear h4 h5 h6
    rintro v u2 w7 ⟨i, hi, rfl, h7⟩
    refine mop_c trivial ?_
    refine mif_dec (fun hlt => ?_) (fun hge => ?_)
    · (repeat (first | (refine mop_c ?_ ?_; first | exact trivial | omega) | (refine dp_c ?_ ?_; first | exact trivial | omega)))
      refine mop_ld ((h7.cell 1 rfl 72).trans (st_n hl8 hd.len)) rfl ?_
      (repeat (first | (refine mop_c ?_ ?_; first | exact trivial | omega) | (refine dp_c ?_ ?_; first | exact trivial | omega)))
      refine mop_st (j := z + 1 + i) h7 (by omega) (by rw [u8s_length, tailK_length n z i hz63 (by omega)]; omega) rfl (fun w8 h8 => ?_)
      have h8 : St w [⟨gt, 133, u8s (tailK n z (i + 1)), true⟩, ⟨b, 131, stCells x.1.list bl (n : Int), true⟩, ⟨go, 33, u8s (List.replicate 32 0), true⟩] w8 := by
        rw [← tailK_set n z i hz63 (by omega), ← set_u8s]
        exact h8
      (repeat (first | (refine mop_c ?_ ?_; first | exact trivial | omega) | (refine dp_c ?_ ?_; first | exact trivial | omega)))
      exact ⟨⟨i + 1, by omega, rfl, h8⟩, by simp [intOf]; omega⟩
    · obtain rfl : i = 8 := by omega
      (repeat (first | (refine mop_c ?_ ?_; first | exact trivial | omega) | (refine dp_c ?_ ?_; first | exact trivial | omega)))
      have hto : (((z + 1 : Nat) : Int) + 8).toNat = z + 9 := by omega
      rw [hto]
      have htl := tailK_length n z 8 hz63 (by omega)
      refine mop_purW (pw_conv_bytes 135 9 5 gt 0 (z + 9) 72 (padding n) (by kernel_rfl) (by kernel_rfl) (by kernel_rfl) (by rw [← hend, List.length_take, htl]; omega) (fun i hi => ?_)) ?_
      · rw [h7.head.cell, ← hend, Nat.zero_add, u8s_at _ _ (by omega)]
        congr 2
        simp [List.getD, hi]
      have hpl : (padding n).length = z + 9 := by rw [← hend, List.length_take, htl]; omega
      have hps : (strOfNums (padding n)).size = z + 9 := by rw [← ints_length, ints_str _ (padding_range n), hpl]
      have h7 := h7.swap
      refine mop_to (put_ok b x n bl (strOfNums (padding n)) w7 h7.head hd (by omega)) ?_
      rintro e w8 ⟨rfl, bl', hd8, h8⟩
      rw [ints_str _ (padding_range n)] at hd8 h8
      have h9 := h7.call1 h8
      generalize feedAll x (padding n) = y at hd8 h9 ⊢
      clear h7 h8
      have hy8 : y.1.list.length = 8 := rfl
      refine mop_new h9 (fun gu w9 h10 => ?_)
      refine ⟨fun v w2 => ∃ i : Nat, i ≤ 32 ∧ v = .int .i64 i ∧ ∃ L, St w (⟨gu, 33, u8s (fill (outAt y.1.list) 32 i), true⟩ :: ⟨b, 131, stCells y.1.list bl' ((n + (strOfNums (padding n)).size : Nat) : Int), true⟩ :: ⟨gt, 133, L, true⟩ :: ⟨go, 33, u8s (List.replicate 32 0), true⟩ :: []) w2, fun v _ => 32 - (intOf v).toNat, ⟨0, by omega, rfl, _, h10⟩, ?_⟩
      clear h9 h10
      rintro v u3 w10 ⟨i, hi, rfl, L, h11⟩
      refine mop_c trivial ?_
      refine mif_dec (fun hlt => ?_) (fun hge => ?_)
      · (repeat (first | (refine mop_c ?_ ?_; first | exact trivial | omega) | (refine dp_c ?_ ?_; first | exact trivial | omega)))
        have hq : (0 + 0 + ((i : Int) / 4).toNat) = 0 + i / 4 := by omega
        refine mop_ld ((h11.cell 1 rfl (i / 4)).trans (st_h hy8 (i / 4) (by omega))) (by omega) ?_
        (repeat (first | (refine mop_c ?_ ?_; first | exact trivial | omega) | (refine dp_c ?_ ?_; first | exact trivial | omega)))
        refine mop_st (j := i) h11 (by omega) (by rw [u8s_length, fill_length _ _ _ hi]; omega) rfl (fun w11 h12 => ?_)
        have h12 : St w (⟨gu, 33, u8s (fill (outAt y.1.list) 32 (i + 1)), true⟩ :: ⟨b, 131, stCells y.1.list bl' ((n + (strOfNums (padding n)).size : Nat) : Int), true⟩ :: ⟨gt, 133, L, true⟩ :: ⟨go, 33, u8s (List.replicate 32 0), true⟩ :: []) w11 := by
          rw [← fill_set _ _ _ (by omega), ← set_u8s]
          have e : outAt y.1.list i = y.1.list.getD (i / 4) 0 / 2 ^ ((24 : Int) - 8 * ((i : Int) % 4)).toNat % 256 := by
            unfold outAt
            congr 3
            omega
          rw [e]
          exact h12
        (repeat (first | (refine mop_c ?_ ?_; first | exact trivial | omega) | (refine dp_c ?_ ?_; first | exact trivial | omega)))
        exact ⟨⟨i + 1, by omega, rfl, L, h12⟩, by simp [intOf]; omega⟩
      · obtain rfl : i = 32 := by omega
        have hf : fill (outAt y.1.list) 32 32 = outB y.1 := by simp [fill, outB]
        rw [hf] at h11
        have hol : (u8s (outB y.1)).length = 32 := by simp [outB, u8s]
        refine mop_ldN (cells_of_row h11.head) hol rfl ?_
        have h13 := h11.drop.drop.drop
        refine mop_storeN (q := true) (k := 32) (by kernel_rfl) h13 (by simpa [Value.cells] using hol) (by intro u hu; exact u8s_one _ u hu) (by simp [u8s]) (fun w12 h14 => ?_)
        have e : lay (u8s (List.replicate 32 0)) (Value.agg (u8s (outB y.1)).toArray).cells.toList 0 = u8s (outB y.1) := lay_all _ _ (by show (u8s (outB y.1)).length = _; rw [hol]; simp [u8s])
        rw [e] at h14
        refine rcell_ldN (cells_of_row h14.head) hol ?_
        exact ⟨rfl, h14.drop⟩
end Go.Proofs.YtopcnkejobomaaaGreat
