/- Where the program's running digest lies in memory, and its turn: one block. -/
import Derived.Test.YtmjpbomonhjebaaShaR
import Derived.Test.YtmjpbomonhjebaaRow
namespace Go.Proofs.Ytmjpbomonhjebaa
open Go.RowKit

theorem wl_len (bs : List Int) : ∀ i, (wl bs i).length = i
  | 0 => rfl
  | i + 1 => by rw [wl, List.length_append, wl_len bs i]; rfl
theorem wl_old (bs : List Int) (i j : Nat) (h : j < i) : (wl bs (i + 1)).getD j 0 = (wl bs i).getD j 0 := by
  rw [wl, List.getD_eq_getElem?_getD, List.getElem?_append_left (by rw [wl_len]; exact h)]
  rfl
theorem wl_new (bs : List Int) (i : Nat) : (wl bs (i + 1)).getD i 0 = if i < 16 then word4 (bs.getD (4 * i) 0) (bs.getD (4 * i + 1) 0) (bs.getD (4 * i + 2) 0) (bs.getD (4 * i + 3) 0)
      else nextw ((wl bs i).getD (i - 16) 0) ((wl bs i).getD (i - 7) 0) ((wl bs i).getD (i - 15) 0) ((wl bs i).getD (i - 2) 0) := by
  conv => lhs; rw [wl]
  rw [List.getD_eq_getElem?_getD, List.getElem?_append_right (by rw [wl_len]; exact Nat.le_refl _), wl_len, Nat.sub_self]
  rfl
theorem wl_wd (bs : List Int) : ∀ i j, Wd ((wl bs i).getD j 0)
  | 0, j => by simp [wl, Wd]
  | i + 1, j => by
    rcases Nat.lt_trichotomy j i with h | h | h
    · rw [wl_old bs i j h]; exact wl_wd bs i j
    · subst h
      rw [wl_new]
      split
      · exact wd_or _ _
      · exact wd_mod _
    · rw [List.getD_eq_getElem?_getD, List.getElem?_eq_none (by rw [wl_len]; omega)]
      simp [Wd]
/-- The cells of the running digest: eight words, the block, the count, the constants. -/
def stCells (hs bl : List Int) (n : Int) : List Value := u32s hs ++ (u8s bl ++ (Value.int .i64 n :: u32s kl))
theorem kl_len : kl.length = 64 := by decide
section
variable {hs bl : List Int} {n : Int}
theorem st_len (hh : hs.length = 8) (hb : bl.length = 64) : (stCells hs bl n).length = 137 := by
  simp [stCells, u32s, u8s, hh, hb, kl_len]
theorem st_h (hh : hs.length = 8) (i : Nat) (hi : i < 8) : (stCells hs bl n)[i]? = some (.int .u32 (hs.getD i 0)) := by
  rw [stCells, List.getElem?_append_left (by simp [u32s]; omega), u32s_at _ _ (by omega)]
theorem st_b (hh : hs.length = 8) (hb : bl.length = 64) (i : Nat) (hi : i < 64) : (stCells hs bl n)[8 + i]? = some (.int .u8 (bl.getD i 0)) := by
  rw [stCells, List.getElem?_append_right (by simp [u32s]; omega), List.getElem?_append_left (by simp [u32s, u8s]; omega)]
  rw [show 8 + i - (u32s hs).length = i by simp [u32s]; omega, u8s_at _ _ (by omega)]
theorem st_n (hh : hs.length = 8) (hb : bl.length = 64) : (stCells hs bl n)[72]? = some (.int .i64 n) := by
  rw [stCells, List.getElem?_append_right (by simp [u32s]; omega), List.getElem?_append_right (by simp [u32s, u8s]; omega)]
  rw [show 72 - (u32s hs).length - (u8s bl).length = 0 by simp [u32s, u8s]; omega]
  rfl
theorem st_k (hh : hs.length = 8) (hb : bl.length = 64) (i : Nat) (hi : i < 64) : (stCells hs bl n)[73 + i]? = some (.int .u32 (kl.getD i 0)) := by
  rw [stCells, List.getElem?_append_right (by simp [u32s]; omega), List.getElem?_append_right (by simp [u32s, u8s]; omega)]
  rw [show 73 + i - (u32s hs).length - (u8s bl).length = i + 1 by simp [u32s, u8s]; omega, List.getElem?_cons_succ, u32s_at _ _ (by rw [kl_len]; exact hi)]
theorem st_set_h (hh : hs.length = 8) (i : Nat) (hi : i < 8) (v : Int) : (stCells hs bl n).set i (.int .u32 v) = stCells (hs.set i v) bl n := by
  rw [stCells, stCells, List.set_append, if_pos (by simp [u32s]; omega)]
  simp [u32s, List.map_set]
theorem st_set_n (hh : hs.length = 8) (hb : bl.length = 64) (v : Int) : (stCells hs bl n).set 72 (.int .i64 v) = stCells hs bl v := by
  rw [stCells, stCells, List.set_append, if_neg (by simp [u32s]; omega), List.set_append, if_neg (by simp [u32s, u8s]; omega)]
  rw [show 72 - (u32s hs).length - (u8s bl).length = 0 by simp [u32s, u8s]; omega]
  rfl
end
theorem getD_bd (l : List Int) (i : Nat) (h : ∀ x ∈ l, 0 ≤ x ∧ x < 256) : 0 ≤ l.getD i 0 ∧ l.getD i 0 < 256 := by
  rw [List.getD_eq_getElem?_getD]
  cases hx : l[i]? with
  | none => simp
  | some x => exact h x (List.mem_of_getElem? hx)
theorem getD_wd (l : List Int) (i : Nat) (h : ∀ x ∈ l, Wd x) : Wd (l.getD i 0) := by
  rw [List.getD_eq_getElem?_getD]
  cases hx : l[i]? with
  | none => simp [Wd]
  | some x => exact h x (List.mem_of_getElem? hx)
/-- The first k words of the schedule, and noughts. -/
def wk (bl : List Int) (k : Nat) : List Int := wl bl k ++ List.replicate (64 - k) 0
theorem wk_len (bl : List Int) (k : Nat) (h : k ≤ 64) : (wk bl k).length = 64 := by simp [wk, wl_len]; omega
theorem wk_at (bl : List Int) (k j : Nat) (h : j < k) : (u32s (wk bl k))[j]? = some (.int .u32 ((wl bl k).getD j 0)) := by
  rw [u32s_at _ _ (by simp [wk, wl_len]; omega), wk]
  congr 2
  rw [List.getD_eq_getElem?_getD, List.getElem?_append_left (by rw [wl_len]; exact h)]
  rfl
theorem wk_set (bl : List Int) (k : Nat) (h : k < 64) (v : Int) (hv : (wl bl (k + 1)).getD k 0 = v) : (u32s (wk bl k)).set k (.int .u32 v) = u32s (wk bl (k + 1)) := by
  have e : wl bl (k + 1) = wl bl k ++ [v] := by
    rw [wl]
    rw [wl_new] at hv
    rw [hv]
  unfold u32s wk
  rw [← List.map_set, List.set_append, if_neg (by rw [wl_len]; omega), wl_len, Nat.sub_self, e, List.append_assoc]
  congr 2
  rw [show 64 - k = (64 - (k + 1)) + 1 by omega, List.replicate_succ]
  rfl
def s8 (hs : List Int) : S8 := ⟨hs.getD 0 0, hs.getD 1 0, hs.getD 2 0, hs.getD 3 0, hs.getD 4 0, hs.getD 5 0, hs.getD 6 0, hs.getD 7 0⟩
def S8.list (s : S8) : List Int := [s.a, s.b, s.c, s.d, s.e, s.f, s.g, s.h]
structure S8.Ok (s : S8) : Prop where
  a : Wd s.a
  b : Wd s.b
  c : Wd s.c
  d : Wd s.d
  e : Wd s.e
  f : Wd s.f
  g : Wd s.g
  h : Wd s.h
theorem rl_ok (ws : List Int) {s : S8} (h : s.Ok) : ∀ i, (rl ws i s).Ok
  | 0 => h
  | i + 1 => by
    have h := rl_ok ws h i
    exact ⟨wd_mod _, h.a, h.b, h.c, wd_mod _, h.e, h.f, h.g⟩
/-- The words behind i of the last additions. -/
def addK (hs ts : List Int) : Nat → List Int
  | 0 => hs
  | i + 1 => (addK hs ts i).set i ((hs.getD i 0 + ts.getD i 0) % 4294967296)
theorem addK_len (hs ts : List Int) : ∀ i, (addK hs ts i).length = hs.length
  | 0 => rfl
  | i + 1 => by rw [addK, List.length_set, addK_len hs ts i]
theorem addK_at (hs ts : List Int) : ∀ i j, i ≤ j → (addK hs ts i).getD j 0 = hs.getD j 0
  | 0, j, _ => rfl
  | i + 1, j, h => by
    rw [addK, List.getD_eq_getElem?_getD, List.getElem?_set_ne (by omega), ← List.getD_eq_getElem?_getD]
    exact addK_at hs ts i j (by omega)
theorem addK_end (hs : List Int) (s : S8) (hh : hs.length = 8) : addK hs s.list 8 = ((s8 hs).add s).list := by
  match hs, hh with
  | [a, b, c, d, e, f, g, h], _ => rfl
theorem build8 (a b c d e f g h : Int) : Pur Try.prog (o_build 150 [(0, .int .u32 a), (1, .int .u32 b), (2, .int .u32 c), (3, .int .u32 d), (4, .int .u32 e), (5, .int .u32 f), (6, .int .u32 g), (7, .int .u32 h)])
  (.agg (u32s [a, b, c, d, e, f, g, h]).toArray) := fun w => by kernel_rfl

set_option maxRecDepth 100000 in
set_option maxHeartbeats 2000000 in
theorem turn_ok (b : Nat) (hs bl : List Int) (n : Int) (w : World) (hb : Blf w b 155 (stCells hs bl n)) (hh : hs.length = 8) (hbl : bl.length = 64) (hby : ∀ x ∈ bl, 0 ≤ x ∧ x < 256) (hhw : ∀ x ∈ hs, Wd x) :
    Calls Try.prog 146 #[.pointer (some ⟨b, 0, none⟩)] w fun e w' => e = .returned (.tuple #[]) ∧ St w [⟨b, 155, stCells (compress (s8 hs) bl).list bl n, false⟩] w' := by
  refine C_sha_state_turn ?_
  unfold F_sha_state_turn
  refine mop_new (St.oneF hb) (fun g w1 h1 => ?_)
  refine ⟨fun x w2 => ∃ k : Nat, k ≤ 16 ∧ x = .int .i64 k ∧ St w [⟨g, 151, u32s (wk bl k), true⟩, ⟨b, 155, stCells hs bl n, false⟩] w2, fun x _ => 16 - (intOf x).toNat, ⟨0, by omega, rfl, h1⟩, ?_⟩
  rintro x21 u w2 ⟨k, hk, rfl, h2⟩
  refine mop_c trivial ?_
  refine mif_dec (fun hlt => ?_) (fun hge => ?_)
  · have q0 := getD_bd bl (4 * k) hby
    have q1 := getD_bd bl (4 * k + 1) hby
    have q2 := getD_bd bl (4 * k + 2) hby
    have q3 := getD_bd bl (4 * k + 3) hby
    (repeat (first | (refine mop_c ?_ ?_; first | exact trivial | omega) | (refine dp_c ?_ ?_; first | exact trivial | omega)))
    refine dq_ld ((h2.cell 1 rfl (8 + 4 * k)).trans (st_b hh hbl (4 * k) (by omega))) (by omega) ?_
    (repeat (first | (refine mop_c ?_ ?_; first | exact trivial | omega) | (refine dp_c ?_ ?_; first | exact trivial | omega)))
    refine dq_ld ((h2.cell 1 rfl (8 + (4 * k + 1))).trans (st_b hh hbl (4 * k + 1) (by omega))) (by omega) ?_
    (repeat (first | (refine mop_c ?_ ?_; first | exact trivial | omega) | (refine dp_c ?_ ?_; first | exact trivial | omega)))
    refine dq_ld ((h2.cell 1 rfl (8 + (4 * k + 2))).trans (st_b hh hbl (4 * k + 2) (by omega))) (by omega) ?_
    (repeat (first | (refine mop_c ?_ ?_; first | exact trivial | omega) | (refine dp_c ?_ ?_; first | exact trivial | omega)))
    refine dq_ld ((h2.cell 1 rfl (8 + (4 * k + 3))).trans (st_b hh hbl (4 * k + 3) (by omega))) (by omega) ?_
    (repeat (first | (refine mop_c ?_ ?_; first | exact trivial | omega) | (refine dp_c ?_ ?_; first | exact trivial | omega)))
    refine df_st (j := k) h2 (by omega) (by simp [u32s, wk_len bl k (by omega)]; omega) rfl (fun w3 h3 => ?_)
    refine dend_intro fun w4 hd => ?_
    have h4 := h3.drawn hd
    (repeat (first | (refine mop_c ?_ ?_; first | exact trivial | omega) | (refine dp_c ?_ ?_; first | exact trivial | omega)))
    refine ⟨⟨k + 1, by omega, rfl, ?_⟩, by simp [intOf]; omega⟩
    rw [wk_set bl k (by omega)] at h4
    · exact h4
    · rw [wl_new, if_pos (by omega)]
      rfl
  · obtain rfl : k = 16 := by omega
    refine ⟨fun x w2 => ∃ k : Nat, 16 ≤ k ∧ k ≤ 64 ∧ x = .int .i64 k ∧ St w [⟨g, 151, u32s (wk bl k), true⟩, ⟨b, 155, stCells hs bl n, false⟩] w2, fun x _ => 64 - (intOf x).toNat, ⟨16, by omega, by omega, rfl, h2⟩, ?_⟩
    clear h1 h2
    rintro x5 u2 w3 ⟨k, hk0, hk, rfl, h3⟩
    refine mop_c trivial ?_
    refine mif_dec (fun hlt => ?_) (fun hge => ?_)
    · have d15 := wl_wd bl k (k - 15)
      have d2 := wl_wd bl k (k - 2)
      (repeat (first | (refine mop_c ?_ ?_; first | exact trivial | omega) | (refine dp_c ?_ ?_; first | exact trivial | omega)))
      refine dq_ld ((h3.cell 0 rfl (k - 15)).trans (wk_at bl k (k - 15) (by omega))) (by omega) ?_
      (repeat (first | (refine mop_c ?_ ?_; first | exact trivial | omega) | (refine dp_c ?_ ?_; first | exact trivial | omega)))
      refine dq_ld ((h3.cell 0 rfl (k - 2)).trans (wk_at bl k (k - 2) (by omega))) (by omega) ?_
      refine dend_intro fun w4 hd => ?_
      have h4 := h3.drawn hd
      (repeat (first | (refine mop_c ?_ ?_; first | exact trivial | omega) | (refine dp_c ?_ ?_; first | exact trivial | omega)))
      refine dq_ld ((h4.cell 0 rfl (k - 16)).trans (wk_at bl k (k - 16) (by omega))) (by omega) ?_
      (repeat (first | (refine mop_c ?_ ?_; first | exact trivial | omega) | (refine dp_c ?_ ?_; first | exact trivial | omega)))
      refine dq_ld ((h4.cell 0 rfl (k - 7)).trans (wk_at bl k (k - 7) (by omega))) (by omega) ?_
      (repeat (first | (refine mop_c ?_ ?_; first | exact trivial | omega) | (refine dp_c ?_ ?_; first | exact trivial | omega)))
      refine df_eq (fun w => rot_k _ (-7) 7 w d15 (by decide) (by decide)) fun w5 hd5 => ?_
      refine df_eq (fun w => rot_k _ (-18) 18 w d15 (by decide) (by decide)) fun w6 hd6 => ?_
      (repeat (first | (refine mop_c ?_ ?_; first | exact trivial | omega) | (refine dp_c ?_ ?_; first | exact trivial | omega)))
      refine df_eq (fun w => rot_k _ (-17) 17 w d2 (by decide) (by decide)) fun w7 hd7 => ?_
      refine df_eq (fun w => rot_k _ (-19) 19 w d2 (by decide) (by decide)) fun w8 hd8 => ?_
      (repeat (first | (refine mop_c ?_ ?_; first | exact trivial | omega) | (refine dp_c ?_ ?_; first | exact trivial | omega)))
      have h8 := h4.drawn (((hd5.trans hd6).trans hd7).trans hd8)
      refine df_st (j := k) h8 (by omega) (by simp [u32s, wk_len bl k hk]; omega) rfl (fun w9 h9 => ?_)
      refine dend_intro fun w10 hd10 => ?_
      have h10 := h9.drawn hd10
      (repeat (first | (refine mop_c ?_ ?_; first | exact trivial | omega) | (refine dp_c ?_ ?_; first | exact trivial | omega)))
      refine ⟨⟨k + 1, by omega, by omega, rfl, ?_⟩, by simp [intOf]; omega⟩
      rw [wk_set bl k (by omega)] at h10
      · exact h10
      · rw [wl_new, if_neg (by omega)]
        rfl
    · obtain rfl : k = 64 := by omega
      have hw : wk bl 64 = wl bl 64 := by simp [wk]
      have hWl : (wl bl 64).length = 64 := wl_len bl 64
      have hcomp : compress (s8 hs) bl = (s8 hs).add (rl (wl bl 64) 64 (s8 hs)) := rfl
      rw [hw] at h3
      rw [hcomp]
      clear hw hcomp
      generalize wl bl 64 = W at h3 hWl ⊢
      (repeat (first | (refine mop_c ?_ ?_; first | exact trivial | omega) | (refine dp_c ?_ ?_; first | exact trivial | omega)))
      refine dq_ld ((h3.cell 1 rfl 0).trans (st_h hh 0 (by omega))) rfl ?_
      (repeat (first | (refine mop_c ?_ ?_; first | exact trivial | omega) | (refine dp_c ?_ ?_; first | exact trivial | omega)))
      refine dq_ld ((h3.cell 1 rfl 1).trans (st_h hh 1 (by omega))) rfl ?_
      (repeat (first | (refine mop_c ?_ ?_; first | exact trivial | omega) | (refine dp_c ?_ ?_; first | exact trivial | omega)))
      refine dq_ld ((h3.cell 1 rfl 2).trans (st_h hh 2 (by omega))) rfl ?_
      (repeat (first | (refine mop_c ?_ ?_; first | exact trivial | omega) | (refine dp_c ?_ ?_; first | exact trivial | omega)))
      refine dq_ld ((h3.cell 1 rfl 3).trans (st_h hh 3 (by omega))) rfl ?_
      (repeat (first | (refine mop_c ?_ ?_; first | exact trivial | omega) | (refine dp_c ?_ ?_; first | exact trivial | omega)))
      refine dq_ld ((h3.cell 1 rfl 4).trans (st_h hh 4 (by omega))) rfl ?_
      (repeat (first | (refine mop_c ?_ ?_; first | exact trivial | omega) | (refine dp_c ?_ ?_; first | exact trivial | omega)))
      refine dq_ld ((h3.cell 1 rfl 5).trans (st_h hh 5 (by omega))) rfl ?_
      (repeat (first | (refine mop_c ?_ ?_; first | exact trivial | omega) | (refine dp_c ?_ ?_; first | exact trivial | omega)))
      refine dq_ld ((h3.cell 1 rfl 6).trans (st_h hh 6 (by omega))) rfl ?_
      (repeat (first | (refine mop_c ?_ ?_; first | exact trivial | omega) | (refine dp_c ?_ ?_; first | exact trivial | omega)))
      refine dq_ld ((h3.cell 1 rfl 7).trans (st_h hh 7 (by omega))) rfl ?_
      refine dend_intro fun w4 hd => ?_
      have h4 := h3.drawn hd
      clear h3
      have hok : (s8 hs).Ok := ⟨getD_wd _ _ hhw, getD_wd _ _ hhw, getD_wd _ _ hhw, getD_wd _ _ hhw, getD_wd _ _ hhw, getD_wd _ _ hhw, getD_wd _ _ hhw, getD_wd _ _ hhw⟩
      refine ⟨fun xa xb xc xd xe xf xg xh x w2 => ∃ i : Nat, i ≤ 64 ∧ x = .int .i64 i ∧ xa = .int .u32 (rl W i (s8 hs)).a ∧ xb = .int .u32 (rl W i (s8 hs)).b ∧ xc = .int .u32 (rl W i (s8 hs)).c ∧ xd = .int .u32 (rl W i (s8 hs)).d ∧
          xe = .int .u32 (rl W i (s8 hs)).e ∧ xf = .int .u32 (rl W i (s8 hs)).f ∧ xg = .int .u32 (rl W i (s8 hs)).g ∧ xh = .int .u32 (rl W i (s8 hs)).h ∧
          St w [⟨g, 151, u32s W, true⟩, ⟨b, 155, stCells hs bl n, false⟩] w2, fun _ _ _ _ _ _ _ _ x _ => 64 - (intOf x).toNat, ⟨0, by omega, rfl, rfl, rfl, rfl, rfl, rfl, rfl, rfl, rfl, h4⟩, ?_⟩
      clear h4 hd
      rintro xa xb xc xd xe xf xg xh x u3 w5 ⟨i, hi, rfl, rfl, rfl, rfl, rfl, rfl, rfl, rfl, rfl, h5⟩
      have hr := rl_ok W hok i
      have hrs : rl W (i + 1) (s8 hs) = (rl W i (s8 hs)).rnd (kl.getD i 0) (W.getD i 0) := rfl
      obtain ⟨s', hs'⟩ : ∃ s', s' = rl W (i + 1) (s8 hs) := ⟨_, rfl⟩
      obtain ⟨s, hs64⟩ : ∃ s, rl W i (s8 hs) = s := ⟨_, rfl⟩
      rw [← hs'] at hrs
      rw [hs64] at hr hrs
      rw [hs64]
      refine mop_c trivial ?_
      refine mif_dec (fun hlt => ?_) (fun hge => ?_)
      · refine df_eq (fun w => rot_k _ (-6) 6 w hr.e (by decide) (by decide)) fun w6 hd6 => ?_
        refine df_eq (fun w => rot_k _ (-11) 11 w hr.e (by decide) (by decide)) fun w7 hd7 => ?_
        (repeat (first | (refine mop_c ?_ ?_; first | exact trivial | omega) | (refine dp_c ?_ ?_; first | exact trivial | omega)))
        refine df_eq (fun w => rot_k _ (-25) 25 w hr.e (by decide) (by decide)) fun w8 hd8 => ?_
        (repeat (first | (refine mop_c ?_ ?_; first | exact trivial | omega) | (refine dp_c ?_ ?_; first | exact trivial | omega)))
        refine dq_ld ((h5.cell 1 rfl (73 + i)).trans (st_k hh hbl i (by omega))) (by omega) ?_
        (repeat (first | (refine mop_c ?_ ?_; first | exact trivial | omega) | (refine dp_c ?_ ?_; first | exact trivial | omega)))
        refine dq_ld ((h5.cell 0 rfl i).trans (u32s_at W i (by omega))) (by omega) ?_
        (repeat (first | (refine mop_c ?_ ?_; first | exact trivial | omega) | (refine dp_c ?_ ?_; first | exact trivial | omega)))
        refine dend_intro fun w9 hd9 => ?_
        have h9 := h5.drawn (((hd6.trans hd7).trans hd8).trans hd9)
        refine mop_eq (rot_k _ (-2) 2 _ hr.a (by decide) (by decide)) ?_
        refine mop_eq (rot_k _ (-13) 13 _ hr.a (by decide) (by decide)) ?_
        (repeat (first | (refine mop_c ?_ ?_; first | exact trivial | omega) | (refine dp_c ?_ ?_; first | exact trivial | omega)))
        refine mop_eq (rot_k _ (-22) 22 _ hr.a (by decide) (by decide)) ?_
        (repeat (first | (refine mop_c ?_ ?_; first | exact trivial | omega) | (refine dp_c ?_ ?_; first | exact trivial | omega)))
        refine ⟨⟨i + 1, by omega, rfl, ?_, ?_, ?_, ?_, ?_, ?_, ?_, ?_, h9⟩, by simp [intOf]; omega⟩
        all_goals (rw [← hs', hrs]; rfl)
      · obtain rfl : i = 64 := by omega
        refine mop_pur (build8 _ _ _ _ _ _ _ _) ?_
        have hrs : rl W 64 (s8 hs) = s := hs64
        refine ⟨fun x w2 => ∃ i : Nat, i ≤ 8 ∧ x = .int .i64 i ∧ St w [⟨b, 155, stCells (addK hs s.list i) bl n, false⟩, ⟨g, 151, u32s W, true⟩] w2, fun x _ => 8 - (intOf x).toNat, ⟨0, by omega, rfl, h5.swap⟩, ?_⟩
        clear h5
        rintro x u4 w6 ⟨i, hi, rfl, h6⟩
        refine mop_c trivial ?_
        refine mif_dec (fun hlt => ?_) (fun hge => ?_)
        · refine mop_pur (p_index_array _ 149 8 _ _ _ (.int .u32 (s.list.getD i 0)) (by kernel_rfl) (by kernel_rfl) (by omega) (by omega) ?_) ?_
          · have := u32s_at s.list i (by simp [S8.list]; omega)
            have e : ((i : Nat) : Int).toNat = i := by omega
            rw [e, List.getElem?_toArray]
            exact this
          have hal := addK_len hs s.list i
          (repeat (first | (refine mop_c ?_ ?_; first | exact trivial | omega) | (refine dp_c ?_ ?_; first | exact trivial | omega)))
          refine dq_ld ((h6.cell 0 rfl i).trans (st_h (by omega) i (by omega))) (by omega) ?_
          (repeat (first | (refine mop_c ?_ ?_; first | exact trivial | omega) | (refine dp_c ?_ ?_; first | exact trivial | omega)))
          refine df_st (j := i) h6 (by omega) (by rw [st_len (by omega) hbl]; omega) rfl (fun w7 h7 => ?_)
          refine dend_intro fun w8 hd8 => ?_
          have h8 := h7.drawn hd8
          (repeat (first | (refine mop_c ?_ ?_; first | exact trivial | omega) | (refine dp_c ?_ ?_; first | exact trivial | omega)))
          refine ⟨⟨i + 1, by omega, rfl, ?_⟩, by simp [intOf]; omega⟩
          rw [st_set_h (by omega) i (by omega), addK_at hs s.list i i (Nat.le_refl i)] at h8
          exact h8
        · obtain rfl : i = 8 := by omega
          refine ⟨rfl, ?_⟩
          rw [hrs, ← addK_end hs s hh]
          exact h6.swap.drop
end Go.Proofs.Ytmjpbomonhjebaa
