/- The reference's digest of a text. -/
import Derived.Test.YtmjpbomonhjebaaSha3
namespace Go.Proofs.Ytmjpbomonhjebaa
open Go.RowKit

theorem word_ok (g o n c : Nat) (i : Nat) (a0 a1 a2 a3 : Int) (w : World) (hn : i + 4 ≤ n) (hi : i < 4611686018427387904)
    (h0 : w.cell? ⟨g, o + i, none⟩ = some (.int .u8 a0)) (h1 : w.cell? ⟨g, o + (i + 1), none⟩ = some (.int .u8 a1)) (h2 : w.cell? ⟨g, o + (i + 2), none⟩ = some (.int .u8 a2)) (h3 : w.cell? ⟨g, o + (i + 3), none⟩ = some (.int .u8 a3))
    (b0 : 0 ≤ a0 ∧ a0 < 256) (b1 : 0 ≤ a1 ∧ a1 < 256) (b2 : 0 ≤ a2 ∧ a2 < 256) (b3 : 0 ≤ a3 ∧ a3 < 256) :
    Calls Try.prog 117 #[.slice (some ⟨g, o, none⟩) n c, .int .i64 (i : Int)] w fun e w' => e = .returned (.int .u32 (word4 a0 a1 a2 a3)) ∧ Drawn w w' := by
  refine C_bevyref02_word ?_
  unfold F_bevyref02_word
  (repeat (first | (refine mop_c ?_ ?_; first | exact trivial | omega) | (refine dp_c ?_ ?_; first | exact trivial | omega)))
  refine dq_ld h0 (by omega) ?_
  (repeat (first | (refine mop_c ?_ ?_; first | exact trivial | omega) | (refine dp_c ?_ ?_; first | exact trivial | omega)))
  refine dq_ld h1 (by omega) ?_
  (repeat (first | (refine mop_c ?_ ?_; first | exact trivial | omega) | (refine dp_c ?_ ?_; first | exact trivial | omega)))
  refine dq_ld h2 (by omega) ?_
  (repeat (first | (refine mop_c ?_ ?_; first | exact trivial | omega) | (refine dp_c ?_ ?_; first | exact trivial | omega)))
  refine dq_ld h3 (by omega) ?_
  (repeat (first | (refine mop_c ?_ ?_; first | exact trivial | omega) | (refine dp_c ?_ ?_; first | exact trivial | omega)))
  refine dend_intro fun w1 hd => ?_
  exact ⟨rfl, hd⟩
/-- The words behind j blocks. -/
def blocks (M : List Int) : Nat → S8
  | 0 => h0
  | j + 1 => compress (blocks M j) ((M.drop (64 * j)).take 64)
theorem blocks_feed (M : List Int) : ∀ j, 64 * j ≤ M.length → feedAll (h0, []) (M.take (64 * j)) = (blocks M j, [])
  | 0, _ => rfl
  | j + 1, h => by
    rw [show 64 * (j + 1) = 64 * j + 64 by omega, List.take_add, feedAll_append, blocks_feed M j (by omega)]
    rw [feedAll_full _ _ _ (by simp; omega) (by simp; omega)]
    rfl
theorem blocks_ok (M : List Int) : ∀ j, (blocks M j).Ok
  | 0 => dig0.ok
  | _ + 1 => compress_ok _
theorem block_at (M : List Int) (j i : Nat) (hi : i < 64) : ((M.drop (64 * j)).take 64).getD i 0 = M.getD (64 * j + i) 0 := by
  simp [List.getD, hi]
theorem buildb (v : Int) (w : World) : (o_buildSlice 86 1 [(0, .int .u8 v)]).run Try.prog w = .ok (.value (.slice (some ⟨w.heap.size, 0, none⟩) 1 1)) (w.alloc (.cells (Value.int .u8 v).cells.toList.toArray 5)) := by kernel_rfl
theorem row_at (M : List Int) (sp : List Value) (i : Nat) (h : i < M.length) : (u8s M ++ sp)[i]? = some (.int .u8 (M.getD i 0)) := by
  rw [List.getElem?_append_left (by rw [u8s_length]; exact h), u8s_at M i h]
def slen : Value → Nat
  | .slice _ n _ => n
  | _ => 0
theorem u8s_append (a b : List Int) : u8s (a ++ b) = u8s a ++ u8s b := by simp [u8s]
theorem u32s_one (l : List Int) : ∀ u ∈ u32s l, u.oneCell' = true := by
  intro u hu
  obtain ⟨x, _, rfl⟩ := List.mem_map.1 hu
  rfl
theorem u32s_length (l : List Int) : (u32s l).length = l.length := by simp [u32s]
theorem set_u32s (l : List Int) (i : Nat) (v : Int) : (u32s l).set i (.int .u32 v) = u32s (l.set i v) := by simp [u32s, List.map_set]

set_option maxRecDepth 100000 in
set_option maxHeartbeats 2000000 in
theorem refsum_ok (s : ByteArray) (w : World) (hsz : s.size < 1099511627776) : Calls Try.prog 69 #[.string s] w fun e w' => e = .returned (hv (shaSum (ints s))) ∧ St w [] w' := by
  refine C_bevyref02_Sum ?_
  unfold F_bevyref02_Sum
  refine mop_new (St.nil w) (fun go w1 h1 => ?_)
  refine mop_pur (v := .agg (u32s kl).toArray) (fun w => by kernel_rfl) ?_
  refine mop_new h1 (fun gk w2 h2 => ?_)
  refine mop_storeN (q := true) (k := 64) (by kernel_rfl) h2 rfl (u32s_one kl) (by simp) (fun w3 h3 => ?_)
  have e1 : lay (List.replicate 64 (Value.int .u32 0)) (Value.agg (u32s kl).toArray).cells.toList 0 = u32s kl := lay_all _ _ rfl
  rw [e1] at h3
  clear h1 h2
  obtain ⟨A, cap, w4, hr4, h4⟩ := run_bytes_of_text (P := Try.prog) 9 86 5 s (by kernel_rfl) (by kernel_rfl) (by kernel_rfl) (by unfold maxLen; omega) h3
  refine mop_run hr4 ?_
  refine mop_push h4 rfl (by intro u hu; cases hu with | head => rfl | tail _ hu => cases hu) (buildb _ _) (by unfold maxLen; omega) (by omega) (fun A1 cap1 w5 h5 => ?_)
  obtain ⟨n, hn⟩ : ∃ n, n = s.size := ⟨_, rfl⟩
  have hil : (ints s).length = n := by rw [ints_length, hn]
  rw [← hn] at h5 hsz ⊢
  refine ⟨fun v w2 => ∃ (z cap : Nat) (A : Option Addr), z ≤ 63 - (n + 8) % 64 ∧ v = .slice A (n + 1 + z) cap ∧ RowSt w 5 1 [⟨gk, 151, u32s kl, true⟩, ⟨go, 22, List.replicate 32 (.int .u8 0), true⟩] A (n + 1 + z) cap (u8s (ints s ++ (128 :: List.replicate z 0))) w2, fun v _ => n + 100 - slen v, ⟨0, _, _, by omega, rfl, by rw [u8s_append]; exact h5⟩, ?_⟩
  clear h3 h4 h5 hr4
  rintro v u w6 ⟨z, cap, A, hz, rfl, h6⟩
  (repeat (first | (refine mop_c ?_ ?_; first | exact trivial | omega) | (refine dp_c ?_ ?_; first | exact trivial | omega)))
  refine mif_dec (fun hne => ?_) (fun heq => ?_)
  · refine mop_push h6 rfl (by intro u hu; cases hu with | head => rfl | tail _ hu => cases hu) (buildb _ _) (by unfold maxLen; omega) (by omega) (fun A1 cap1 w7 h7 => ?_)
    refine ⟨⟨z + 1, cap1, A1, by omega, rfl, ?_⟩, by simp [slen]; omega⟩
    have e : ints s ++ (128 :: List.replicate (z + 1) 0) = (ints s ++ (128 :: List.replicate z 0)) ++ [0] := by
      rw [List.append_assoc, List.cons_append, ← List.replicate_succ']
    rw [e, u8s_append]
    exact h7
  · obtain rfl : z = 63 - (n + 8) % 64 := by omega
    refine mop_c trivial ?_
    rw [← hn]
    (repeat (first | (refine mop_c ?_ ?_; first | exact trivial | omega) | (refine dp_c ?_ ?_; first | exact trivial | omega)))
    refine ⟨fun v x w2 => ∃ (i cap : Nat) (A : Option Addr), i ≤ 8 ∧ x = .int .i64 i ∧ v = .slice A (n + 1 + (63 - (n + 8) % 64) + i) cap ∧ RowSt w 5 1 [⟨gk, 151, u32s kl, true⟩, ⟨go, 22, List.replicate 32 (.int .u8 0), true⟩] A (n + 1 + (63 - (n + 8) % 64) + i) cap (u8s ((ints s ++ (128 :: List.replicate (63 - (n + 8) % 64) 0)) ++ (List.range i).map (lenB n))) w2,
      fun _ x _ => 8 - (intOf x).toNat, ⟨0, _, _, by omega, rfl, rfl, by simpa using h6⟩, ?_⟩
    clear h6
    rintro v x u2 w7 ⟨i, cap, A, hi, rfl, rfl, h7⟩
    refine mop_c trivial ?_
    refine mif_dec (fun hlt => ?_) (fun hge => ?_)
    · (repeat (first | (refine mop_c ?_ ?_; first | exact trivial | omega) | (refine dp_c ?_ ?_; first | exact trivial | omega)))
      refine mop_push h7 rfl (by intro u hu; cases hu with | head => rfl | tail _ hu => cases hu) (buildb _ _) (by unfold maxLen; omega) (by omega) (fun A1 cap1 w8 h8 => ?_)
      (repeat (first | (refine mop_c ?_ ?_; first | exact trivial | omega) | (refine dp_c ?_ ?_; first | exact trivial | omega)))
      refine ⟨⟨i + 1, cap1, A1, by omega, rfl, rfl, ?_⟩, by simp [intOf]; omega⟩
      have e : lenB n i = ((n : Int) % 18446744073709551616 * 8 % 18446744073709551616) / 2 ^ ((56 - 8 * (i : Int)) % 18446744073709551616).toNat % 256 := by
        unfold lenB
        congr 4
        omega
      rw [List.range_succ, List.map_append, ← List.append_assoc, u8s_append, List.map_cons, List.map_nil, e]
      exact h8
    · obtain rfl : i = 8 := by omega
      have hM : (ints s ++ (128 :: List.replicate (63 - (n + 8) % 64) 0)) ++ (List.range 8).map (lenB n) = ints s ++ padding n := by rw [padding, List.append_assoc]
      rw [hM] at h7
      have hfin : shaSum (ints s) = outB (feedAll (h0, []) (ints s ++ padding n)).1 := by rw [shaSum, hil]
      rw [hfin]
      have hMl : (ints s ++ padding n).length = n + 1 + (63 - (n + 8) % 64) + 8 := by simp [padding, hil]; omega
      have hMr : ∀ c ∈ ints s ++ padding n, 0 ≤ c ∧ c < 256 := fun c hc => by
        rcases List.mem_append.1 hc with hc | hc
        · exact ints_range s c hc
        · exact padding_range n c hc
      generalize ints s ++ padding n = M at h7 hMl hMr ⊢
      obtain ⟨N, hN⟩ : ∃ N, N = n + 1 + (63 - (n + 8) % 64) + 8 := ⟨_, rfl⟩
      rw [← hN] at h7 hMl ⊢
      have hN64 : N % 64 = 0 := by omega
      have hNb : N < 1099511627776 + 200 := by omega
      clear hM hfin hil
      obtain ⟨gm, sp, rfl, h8, _, _⟩ := h7.at_ (by omega)
      clear h7
      refine mop_pur (build8 _ _ _ _ _ _ _ _) ?_
      refine mop_new h8 (fun gv w8 h9 => ?_)
      refine mop_storeN (q := true) (k := 8) (by kernel_rfl) h9 rfl (u32s_one h0.list) (by simp) (fun w9 h10 => ?_)
      have e8 : lay (List.replicate 8 (Value.int .u32 0)) (Value.agg (u32s h0.list).toArray).cells.toList 0 = u32s h0.list := lay_all _ _ rfl
      have h10 : St w [⟨gv, 150, u32s h0.list, true⟩, ⟨gm, 5, u8s M ++ sp, true⟩, ⟨gk, 151, u32s kl, true⟩, ⟨go, 22, List.replicate 32 (.int .u8 0), true⟩] w9 := by
        rw [← e8]; exact h10
      refine ⟨fun x w2 => ∃ j : Nat, 64 * j ≤ N ∧ x = .int .i64 ((64 * j : Nat) : Int) ∧ St w [⟨gv, 150, u32s (blocks M j).list, true⟩, ⟨gm, 5, u8s M ++ sp, true⟩, ⟨gk, 151, u32s kl, true⟩, ⟨go, 22, List.replicate 32 (.int .u8 0), true⟩] w2,
        fun x _ => N - (intOf x).toNat, ⟨0, by omega, rfl, h10⟩, ?_⟩
      clear h8 h9 h10
      rintro x u3 w10 ⟨j, hj, rfl, h10⟩
      (repeat (first | (refine mop_c ?_ ?_; first | exact trivial | omega) | (refine dp_c ?_ ?_; first | exact trivial | omega)))
      refine mif_dec (fun hlt => ?_) (fun hge => ?_)
      · have hj2 : 64 * j + 64 ≤ N := by omega
        have hbl : blocks M (j + 1) = (blocks M j).add (rl (wl ((M.drop (64 * j)).take 64) 64) 64 (blocks M j)) := rfl
        have hbat := fun i hi => block_at M j i hi
        have hsok := blocks_ok M j
        generalize (M.drop (64 * j)).take 64 = bl at hbl hbat
        obtain ⟨S', hS⟩ : ∃ S', S' = blocks M (j + 1) := ⟨_, rfl⟩
        rw [← hS] at hbl
        refine mop_new h10 (fun gw w11 h11 => ?_)
        refine ⟨fun x w2 => ∃ i : Nat, i ≤ 16 ∧ x = .int .i64 i ∧ St w [⟨gw, 151, u32s (wk bl i), true⟩, ⟨gv, 150, u32s (blocks M j).list, true⟩, ⟨gm, 5, u8s M ++ sp, true⟩, ⟨gk, 151, u32s kl, true⟩, ⟨go, 22, List.replicate 32 (.int .u8 0), true⟩] w2,
          fun x _ => 16 - (intOf x).toNat, ⟨0, by omega, rfl, h11⟩, ?_⟩
        clear h10 h11
        rintro x u4 w12 ⟨i, hi, rfl, h12⟩
        (repeat (first | (refine mop_c ?_ ?_; first | exact trivial | omega) | (refine dp_c ?_ ?_; first | exact trivial | omega)))
        refine mif_dec (fun hlt2 => ?_) (fun hge2 => ?_)
        · (repeat (first | (refine mop_c ?_ ?_; first | exact trivial | omega) | (refine dp_c ?_ ?_; first | exact trivial | omega)))
          rw [show ((64 * j : Nat) : Int) + 4 * (i : Int) = ((64 * j + 4 * i : Nat) : Int) by omega]
          refine mop_to (word_ok gm 0 N cap (64 * j + 4 * i) (M.getD (64 * j + 4 * i) 0) (M.getD (64 * j + 4 * i + 1) 0) (M.getD (64 * j + 4 * i + 2) 0) (M.getD (64 * j + 4 * i + 3) 0) w12 (by omega) (by omega)
            ?_ ?_ ?_ ?_ (getD_bd M _ hMr) (getD_bd M _ hMr) (getD_bd M _ hMr) (getD_bd M _ hMr)) ?_
          · rw [Nat.zero_add]; exact (h12.cell 2 rfl _).trans (row_at M sp _ (by omega))
          · rw [Nat.zero_add]; exact (h12.cell 2 rfl _).trans (row_at M sp _ (by omega))
          · rw [Nat.zero_add]; exact (h12.cell 2 rfl _).trans (row_at M sp _ (by omega))
          · rw [Nat.zero_add]; exact (h12.cell 2 rfl _).trans (row_at M sp _ (by omega))
          rintro e w13 ⟨rfl, hd13⟩
          have h13 := h12.drawn hd13
          (repeat (first | (refine mop_c ?_ ?_; first | exact trivial | omega) | (refine dp_c ?_ ?_; first | exact trivial | omega)))
          refine mop_st (j := i) h13 (by omega) (by rw [u32s_length, wk_len bl i (by omega)]; omega) rfl (fun w14 h14 => ?_)
          (repeat (first | (refine mop_c ?_ ?_; first | exact trivial | omega) | (refine dp_c ?_ ?_; first | exact trivial | omega)))
          refine ⟨⟨i + 1, by omega, rfl, ?_⟩, by simp [intOf]; omega⟩
          rw [wk_set bl i (by omega)] at h14
          · exact h14
          · rw [wl_new, if_pos (by omega), hbat _ (by omega), hbat _ (by omega), hbat _ (by omega), hbat _ (by omega), ← Nat.add_assoc, ← Nat.add_assoc, ← Nat.add_assoc]
        · obtain rfl : i = 16 := by omega
          refine ⟨fun x w2 => ∃ k : Nat, 16 ≤ k ∧ k ≤ 64 ∧ x = .int .i64 k ∧ St w [⟨gw, 151, u32s (wk bl k), true⟩, ⟨gv, 150, u32s (blocks M j).list, true⟩, ⟨gm, 5, u8s M ++ sp, true⟩, ⟨gk, 151, u32s kl, true⟩, ⟨go, 22, List.replicate 32 (.int .u8 0), true⟩] w2,
            fun x _ => 64 - (intOf x).toNat, ⟨16, by omega, by omega, rfl, h12⟩, ?_⟩
          clear h12
          rintro x u5 w13 ⟨k, hk0, hk, rfl, h13⟩
          (repeat (first | (refine mop_c ?_ ?_; first | exact trivial | omega) | (refine dp_c ?_ ?_; first | exact trivial | omega)))
          refine mif_dec (fun hlt3 => ?_) (fun hge3 => ?_)
          · have d15 := wl_wd bl k (k - 15)
            have d2 := wl_wd bl k (k - 2)
            (repeat (first | (refine mop_c ?_ ?_; first | exact trivial | omega) | (refine dp_c ?_ ?_; first | exact trivial | omega)))
            refine mop_ld ((h13.cell 0 rfl (k - 15)).trans (wk_at bl k (k - 15) (by omega))) (by omega) ?_
            (repeat (first | (refine mop_c ?_ ?_; first | exact trivial | omega) | (refine dp_c ?_ ?_; first | exact trivial | omega)))
            refine mop_ld ((h13.cell 0 rfl (k - 2)).trans (wk_at bl k (k - 2) (by omega))) (by omega) ?_
            (repeat (first | (refine mop_c ?_ ?_; first | exact trivial | omega) | (refine dp_c ?_ ?_; first | exact trivial | omega)))
            refine dq_ld ((h13.cell 0 rfl (k - 16)).trans (wk_at bl k (k - 16) (by omega))) (by omega) ?_
            (repeat (first | (refine mop_c ?_ ?_; first | exact trivial | omega) | (refine dp_c ?_ ?_; first | exact trivial | omega)))
            refine dq_ld ((h13.cell 0 rfl (k - 7)).trans (wk_at bl k (k - 7) (by omega))) (by omega) ?_
            (repeat (first | (refine mop_c ?_ ?_; first | exact trivial | omega) | (refine dp_c ?_ ?_; first | exact trivial | omega)))
            refine df_eq (fun w => turned_k _ 7 w d15 (by decide)) fun w5 hd5 => ?_
            refine df_eq (fun w => turned_k _ 18 w d15 (by decide)) fun w6 hd6 => ?_
            (repeat (first | (refine mop_c ?_ ?_; first | exact trivial | omega) | (refine dp_c ?_ ?_; first | exact trivial | omega)))
            refine df_eq (fun w => turned_k _ 17 w d2 (by decide)) fun w7 hd7 => ?_
            refine df_eq (fun w => turned_k _ 19 w d2 (by decide)) fun w8 hd8 => ?_
            (repeat (first | (refine mop_c ?_ ?_; first | exact trivial | omega) | (refine dp_c ?_ ?_; first | exact trivial | omega)))
            have h14 := h13.drawn (((hd5.trans hd6).trans hd7).trans hd8)
            refine df_st (j := k) h14 (by omega) (by rw [u32s_length, wk_len bl k hk]; omega) rfl (fun w9 h15 => ?_)
            refine dend_intro fun w10 hd10 => ?_
            have h16 := h15.drawn hd10
            (repeat (first | (refine mop_c ?_ ?_; first | exact trivial | omega) | (refine dp_c ?_ ?_; first | exact trivial | omega)))
            refine ⟨⟨k + 1, by omega, by omega, rfl, ?_⟩, by simp [intOf]; omega⟩
            rw [wk_set bl k (by omega)] at h16
            · exact h16
            · rw [wl_new, if_neg (by omega)]
              rfl
          · obtain rfl : k = 64 := by omega
            have hw : wk bl 64 = wl bl 64 := by simp [wk]
            have hWl : (wl bl 64).length = 64 := wl_len bl 64
            rw [hw] at h13
            clear hw
            generalize wl bl 64 = W at h13 hWl hbl
            refine mop_ldN (cells_of_row (h13.mem (k := 1) rfl)) rfl rfl ?_
            refine mop_new h13 (fun gs w14 h14 => ?_)
            refine mop_storeN (q := true) (k := 8) (by kernel_rfl) h14 rfl (u32s_one (blocks M j).list) (by simp) (fun w15 h15 => ?_)
            have e9 : lay (List.replicate 8 (Value.int .u32 0)) (Value.agg (u32s (blocks M j).list).toArray).cells.toList 0 = u32s (blocks M j).list := lay_all _ _ rfl
            rw [e9] at h15
            clear h13 h14 e9
            generalize blocks M j = s0 at hbl hsok h15
            refine ⟨fun x w2 => ∃ i : Nat, i ≤ 64 ∧ x = .int .i64 i ∧ St w [⟨gs, 150, u32s (rl W i s0).list, true⟩, ⟨gw, 151, u32s W, true⟩, ⟨gv, 150, u32s s0.list, true⟩, ⟨gm, 5, u8s M ++ sp, true⟩, ⟨gk, 151, u32s kl, true⟩, ⟨go, 22, List.replicate 32 (.int .u8 0), true⟩] w2,
              fun x _ => 64 - (intOf x).toNat, ⟨0, by omega, rfl, h15⟩, ?_⟩
            clear h15
            rintro x u6 w16 ⟨i, hi4, rfl, h16⟩
            have hr := rl_ok W hsok i
            have hrs : rl W (i + 1) s0 = (rl W i s0).rnd (kl.getD i 0) (W.getD i 0) := rfl
            obtain ⟨s', hs'⟩ : ∃ s', s' = rl W (i + 1) s0 := ⟨_, rfl⟩
            obtain ⟨t, ht⟩ : ∃ t, rl W i s0 = t := ⟨_, rfl⟩
            rw [← hs'] at hrs
            rw [ht] at hr hrs h16
            (repeat (first | (refine mop_c ?_ ?_; first | exact trivial | omega) | (refine dp_c ?_ ?_; first | exact trivial | omega)))
            refine mif_dec (fun hlt4 => ?_) (fun hge4 => ?_)
            · (repeat (first | (refine mop_c ?_ ?_; first | exact trivial | omega) | (refine dp_c ?_ ?_; first | exact trivial | omega)))
              refine mop_ld ((h16.cell 0 rfl 4).trans (show (u32s t.list)[4]? = some (.int .u32 t.e) from rfl)) (by omega) ?_
              (repeat (first | (refine mop_c ?_ ?_; first | exact trivial | omega) | (refine dp_c ?_ ?_; first | exact trivial | omega)))
              refine mop_ld ((h16.cell 0 rfl 0).trans (show (u32s t.list)[0]? = some (.int .u32 t.a) from rfl)) (by omega) ?_
              (repeat (first | (refine mop_c ?_ ?_; first | exact trivial | omega) | (refine dp_c ?_ ?_; first | exact trivial | omega)))
              refine dq_ld ((h16.cell 0 rfl 7).trans (show (u32s t.list)[7]? = some (.int .u32 t.h) from rfl)) (by omega) ?_
              refine df_eq (fun w => turned_k _ 6 w hr.e (by decide)) fun w5 hd5 => ?_
              refine df_eq (fun w => turned_k _ 11 w hr.e (by decide)) fun w6 hd6 => ?_
              (repeat (first | (refine mop_c ?_ ?_; first | exact trivial | omega) | (refine dp_c ?_ ?_; first | exact trivial | omega)))
              refine df_eq (fun w => turned_k _ 25 w hr.e (by decide)) fun w7 hd7 => ?_
              (repeat (first | (refine mop_c ?_ ?_; first | exact trivial | omega) | (refine dp_c ?_ ?_; first | exact trivial | omega)))
              refine dq_ld ((h16.cell 0 rfl 5).trans (show (u32s t.list)[5]? = some (.int .u32 t.f) from rfl)) (by omega) ?_
              (repeat (first | (refine mop_c ?_ ?_; first | exact trivial | omega) | (refine dp_c ?_ ?_; first | exact trivial | omega)))
              refine dq_ld ((h16.cell 0 rfl 6).trans (show (u32s t.list)[6]? = some (.int .u32 t.g) from rfl)) (by omega) ?_
              (repeat (first | (refine mop_c ?_ ?_; first | exact trivial | omega) | (refine dp_c ?_ ?_; first | exact trivial | omega)))
              refine dq_ld ((h16.cell 4 rfl i).trans (u32s_at kl i (by rw [kl_len]; omega))) (by omega) ?_
              (repeat (first | (refine mop_c ?_ ?_; first | exact trivial | omega) | (refine dp_c ?_ ?_; first | exact trivial | omega)))
              refine dq_ld ((h16.cell 1 rfl i).trans (u32s_at W i (by omega))) (by omega) ?_
              (repeat (first | (refine mop_c ?_ ?_; first | exact trivial | omega) | (refine dp_c ?_ ?_; first | exact trivial | omega)))
              refine dend_intro fun w8 hd8 => ?_
              have h17 := h16.drawn (((hd5.trans hd6).trans hd7).trans hd8)
              refine df_eq (fun w => turned_k _ 2 w hr.a (by decide)) fun w9 hd9 => ?_
              refine df_eq (fun w => turned_k _ 13 w hr.a (by decide)) fun w10 hd10 => ?_
              (repeat (first | (refine mop_c ?_ ?_; first | exact trivial | omega) | (refine dp_c ?_ ?_; first | exact trivial | omega)))
              refine df_eq (fun w => turned_k _ 22 w hr.a (by decide)) fun w11 hd11 => ?_
              (repeat (first | (refine mop_c ?_ ?_; first | exact trivial | omega) | (refine dp_c ?_ ?_; first | exact trivial | omega)))
              refine dq_ld ((h17.cell 0 rfl 1).trans (show (u32s t.list)[1]? = some (.int .u32 t.b) from rfl)) (by omega) ?_
              (repeat (first | (refine mop_c ?_ ?_; first | exact trivial | omega) | (refine dp_c ?_ ?_; first | exact trivial | omega)))
              refine dq_ld ((h17.cell 0 rfl 2).trans (show (u32s t.list)[2]? = some (.int .u32 t.c) from rfl)) (by omega) ?_
              (repeat (first | (refine mop_c ?_ ?_; first | exact trivial | omega) | (refine dp_c ?_ ?_; first | exact trivial | omega)))
              refine dq_ld ((h17.cell 0 rfl 1).trans (show (u32s t.list)[1]? = some (.int .u32 t.b) from rfl)) (by omega) ?_
              (repeat (first | (refine mop_c ?_ ?_; first | exact trivial | omega) | (refine dp_c ?_ ?_; first | exact trivial | omega)))
              refine dq_ld ((h17.cell 0 rfl 2).trans (show (u32s t.list)[2]? = some (.int .u32 t.c) from rfl)) (by omega) ?_
              (repeat (first | (refine mop_c ?_ ?_; first | exact trivial | omega) | (refine dp_c ?_ ?_; first | exact trivial | omega)))
              refine dend_intro fun w12 hd12 => ?_
              have h18 := h17.drawn (((hd9.trans hd10).trans hd11).trans hd12)
              clear h16 h17
              (repeat (first | (refine mop_c ?_ ?_; first | exact trivial | omega) | (refine dp_c ?_ ?_; first | exact trivial | omega)))
              refine mop_ld ((h18.cell 0 rfl 0).trans (show (u32s t.list)[0]? = some (.int .u32 t.a) from rfl)) (by omega) ?_
              (repeat (first | (refine mop_c ?_ ?_; first | exact trivial | omega) | (refine dp_c ?_ ?_; first | exact trivial | omega)))
              refine mop_ld ((h18.cell 0 rfl 1).trans (show (u32s t.list)[1]? = some (.int .u32 t.b) from rfl)) (by omega) ?_
              (repeat (first | (refine mop_c ?_ ?_; first | exact trivial | omega) | (refine dp_c ?_ ?_; first | exact trivial | omega)))
              refine mop_ld ((h18.cell 0 rfl 2).trans (show (u32s t.list)[2]? = some (.int .u32 t.c) from rfl)) (by omega) ?_
              (repeat (first | (refine mop_c ?_ ?_; first | exact trivial | omega) | (refine dp_c ?_ ?_; first | exact trivial | omega)))
              refine mop_ld ((h18.cell 0 rfl 3).trans (show (u32s t.list)[3]? = some (.int .u32 t.d) from rfl)) (by omega) ?_
              (repeat (first | (refine mop_c ?_ ?_; first | exact trivial | omega) | (refine dp_c ?_ ?_; first | exact trivial | omega)))
              refine mop_ld ((h18.cell 0 rfl 4).trans (show (u32s t.list)[4]? = some (.int .u32 t.e) from rfl)) (by omega) ?_
              (repeat (first | (refine mop_c ?_ ?_; first | exact trivial | omega) | (refine dp_c ?_ ?_; first | exact trivial | omega)))
              refine mop_ld ((h18.cell 0 rfl 5).trans (show (u32s t.list)[5]? = some (.int .u32 t.f) from rfl)) (by omega) ?_
              (repeat (first | (refine mop_c ?_ ?_; first | exact trivial | omega) | (refine dp_c ?_ ?_; first | exact trivial | omega)))
              refine mop_ld ((h18.cell 0 rfl 6).trans (show (u32s t.list)[6]? = some (.int .u32 t.g) from rfl)) (by omega) ?_
              refine mop_pur (v := .agg (u32s s'.list).toArray) (by rw [hrs]; exact build8 _ _ _ _ _ _ _ _) ?_
              refine mop_storeN (q := true) (k := 8) (by kernel_rfl) h18 rfl (u32s_one s'.list) (by simp [u32s, S8.list]) (fun w13 h19 => ?_)
              have e9 : lay (u32s t.list) (Value.agg (u32s s'.list).toArray).cells.toList 0 = u32s s'.list := lay_all _ _ rfl
              rw [e9] at h19
              (repeat (first | (refine mop_c ?_ ?_; first | exact trivial | omega) | (refine dp_c ?_ ?_; first | exact trivial | omega)))
              exact ⟨⟨i + 1, by omega, rfl, by rw [← hs']; exact h19⟩, by simp [intOf]; omega⟩
            · obtain rfl : i = 64 := by omega
              rw [ht] at hbl
              refine ⟨fun x w2 => ∃ i : Nat, i ≤ 8 ∧ x = .int .i64 i ∧ St w [⟨gv, 150, u32s (addK s0.list t.list i), true⟩, ⟨gs, 150, u32s t.list, true⟩, ⟨gw, 151, u32s W, true⟩, ⟨gm, 5, u8s M ++ sp, true⟩, ⟨gk, 151, u32s kl, true⟩, ⟨go, 22, List.replicate 32 (.int .u8 0), true⟩] w2,
                fun x _ => 8 - (intOf x).toNat, ⟨0, by omega, rfl, h16.up2⟩, ?_⟩
              clear h16
              rintro x u7 w17 ⟨i, hi5, rfl, h17⟩
              (repeat (first | (refine mop_c ?_ ?_; first | exact trivial | omega) | (refine dp_c ?_ ?_; first | exact trivial | omega)))
              have hal : (addK s0.list t.list i).length = 8 := addK_len s0.list t.list i
              refine mif_dec (fun hlt5 => ?_) (fun hge5 => ?_)
              · (repeat (first | (refine mop_c ?_ ?_; first | exact trivial | omega) | (refine dp_c ?_ ?_; first | exact trivial | omega)))
                refine dq_ld ((h17.cell 0 rfl i).trans (u32s_at _ i (by omega))) (by omega) ?_
                (repeat (first | (refine mop_c ?_ ?_; first | exact trivial | omega) | (refine dp_c ?_ ?_; first | exact trivial | omega)))
                refine dq_ld ((h17.cell 1 rfl i).trans (u32s_at t.list i (by simp [S8.list]; omega))) (by omega) ?_
                (repeat (first | (refine mop_c ?_ ?_; first | exact trivial | omega) | (refine dp_c ?_ ?_; first | exact trivial | omega)))
                refine df_st (j := i) h17 (by omega) (by rw [u32s_length]; omega) rfl (fun w18 h18 => ?_)
                refine dend_intro fun w19 hd19 => ?_
                have h19 := h18.drawn hd19
                (repeat (first | (refine mop_c ?_ ?_; first | exact trivial | omega) | (refine dp_c ?_ ?_; first | exact trivial | omega)))
                refine ⟨⟨i + 1, by omega, rfl, ?_⟩, by simp [intOf]; omega⟩
                rw [set_u32s, addK_at s0.list t.list i i (Nat.le_refl i)] at h19
                exact h19
              · obtain rfl : i = 8 := by omega
                (repeat (first | (refine mop_c ?_ ?_; first | exact trivial | omega) | (refine dp_c ?_ ?_; first | exact trivial | omega)))
                refine ⟨⟨j + 1, by omega, by simp only [Value.int.injEq, true_and]; omega, ?_⟩, by simp [intOf]; omega⟩
                have e10 := addK_end s0.list t rfl
                rw [s8_list, ← hbl] at e10
                rw [e10] at h17
                rw [← hS]
                exact h17.swap.drop.swap.drop
      · have hjN : 64 * j = M.length := by omega
        have hfin : feedAll (h0, []) M = (blocks M j, []) := by
          have := blocks_feed M j (by omega)
          rwa [hjN, List.take_length] at this
        rw [hfin]
        generalize blocks M j = y at h10
        have hy8 : y.list.length = 8 := rfl
        refine mop_new h10 (fun gu w11 h11 => ?_)
        refine ⟨fun x w2 => ∃ i : Nat, i ≤ 32 ∧ x = .int .i64 i ∧ St w [⟨gu, 22, u8s (fill (outAt y.list) 32 i), true⟩, ⟨gv, 150, u32s y.list, true⟩, ⟨gm, 5, u8s M ++ sp, true⟩, ⟨gk, 151, u32s kl, true⟩, ⟨go, 22, List.replicate 32 (.int .u8 0), true⟩] w2,
          fun x _ => 32 - (intOf x).toNat, ⟨0, by omega, rfl, h11⟩, ?_⟩
        clear h10 h11
        rintro x u4 w12 ⟨i, hi, rfl, h12⟩
        (repeat (first | (refine mop_c ?_ ?_; first | exact trivial | omega) | (refine dp_c ?_ ?_; first | exact trivial | omega)))
        refine mif_dec (fun hlt2 => ?_) (fun hge2 => ?_)
        · (repeat (first | (refine mop_c ?_ ?_; first | exact trivial | omega) | (refine dp_c ?_ ?_; first | exact trivial | omega)))
          refine mop_ld ((h12.cell 1 rfl (i / 4)).trans (u32s_at y.list (i / 4) (by omega))) (by omega) ?_
          (repeat (first | (refine mop_c ?_ ?_; first | exact trivial | omega) | (refine dp_c ?_ ?_; first | exact trivial | omega)))
          refine mop_st (j := i) h12 (by omega) (by rw [u8s_length, fill_length _ _ _ hi]; omega) rfl (fun w13 h13 => ?_)
          (repeat (first | (refine mop_c ?_ ?_; first | exact trivial | omega) | (refine dp_c ?_ ?_; first | exact trivial | omega)))
          refine ⟨⟨i + 1, by omega, rfl, ?_⟩, by simp [intOf]; omega⟩
          rw [← fill_set _ _ _ (by omega), ← set_u8s]
          have e : outAt y.list i = y.list.getD (i / 4) 0 / 2 ^ (((24 : Int) - 8 * ((i : Int) % 4)) % 18446744073709551616).toNat % 256 := by
            unfold outAt
            congr 3
            omega
          rw [e]
          exact h13
        · obtain rfl : i = 32 := by omega
          have hf : fill (outAt y.list) 32 32 = outB y := by simp [fill, outB]
          rw [hf] at h12
          have hol : (u8s (outB y)).length = 32 := by simp [outB, u8s]
          refine mop_ldN (cells_of_row h12.head) hol rfl ?_
          have h13 := h12.drop.drop.drop.drop
          refine mop_storeN (q := true) (k := 32) (by kernel_rfl) h13 (by simpa [Value.cells] using hol) (by intro u hu; exact u8s_one _ u hu) (by simp) (fun w14 h14 => ?_)
          have e : lay (List.replicate 32 (Value.int .u8 0)) (Value.agg (u8s (outB y)).toArray).cells.toList 0 = u8s (outB y) := lay_all _ _ (by show (u8s (outB y)).length = _; rw [hol]; simp)
          rw [e] at h14
          refine rcell_ldN (cells_of_row h14.head) hol ?_
          exact ⟨rfl, h14.drop⟩
end Go.Proofs.Ytmjpbomonhjebaa
