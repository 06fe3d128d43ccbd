/- Part 6 of the proof. -/
import Derived.Test.YtopcnkejobomaaaGreatPb5
import Derived.OpenShut
import Derived.MapKept
set_option linter.unusedVariables false
namespace Go.Proofs.YtopcnkejobomaaaGreat
open Go.RowKit
theorem word_ok (g o n c : Nat) (i : Nat) (a0 a1 a2 a3 : Int) (w : World) (hn : i + 4 ≤ n) (hi : i < 4611686018427387904)
    (h0 : w.cell? ⟨g, o + i, none⟩ = some (.int .u8 a0)) (h1 : w.cell? ⟨g, o + (i + 1), none⟩ = some (.int .u8 a1)) (h2 : w.cell? ⟨g, o + (i + 2), none⟩ = some (.int .u8 a2)) (h3 : w.cell? ⟨g, o + (i + 3), none⟩ = some (.int .u8 a3))
    (b0 : 0 ≤ a0 ∧ a0 < 256) (b1 : 0 ≤ a1 ∧ a1 < 256) (b2 : 0 ≤ a2 ∧ a2 < 256) (b3 : 0 ≤ a3 ∧ a3 < 256) :
    Calls Tryz.prog 88 #[.slice (some ⟨g, o, none⟩) n c, .int .i64 (i : Int)] w fun e w' => e = .returned (.int .u32 (word4 a0 a1 a2 a3)) ∧ Drawn w w' := by
  refine C_bevyref02_word ?_
  unfold F_bevyref02_word
  (repeat (first | (refine mop_c ?_ ?_; first | exact trivial | omega) | (refine dp_c ?_ ?_; first | exact trivial | omega)))
  refine dq_ld h0 (by omega) ?_
  (repeat (first | (refine mop_c ?_ ?_; first | exact trivial | omega) | (refine dp_c ?_ ?_; first | exact trivial | omega)))
  refine dq_ld h1 (by omega) ?_
  (repeat (first | (refine mop_c ?_ ?_; first | exact trivial | omega) | (refine dp_c ?_ ?_; first | exact trivial | omega)))
  refine dq_ld h2 (by omega) ?_
  (repeat (first | (refine mop_c ?_ ?_; first | exact trivial | omega) | (refine dp_c ?_ ?_; first | exact trivial | omega)))
  refine dq_ld h3 (by omega) ?_
  (repeat (first | (refine mop_c ?_ ?_; first | exact trivial | omega) | (refine dp_c ?_ ?_; first | exact trivial | omega)))
  refine dend_intro fun w1 hd => ?_
  exact ⟨rfl, hd⟩
def blocks (M : List Int) : Nat → S8
  | 0 => h0
  | j + 1 => compress (blocks M j) ((M.drop (64 * j)).take 64)
theorem blocks_feed (M : List Int) : ∀ j, 64 * j ≤ M.length → feedAll (h0, []) (M.take (64 * j)) = (blocks M j, [])
  | 0, _ => rfl
  | j + 1, h => by
    rw [show 64 * (j + 1) = 64 * j + 64 by omega, List.take_add, feedAll_append, blocks_feed M j (by omega)]
    rw [feedAll_full _ _ _ (by simp; omega) (by simp; omega)]
    rfl
theorem blocks_ok (M : List Int) : ∀ j, (blocks M j).Ok
  | 0 => dig0.ok
  | _ + 1 => compress_ok _
theorem block_at (M : List Int) (j i : Nat) (hi : i < 64) : ((M.drop (64 * j)).take 64).getD i 0 = M.getD (64 * j + i) 0 := by
  simp [List.getD, hi]
theorem buildb (v : Int) (w : World) : (o_buildSlice 135 1 [(0, .int .u8 v)]).run Tryz.prog w = .ok (.value (.slice (some ⟨w.heap.size, 0, none⟩) 1 1)) (w.alloc (.cells (Value.int .u8 v).cells.toList.toArray 5)) := by kernel_rfl
theorem row_at (M : List Int) (sp : List Value) (i : Nat) (h : i < M.length) : (u8s M ++ sp)[i]? = some (.int .u8 (M.getD i 0)) := by
  rw [List.getElem?_append_left (by rw [u8s_length]; exact h), u8s_at M i h]
def slen : Value → Nat
  | .slice _ n _ => n
  | _ => 0
theorem u8s_append (a b : List Int) : u8s (a ++ b) = u8s a ++ u8s b := by simp [u8s]
theorem u32s_one (l : List Int) : ∀ u ∈ u32s l, u.oneCell' = true := by
  intro u hu
  obtain ⟨x, _, rfl⟩ := List.mem_map.1 hu
  rfl
theorem u32s_length (l : List Int) : (u32s l).length = l.length := by simp [u32s]
theorem set_u32s (l : List Int) (i : Nat) (v : Int) : (u32s l).set i (.int .u32 v) = u32s (l.set i v) := by simp [u32s, List.map_set]
set_option maxRecDepth 100000 in
set_option maxHeartbeats 2000000 in
theorem refsum_ok (s : ByteArray) (w : World) (hsz : s.size < 1099511627776) : Calls Tryz.prog 43 #[.string s] w fun e w' => e = .returned (hv (shaSum (ints s))) ∧ St w [] w' := by
  refine C_bevyref02_Sum ?_
  unfold F_bevyref02_Sum
  refine mop_new (St.nil w) (fun go w1 h1 => ?_)
  refine mop_pur (v := .agg (u32s kl).toArray) (fun w => by kernel_rfl) ?_
  refine mop_new h1 (fun gk w2 h2 => ?_)
  refine mop_storeN (q := true) (k := 64) (by kernel_rfl) h2 rfl (u32s_one kl) (by simp) (fun w3 h3 => ?_)
  have e1 : lay (List.replicate 64 (Value.int .u32 0)) (Value.agg (u32s kl).toArray).cells.toList 0 = u32s kl := lay_all _ _ rfl
  rw [e1] at h3
  clear h1 h2
  obtain ⟨A, cap, w4, hr4, h4⟩ := run_bytes_of_text (P := Tryz.prog) 9 135 5 s (by kernel_rfl) (by kernel_rfl) (by kernel_rfl) (by unfold maxLen; omega) h3
  refine mop_run hr4 ?_
  refine mop_push h4 rfl (by intro u hu; cases hu with | head => rfl | tail _ hu => cases hu) (buildb _ _) (by unfold maxLen; omega) (by omega) (fun A1 cap1 w5 h5 => ?_)
  obtain ⟨n, hn⟩ : ∃ n, n = s.size := ⟨_, rfl⟩
  have hil : (ints s).length = n := by rw [ints_length, hn]
  rw [← hn] at h5 hsz ⊢
  refine ⟨fun v w2 => ∃ (z cap : Nat) (A : Option Addr), z ≤ 63 - (n + 8) % 64 ∧ v = .slice A (n + 1 + z) cap ∧ RowSt w 5 1 [⟨gk, 127, u32s kl, true⟩, ⟨go, 32, List.replicate 32 (.int .u8 0), true⟩] A (n + 1 + z) cap (u8s (ints s ++ (128 :: List.replicate z 0))) w2, fun v _ => n + 100 - slen v, ⟨0, _, _, by omega, rfl, by rw [u8s_append]; exact h5⟩, ?_⟩
  clear h3 h4 h5 hr4
  rintro v u w6 ⟨z, cap, A, hz, rfl, h6⟩
  (repeat (first | (refine mop_c ?_ ?_; first | exact trivial | omega) | (refine dp_c ?_ ?_; first | exact trivial | omega)))
  refine mif_dec (fun hne => ?_) (fun heq => ?_)
  · refine mop_push h6 rfl (by intro u hu; cases hu with | head => rfl | tail _ hu => cases hu) (buildb _ _) (by unfold maxLen; omega) (by omega) (fun A1 cap1 w7 h7 => ?_)
    refine ⟨⟨z + 1, cap1, A1, by omega, rfl, ?_⟩, by simp [slen]; omega⟩
    have e : ints s ++ (128 :: List.replicate (z + 1) 0) = (ints s ++ (128 :: List.replicate z 0)) ++ [0] := by
      rw [List.append_assoc, List.cons_append, ← List.replicate_succ']
    rw [e, u8s_append]
    exact h7
  · obtain rfl : z = 63 - (n + 8) % 64 := by omega
    refine mop_c trivial ?_
    rw [← hn]
    (repeat (first | (refine mop_c ?_ ?_; first | exact trivial | omega) | (refine dp_c ?_ ?_; first | exact trivial | omega)))
    refine ⟨fun v x w2 => ∃ (i cap : Nat) (A : Option Addr), i ≤ 8 ∧ x = .int .i64 i ∧ v = .slice A (n + 1 + (63 - (n + 8) % 64) + i) cap ∧ RowSt w 5 1 [⟨gk, 127, u32s kl, true⟩, ⟨go, 32, List.replicate 32 (.int .u8 0), true⟩] A (n + 1 + (63 - (n + 8) % 64) + i) cap (u8s ((ints s ++ (128 :: List.replicate (63 - (n + 8) % 64) 0)) ++ (List.range i).map (lenB n))) w2,
      fun _ x _ => 8 - (intOf x).toNat, ⟨0, _, _, by omega, rfl, rfl, by simpa using h6⟩, ?_⟩
    clear h6
    rintro v x u2 w7 ⟨i, cap, A, hi, rfl, rfl, h7⟩
    refine mop_c trivial ?_
    refine mif_dec (fun hlt => ?_) (fun hge => ?_)
    · (repeat (first | (refine mop_c ?_ ?_; first | exact trivial | omega) | (refine dp_c ?_ ?_; first | exact trivial | omega)))
      refine mop_push h7 rfl (by intro u hu; cases hu with | head => rfl | tail _ hu => cases hu) (buildb _ _) (by unfold maxLen; omega) (by omega) (fun A1 cap1 w8 h8 => ?_)
      (repeat (first | (refine mop_c ?_ ?_; first | exact trivial | omega) | (refine dp_c ?_ ?_; first | exact trivial | omega)))
      refine ⟨⟨i + 1, cap1, A1, by omega, rfl, rfl, ?_⟩, by simp [intOf]; omega⟩
      have e : lenB n i = ((n : Int) % 18446744073709551616 * 8 % 18446744073709551616) / 2 ^ ((56 - 8 * (i : Int)) % 18446744073709551616).toNat % 256 := by
        unfold lenB
        congr 4
        omega
      rw [List.range_succ, List.map_append, ← List.append_assoc, u8s_append, List.map_cons, List.map_nil, e]
      exact h8
    · obtain rfl : i = 8 := by omega
      have hM : (ints s ++ (128 :: List.replicate (63 - (n + 8) % 64) 0)) ++ (List.range 8).map (lenB n) = ints s ++ padding n := by rw [padding, List.append_assoc]
      rw [hM] at h7
      have hfin : shaSum (ints s) = outB (feedAll (h0, []) (ints s ++ padding n)).1 := by rw [shaSum, hil]
      rw [hfin]
      have hMl : (ints s ++ padding n).length = n + 1 + (63 - (n + 8) % 64) + 8 := by simp [padding, hil]; omega
      have hMr : ∀ c ∈ ints s ++ padding n, 0 ≤ c ∧ c < 256 := fun c hc => by
        rcases List.mem_append.1 hc with hc | hc
        · exact ints_range s c hc
        · exact padding_range n c hc
      generalize ints s ++ padding n = M at h7 hMl hMr ⊢
      obtain ⟨N, hN⟩ : ∃ N, N = n + 1 + (63 - (n + 8) % 64) + 8 := ⟨_, rfl⟩
      rw [← hN] at h7 hMl ⊢
      have hN64 : N % 64 = 0 := by omega
      have hNb : N < 1099511627776 + 200 := by omega
      clear hM hfin hil
      obtain ⟨gm, sp, rfl, h8, _, _⟩ := h7.at_ (by omega)
      clear h7
      refine mop_pur (build8 _ _ _ _ _ _ _ _) ?_
      refine mop_new h8 (fun gv w8 h9 => ?_)
      refine mop_storeN (q := true) (k := 8) (by kernel_rfl) h9 rfl (u32s_one h0.list) (by simp) (fun w9 h10 => ?_)
      have e8 : lay (List.replicate 8 (Value.int .u32 0)) (Value.agg (u32s h0.list).toArray).cells.toList 0 = u32s h0.list := lay_all _ _ rfl
      have h10 : St w [⟨gv, 126, u32s h0.list, true⟩, ⟨gm, 5, u8s M ++ sp, true⟩, ⟨gk, 127, u32s kl, true⟩, ⟨go, 32, List.replicate 32 (.int .u8 0), true⟩] w9 := by
        rw [← e8]; exact h10
      refine ⟨fun x w2 => ∃ j : Nat, 64 * j ≤ N ∧ x = .int .i64 ((64 * j : Nat) : Int) ∧ St w [⟨gv, 126, u32s (blocks M j).list, true⟩, ⟨gm, 5, u8s M ++ sp, true⟩, ⟨gk, 127, u32s kl, true⟩, ⟨go, 32, List.replicate 32 (.int .u8 0), true⟩] w2,
        fun x _ => N - (intOf x).toNat, ⟨0, by omega, rfl, h10⟩, ?_⟩
      clear h8 h9 h10
      rintro x u3 w10 ⟨j, hj, rfl, h10⟩
      (repeat (first | (refine mop_c ?_ ?_; first | exact trivial | omega) | (refine dp_c ?_ ?_; first | exact trivial | omega)))
      refine mif_dec (fun hlt => ?_) (fun hge => ?_)
      · have hj2 : 64 * j + 64 ≤ N := by omega
        have hbl : blocks M (j + 1) = (blocks M j).add (rl (wl ((M.drop (64 * j)).take 64) 64) 64 (blocks M j)) := rfl
        have hbat := fun i hi => block_at M j i hi
        have hsok := blocks_ok M j
        generalize (M.drop (64 * j)).take 64 = bl at hbl hbat
        obtain ⟨S', hS⟩ : ∃ S', S' = blocks M (j + 1) := ⟨_, rfl⟩
        rw [← hS] at hbl
        refine mop_new h10 (fun gw w11 h11 => ?_)
        refine ⟨fun x w2 => ∃ i : Nat, i ≤ 16 ∧ x = .int .i64 i ∧ St w [⟨gw, 127, u32s (wk bl i), true⟩, ⟨gv, 126, u32s (blocks M j).list, true⟩, ⟨gm, 5, u8s M ++ sp, true⟩, ⟨gk, 127, u32s kl, true⟩, ⟨go, 32, List.replicate 32 (.int .u8 0), true⟩] w2,
          fun x _ => 16 - (intOf x).toNat, ⟨0, by omega, rfl, h11⟩, ?_⟩
        clear h10 h11
        rintro x u4 w12 ⟨i, hi, rfl, h12⟩
        (repeat (first | (refine mop_c ?_ ?_; first | exact trivial | omega) | (refine dp_c ?_ ?_; first | exact trivial | omega)))
        refine mif_dec (fun hlt2 => ?_) (fun hge2 => ?_)
        · (repeat (first | (refine mop_c ?_ ?_; first | exact trivial | omega) | (refine dp_c ?_ ?_; first | exact trivial | omega)))
          rw [show ((64 * j : Nat) : Int) + 4 * (i : Int) = ((64 * j + 4 * i : Nat) : Int) by omega]
          refine mop_to (word_ok gm 0 N cap (64 * j + 4 * i) (M.getD (64 * j + 4 * i) 0) (M.getD (64 * j + 4 * i + 1) 0) (M.getD (64 * j + 4 * i + 2) 0) (M.getD (64 * j + 4 * i + 3) 0) w12 (by omega) (by omega)
            ?_ ?_ ?_ ?_ (getD_bd M _ hMr) (getD_bd M _ hMr) (getD_bd M _ hMr) (getD_bd M _ hMr)) ?_
          · rw [Nat.zero_add]; exact (h12.cell 2 rfl _).trans (row_at M sp _ (by omega))
          · rw [Nat.zero_add]; exact (h12.cell 2 rfl _).trans (row_at M sp _ (by omega))
          · rw [Nat.zero_add]; exact (h12.cell 2 rfl _).trans (row_at M sp _ (by omega))
          · rw [Nat.zero_add]; exact (h12.cell 2 rfl _).trans (row_at M sp _ (by omega))
          rintro e w13 ⟨rfl, hd13⟩
          have h13 := h12.drawn hd13
          (repeat (first | (refine mop_c ?_ ?_; first | exact trivial | omega) | (refine dp_c ?_ ?_; first | exact trivial | omega)))
          refine mop_st (j := i) h13 (by omega) (by rw [u32s_length, wk_len bl i (by omega)]; omega) rfl (fun w14 h14 => ?_)
          (repeat (first | (refine mop_c ?_ ?_; first | exact trivial | omega) | (refine dp_c ?_ ?_; first | exact trivial | omega)))
          refine ⟨⟨i + 1, by omega, rfl, ?_⟩, by simp [intOf]; omega⟩
          rw [wk_set bl i (by omega)] at h14
          · exact h14
          · rw [wl_new, if_pos (by omega), hbat _ (by omega), hbat _ (by omega), hbat _ (by omega), hbat _ (by omega), ← Nat.add_assoc, ← Nat.add_assoc, ← Nat.add_assoc]
        · obtain rfl : i = 16 := by omega
          refine ⟨fun x w2 => ∃ k : Nat, 16 ≤ k ∧ k ≤ 64 ∧ x = .int .i64 k ∧ St w [⟨gw, 127, u32s (wk bl k), true⟩, ⟨gv, 126, u32s (blocks M j).list, true⟩, ⟨gm, 5, u8s M ++ sp, true⟩, ⟨gk, 127, u32s kl, true⟩, ⟨go, 32, List.replicate 32 (.int .u8 0), true⟩] w2,
            fun x _ => 64 - (intOf x).toNat, ⟨16, by omega, by omega, rfl, h12⟩, ?_⟩
          clear h12
          rintro x u5 w13 ⟨k, hk0, hk, rfl, h13⟩
          (repeat (first | (refine mop_c ?_ ?_; first | exact trivial | omega) | (refine dp_c ?_ ?_; first | exact trivial | omega)))
          refine mif_dec (fun hlt3 => ?_) (fun hge3 => ?_)
          · have d15 := wl_wd bl k (k - 15)
            have d2 := wl_wd bl k (k - 2)
            (repeat (first | (refine mop_c ?_ ?_; first | exact trivial | omega) | (refine dp_c ?_ ?_; first | exact trivial | omega)))
            refine mop_ld ((h13.cell 0 rfl (k - 15)).trans (wk_at bl k (k - 15) (by omega))) (by omega) ?_
            (repeat (first | (refine mop_c ?_ ?_; first | exact trivial | omega) | (refine dp_c ?_ ?_; first | exact trivial | omega)))
            refine mop_ld ((h13.cell 0 rfl (k - 2)).trans (wk_at bl k (k - 2) (by omega))) (by omega) ?_
            (repeat (first | (refine mop_c ?_ ?_; first | exact trivial | omega) | (refine dp_c ?_ ?_; first | exact trivial | omega)))
            refine dq_ld ((h13.cell 0 rfl (k - 16)).trans (wk_at bl k (k - 16) (by omega))) (by omega) ?_
            (repeat (first | (refine mop_c ?_ ?_; first | exact trivial | omega) | (refine dp_c ?_ ?_; first | exact trivial | omega)))
            refine dq_ld ((h13.cell 0 rfl (k - 7)).trans (wk_at bl k (k - 7) (by omega))) (by omega) ?_
            (repeat (first | (refine mop_c ?_ ?_; first | exact trivial | omega) | (refine dp_c ?_ ?_; first | exact trivial | omega)))
            refine df_eq (fun w => turned_k _ 7 w d15 (by decide)) fun w5 hd5 => ?_
            refine df_eq (fun w => turned_k _ 18 w d15 (by decide)) fun w6 hd6 => ?_
            (repeat (first | (refine mop_c ?_ ?_; first | exact trivial | omega) | (refine dp_c ?_ ?_; first | exact trivial | omega)))
            refine df_eq (fun w => turned_k _ 17 w d2 (by decide)) fun w7 hd7 => ?_
            refine df_eq (fun w => turned_k _ 19 w d2 (by decide)) fun w8 hd8 => ?_
            (repeat (first | (refine mop_c ?_ ?_; first | exact trivial | omega) | (refine dp_c ?_ ?_; first | exact trivial | omega)))
            have h14 := h13.drawn (((hd5.trans hd6).trans hd7).trans hd8)
            refine df_st (j := k) h14 (by omega) (by rw [u32s_length, wk_len bl k hk]; omega) rfl (fun w9 h15 => ?_)
            refine dend_intro fun w10 hd10 => ?_
            have h16 := h15.drawn hd10
            (repeat (first | (refine mop_c ?_ ?_; first | exact trivial | omega) | (refine dp_c ?_ ?_; first | exact trivial | omega)))
            refine ⟨⟨k + 1, by omega, by omega, rfl, ?_⟩, by simp [intOf]; omega⟩
            rw [wk_set bl k (by omega)] at h16
            · exact h16
            · rw [wl_new, if_neg (by omega)]
              rfl
          · obtain rfl : k = 64 := by omega
            have hw : wk bl 64 = wl bl 64 := by simp [wk]
            have hWl : (wl bl 64).length = 64 := wl_len bl 64
            rw [hw] at h13
            clear hw
            generalize wl bl 64 = W at h13 hWl hbl
            refine mop_ldN (cells_of_row (h13.mem (k := 1) rfl)) rfl rfl ?_
            refine mop_new h13 (fun gs w14 h14 => ?_)
            refine mop_storeN (q := true) (k := 8) (by kernel_rfl) h14 rfl (u32s_one (blocks M j).list) (by simp) (fun w15 h15 => ?_)
            have e9 : lay (List.replicate 8 (Value.int .u32 0)) (Value.agg (u32s (blocks M j).list).toArray).cells.toList 0 = u32s (blocks M j).list := lay_all _ _ rfl
            rw [e9] at h15
            clear h13 h14 e9
            generalize blocks M j = s0 at hbl hsok h15
            refine ⟨fun x w2 => ∃ i : Nat, i ≤ 64 ∧ x = .int .i64 i ∧ St w [⟨gs, 126, u32s (rl W i s0).list, true⟩, ⟨gw, 127, u32s W, true⟩, ⟨gv, 126, u32s s0.list, true⟩, ⟨gm, 5, u8s M ++ sp, true⟩, ⟨gk, 127, u32s kl, true⟩, ⟨go, 32, List.replicate 32 (.int .u8 0), true⟩] w2,
              fun x _ => 64 - (intOf x).toNat, ⟨0, by omega, rfl, h15⟩, ?_⟩
            clear h15
            rintro x u6 w16 ⟨i, hi4, rfl, h16⟩
            have hr := rl_ok W hsok i
            have hrs : rl W (i + 1) s0 = (rl W i s0).rnd (kl.getD i 0) (W.getD i 0) := rfl
            obtain ⟨s', hs'⟩ : ∃ s', s' = rl W (i + 1) s0 := ⟨_, rfl⟩
            obtain ⟨t, ht⟩ : ∃ t, rl W i s0 = t := ⟨_, rfl⟩
            rw [← hs'] at hrs
            rw [ht] at hr hrs h16
            (repeat (first | (refine mop_c ?_ ?_; first | exact trivial | omega) | (refine dp_c ?_ ?_; first | exact trivial | omega)))
            refine mif_dec (fun hlt4 => ?_) (fun hge4 => ?_)
            · (repeat (first | (refine mop_c ?_ ?_; first | exact trivial | omega) | (refine dp_c ?_ ?_; first | exact trivial | omega)))
              refine mop_ld ((h16.cell 0 rfl 4).trans (show (u32s t.list)[4]? = some (.int .u32 t.e) from rfl)) (by omega) ?_
              (repeat (first | (refine mop_c ?_ ?_; first | exact trivial | omega) | (refine dp_c ?_ ?_; first | exact trivial | omega)))
              refine mop_ld ((h16.cell 0 rfl 0).trans (show (u32s t.list)[0]? = some (.int .u32 t.a) from rfl)) (by omega) ?_
              (repeat (first | (refine mop_c ?_ ?_; first | exact trivial | omega) | (refine dp_c ?_ ?_; first | exact trivial | omega)))
              refine dq_ld ((h16.cell 0 rfl 7).trans (show (u32s t.list)[7]? = some (.int .u32 t.h) from rfl)) (by omega) ?_
              refine df_eq (fun w => turned_k _ 6 w hr.e (by decide)) fun w5 hd5 => ?_
              refine df_eq (fun w => turned_k _ 11 w hr.e (by decide)) fun w6 hd6 => ?_
              (repeat (first | (refine mop_c ?_ ?_; first | exact trivial | omega) | (refine dp_c ?_ ?_; first | exact trivial | omega)))
              refine df_eq (fun w => turned_k _ 25 w hr.e (by decide)) fun w7 hd7 => ?_
              (repeat (first | (refine mop_c ?_ ?_; first | exact trivial | omega) | (refine dp_c ?_ ?_; first | exact trivial | omega)))
              refine dq_ld ((h16.cell 0 rfl 5).trans (show (u32s t.list)[5]? = some (.int .u32 t.f) from rfl)) (by omega) ?_
              (repeat (first | (refine mop_c ?_ ?_; first | exact trivial | omega) | (refine dp_c ?_ ?_; first | exact trivial | omega)))
              refine dq_ld ((h16.cell 0 rfl 6).trans (show (u32s t.list)[6]? = some (.int .u32 t.g) from rfl)) (by omega) ?_
              (repeat (first | (refine mop_c ?_ ?_; first | exact trivial | omega) | (refine dp_c ?_ ?_; first | exact trivial | omega)))
              refine dq_ld ((h16.cell 4 rfl i).trans (u32s_at kl i (by rw [kl_len]; omega))) (by omega) ?_
              (repeat (first | (refine mop_c ?_ ?_; first | exact trivial | omega) | (refine dp_c ?_ ?_; first | exact trivial | omega)))
              refine dq_ld ((h16.cell 1 rfl i).trans (u32s_at W i (by omega))) (by omega) ?_
              (repeat (first | (refine mop_c ?_ ?_; first | exact trivial | omega) | (refine dp_c ?_ ?_; first | exact trivial | omega)))
              refine dend_intro fun w8 hd8 => ?_
              have h17 := h16.drawn (((hd5.trans hd6).trans hd7).trans hd8)
              refine df_eq (fun w => turned_k _ 2 w hr.a (by decide)) fun w9 hd9 => ?_
              refine df_eq (fun w => turned_k _ 13 w hr.a (by decide)) fun w10 hd10 => ?_
              (repeat (first | (refine mop_c ?_ ?_; first | exact trivial | omega) | (refine dp_c ?_ ?_; first | exact trivial | omega)))
              refine df_eq (fun w => turned_k _ 22 w hr.a (by decide)) fun w11 hd11 => ?_
              (repeat (first | (refine mop_c ?_ ?_; first | exact trivial | omega) | (refine dp_c ?_ ?_; first | exact trivial | omega)))
              refine dq_ld ((h17.cell 0 rfl 1).trans (show (u32s t.list)[1]? = some (.int .u32 t.b) from rfl)) (by omega) ?_
              (repeat (first | (refine mop_c ?_ ?_; first | exact trivial | omega) | (refine dp_c ?_ ?_; first | exact trivial | omega)))
              refine dq_ld ((h17.cell 0 rfl 2).trans (show (u32s t.list)[2]? = some (.int .u32 t.c) from rfl)) (by omega) ?_
              (repeat (first | (refine mop_c ?_ ?_; first | exact trivial | omega) | (refine dp_c ?_ ?_; first | exact trivial | omega)))
              refine dq_ld ((h17.cell 0 rfl 1).trans (show (u32s t.list)[1]? = some (.int .u32 t.b) from rfl)) (by omega) ?_
              (repeat (first | (refine mop_c ?_ ?_; first | exact trivial | omega) | (refine dp_c ?_ ?_; first | exact trivial | omega)))
              refine dq_ld ((h17.cell 0 rfl 2).trans (show (u32s t.list)[2]? = some (.int .u32 t.c) from rfl)) (by omega) ?_
              (repeat (first | (refine mop_c ?_ ?_; first | exact trivial | omega) | (refine dp_c ?_ ?_; first | exact trivial | omega)))
              refine dend_intro fun w12 hd12 => ?_
              have h18 := h17.drawn (((hd9.trans hd10).trans hd11).trans hd12)
              clear h16 h17
              (repeat (first | (refine mop_c ?_ ?_; first | exact trivial | omega) | (refine dp_c ?_ ?_; first | exact trivial | omega)))
              refine mop_ld ((h18.cell 0 rfl 0).trans (show (u32s t.list)[0]? = some (.int .u32 t.a) from rfl)) (by omega) ?_
              (repeat (first | (refine mop_c ?_ ?_; first | exact trivial | omega) | (refine dp_c ?_ ?_; first | exact trivial | omega)))
              refine mop_ld ((h18.cell 0 rfl 1).trans (show (u32s t.list)[1]? = some (.int .u32 t.b) from rfl)) (by omega) ?_
              (repeat (first | (refine mop_c ?_ ?_; first | exact trivial | omega) | (refine dp_c ?_ ?_; first | exact trivial | omega)))
              refine mop_ld ((h18.cell 0 rfl 2).trans (show (u32s t.list)[2]? = some (.int .u32 t.c) from rfl)) (by omega) ?_
              (repeat (first | (refine mop_c ?_ ?_; first | exact trivial | omega) | (refine dp_c ?_ ?_; first | exact trivial | omega)))
              refine mop_ld ((h18.cell 0 rfl 3).trans (show (u32s t.list)[3]? = some (.int .u32 t.d) from rfl)) (by omega) ?_
              (repeat (first | (refine mop_c ?_ ?_; first | exact trivial | omega) | (refine dp_c ?_ ?_; first | exact trivial | omega)))
              refine mop_ld ((h18.cell 0 rfl 4).trans (show (u32s t.list)[4]? = some (.int .u32 t.e) from rfl)) (by omega) ?_
              (repeat (first | (refine mop_c ?_ ?_; first | exact trivial | omega) | (refine dp_c ?_ ?_; first | exact trivial | omega)))
              refine mop_ld ((h18.cell 0 rfl 5).trans (show (u32s t.list)[5]? = some (.int .u32 t.f) from rfl)) (by omega) ?_
              (repeat (first | (refine mop_c ?_ ?_; first | exact trivial | omega) | (refine dp_c ?_ ?_; first | exact trivial | omega)))
              refine mop_ld ((h18.cell 0 rfl 6).trans (show (u32s t.list)[6]? = some (.int .u32 t.g) from rfl)) (by omega) ?_
              refine mop_pur (v := .agg (u32s s'.list).toArray) (by rw [hrs]; exact build8 _ _ _ _ _ _ _ _) ?_
              refine mop_storeN (q := true) (k := 8) (by kernel_rfl) h18 rfl (u32s_one s'.list) (by simp [u32s, S8.list]) (fun w13 h19 => ?_)
              have e9 : lay (u32s t.list) (Value.agg (u32s s'.list).toArray).cells.toList 0 = u32s s'.list := lay_all _ _ rfl
              rw [e9] at h19
              (repeat (first | (refine mop_c ?_ ?_; first | exact trivial | omega) | (refine dp_c ?_ ?_; first | exact trivial | omega)))
              exact ⟨⟨i + 1, by omega, rfl, by rw [← hs']; exact h19⟩, by simp [intOf]; omega⟩
            · obtain rfl : i = 64 := by omega
              rw [ht] at hbl
              refine ⟨fun x w2 => ∃ i : Nat, i ≤ 8 ∧ x = .int .i64 i ∧ St w [⟨gv, 126, u32s (addK s0.list t.list i), true⟩, ⟨gs, 126, u32s t.list, true⟩, ⟨gw, 127, u32s W, true⟩, ⟨gm, 5, u8s M ++ sp, true⟩, ⟨gk, 127, u32s kl, true⟩, ⟨go, 32, List.replicate 32 (.int .u8 0), true⟩] w2,
                fun x _ => 8 - (intOf x).toNat, ⟨0, by omega, rfl, h16.up2⟩, ?_⟩
              clear h16
              rintro x u7 w17 ⟨i, hi5, rfl, h17⟩
              (repeat (first | (refine mop_c ?_ ?_; first | exact trivial | omega) | (refine dp_c ?_ ?_; first | exact trivial | omega)))
              have hal : (addK s0.list t.list i).length = 8 := addK_len s0.list t.list i
              refine mif_dec (fun hlt5 => ?_) (fun hge5 => ?_)
              · (repeat (first | (refine mop_c ?_ ?_; first | exact trivial | omega) | (refine dp_c ?_ ?_; first | exact trivial | omega)))
                refine dq_ld ((h17.cell 0 rfl i).trans (u32s_at _ i (by omega))) (by omega) ?_
                (repeat (first | (refine mop_c ?_ ?_; first | exact trivial | omega) | (refine dp_c ?_ ?_; first | exact trivial | omega)))
                refine dq_ld ((h17.cell 1 rfl i).trans (u32s_at t.list i (by simp [S8.list]; omega))) (by omega) ?_
                (repeat (first | (refine mop_c ?_ ?_; first | exact trivial | omega) | (refine dp_c ?_ ?_; first | exact trivial | omega)))
                refine df_st (j := i) h17 (by omega) (by rw [u32s_length]; omega) rfl (fun w18 h18 => ?_)
                refine dend_intro fun w19 hd19 => ?_
                have h19 := h18.drawn hd19
                (repeat (first | (refine mop_c ?_ ?_; first | exact trivial | omega) | (refine dp_c ?_ ?_; first | exact trivial | omega)))
                refine ⟨⟨i + 1, by omega, rfl, ?_⟩, by simp [intOf]; omega⟩
                rw [set_u32s, addK_at s0.list t.list i i (Nat.le_refl i)] at h19
                exact h19
              · obtain rfl : i = 8 := by omega
                (repeat (first | (refine mop_c ?_ ?_; first | exact trivial | omega) | (refine dp_c ?_ ?_; first | exact trivial | omega)))
                refine ⟨⟨j + 1, by omega, by simp only [Value.int.injEq, true_and]; omega, ?_⟩, by simp [intOf]; omega⟩
                have e10 := addK_end s0.list t rfl
                rw [s8_list, ← hbl] at e10
                rw [e10] at h17
                rw [← hS]
                exact h17.swap.drop.swap.drop
      · have hjN : 64 * j = M.length := by omega
        have hfin : feedAll (h0, []) M = (blocks M j, []) := by
          have := blocks_feed M j (by omega)
          rwa [hjN, List.take_length] at this
        rw [hfin]
        generalize blocks M j = y at h10
        have hy8 : y.list.length = 8 := rfl
        refine mop_new h10 (fun gu w11 h11 => ?_)
        refine ⟨fun x w2 => ∃ i : Nat, i ≤ 32 ∧ x = .int .i64 i ∧ St w [⟨gu, 32, u8s (fill (outAt y.list) 32 i), true⟩, ⟨gv, 126, u32s y.list, true⟩, ⟨gm, 5, u8s M ++ sp, true⟩, ⟨gk, 127, u32s kl, true⟩, ⟨go, 32, List.replicate 32 (.int .u8 0), true⟩] w2,
          fun x _ => 32 - (intOf x).toNat, ⟨0, by omega, rfl, h11⟩, ?_⟩
        clear h10 h11
        rintro x u4 w12 ⟨i, hi, rfl, h12⟩
        (repeat (first | (refine mop_c ?_ ?_; first | exact trivial | omega) | (refine dp_c ?_ ?_; first | exact trivial | omega)))
        refine mif_dec (fun hlt2 => ?_) (fun hge2 => ?_)
        · (repeat (first | (refine mop_c ?_ ?_; first | exact trivial | omega) | (refine dp_c ?_ ?_; first | exact trivial | omega)))
          refine mop_ld ((h12.cell 1 rfl (i / 4)).trans (u32s_at y.list (i / 4) (by omega))) (by omega) ?_
          (repeat (first | (refine mop_c ?_ ?_; first | exact trivial | omega) | (refine dp_c ?_ ?_; first | exact trivial | omega)))
          refine mop_st (j := i) h12 (by omega) (by rw [u8s_length, fill_length _ _ _ hi]; omega) rfl (fun w13 h13 => ?_)
          (repeat (first | (refine mop_c ?_ ?_; first | exact trivial | omega) | (refine dp_c ?_ ?_; first | exact trivial | omega)))
          refine ⟨⟨i + 1, by omega, rfl, ?_⟩, by simp [intOf]; omega⟩
          rw [← fill_set _ _ _ (by omega), ← set_u8s]
          have e : outAt y.list i = y.list.getD (i / 4) 0 / 2 ^ (((24 : Int) - 8 * ((i : Int) % 4)) % 18446744073709551616).toNat % 256 := by
            unfold outAt
            congr 3
            omega
          rw [e]
          exact h13
        · obtain rfl : i = 32 := by omega
          have hf : fill (outAt y.list) 32 32 = outB y := by simp [fill, outB]
          rw [hf] at h12
          have hol : (u8s (outB y)).length = 32 := by simp [outB, u8s]
          refine mop_ldN (cells_of_row h12.head) hol rfl ?_
          have h13 := h12.drop.drop.drop.drop
          refine mop_storeN (q := true) (k := 32) (by kernel_rfl) h13 (by simpa [Value.cells] using hol) (by intro u hu; exact u8s_one _ u hu) (by simp) (fun w14 h14 => ?_)
          have e : lay (List.replicate 32 (Value.int .u8 0)) (Value.agg (u8s (outB y)).toArray).cells.toList 0 = u8s (outB y) := lay_all _ _ (by show (u8s (outB y)).length = _; rw [hol]; simp)
          rw [e] at h14
          refine rcell_ldN (cells_of_row h14.head) hol ?_
          exact ⟨rfl, h14.drop⟩
end Go.Proofs.YtopcnkejobomaaaGreat
namespace Go.Proofs.YtopcnkejobomaaaGreat
open Go.RowKit
theorem buildstr (s : ByteArray) (w : World) : (o_buildSlice 123 1 [(0, .string s)]).run Tryz.prog w = .ok (.value (.slice (some ⟨w.heap.size, 0, none⟩) 1 1)) (w.alloc (.cells [Value.string s].toArray 9)) := by kernel_rfl
theorem sum_one (s : ByteArray) (w : World) (hsz : s.size < 4611686018427387904) : Calls Tryz.prog 40 #[.slice (some ⟨w.heap.size, 0, none⟩) 1 1] (w.alloc (.cells [Value.string s].toArray 9)) fun e w' => e = .returned (hv (shaSum (ints s))) ∧ St w [] w' := by
  have h := sum_ok (some ⟨w.heap.size, 0, none⟩) [s] 1 (w.alloc (.cells [Value.string s].toArray 9)) (rd_new w [Value.string s] 9) (by simp) (by simpa [cat, ints_length] using hsz)
  refine h.mono ?_
  rintro e w' ⟨rfl, h'⟩
  refine ⟨by simp [cat], ?_⟩
  have := (St.nil w).alloc 9 [.string s]
  exact this.drop.call0 h'
theorem strOfNums_append (a b : List Int) : strOfNums a ++ strOfNums b = strOfNums (a ++ b) := by
  apply ByteArray.ext
  simp [strOfNums]
theorem St.ext {w w' : World} {L : List Bk} (h : St w L w') (hn : ∀ b ∈ L, b.nw = true) : Ext w w' :=
  h.only.mono (fun i _ hi => by
    obtain ⟨b, hb, h2, _⟩ := hi
    rw [hn b hb] at h2
    cases h2)
theorem build1b (a : Int) (w : World) : (o_buildSlice 135 1 [(0, .int .u8 a)]).run Tryz.prog w = .ok (.value (.slice (some ⟨w.heap.size, 0, none⟩) 1 1)) (w.alloc (.cells (u8s [a]).toArray 5)) := by kernel_rfl
theorem p_index_str (s : ByteArray) (i : Int) (h0 : 0 ≤ i) (h1 : i < s.size) : Pur Tryz.prog (o_index 9 (.string s) (.int .i64 i)) (.int .u8 ((ints s).getD i.toNat 0)) := p_index_string (P := Tryz.prog) 9 s .i64 i (by kernel_rfl) h0 h1
theorem conv1 (a : Int) (w : World) {w0 : World} {L : List Bk} (h : St w0 L w) :
    PurW Tryz.prog (w.alloc (.cells (u8s [a]).toArray 5)) (o_conv 135 9 (.slice (some ⟨w.heap.size, 0, none⟩) 1 1)) (.string (strOfNums [a])) :=
  pw_conv_bytes 135 9 5 w.heap.size 0 1 _ [a] (by kernel_rfl) (by kernel_rfl) (by kernel_rfl) rfl (fun i hi => by
    rw [Nat.zero_add, (h.alloc 5 (u8s [a])).cell 0 rfl i]
    have : i = 0 := by omega
    subst this
    rfl)
end Go.Proofs.YtopcnkejobomaaaGreat
namespace Go.Proofs.YtopcnkejobomaaaGreat
open Go.RowKit
def xorB (c x : Int) : Int := bits .xor .u8 x c
def pad (l : List Int) : List Int := l ++ List.replicate (64 - l.length) 0
def kk (l : List Int) : List Int := if 64 < l.length then shaSum l else l
def hmac (k m : List Int) : List Int := shaSum ((pad (kk k)).map (xorB 92) ++ shaSum ((pad (kk k)).map (xorB 54) ++ m))
theorem hmac_length (k m : List Int) : (hmac k m).length = 32 := shaSum_length _
theorem hmac_range (k m : List Int) : ∀ x ∈ hmac k m, 0 ≤ x ∧ x < 256 := shaSum_range _
theorem kk_length (l : List Int) : (kk l).length ≤ 64 := by
  unfold kk
  split
  · rw [shaSum_length]; omega
  · omega
theorem pad_length (l : List Int) (h : l.length ≤ 64) : (pad l).length = 64 := by simp [pad]; omega
theorem xorB_range (c x : Int) : 0 ≤ xorB c x ∧ xorB c x < 256 := by
  have := bounds_u8 (wf_bits .xor .u8 x c)
  unfold xorB
  omega
theorem map_xor_range (c : Int) (l : List Int) : ∀ x ∈ l.map (xorB c), 0 ≤ x ∧ x < 256 := by
  intro x hx
  obtain ⟨y, _, rfl⟩ := List.mem_map.1 hx
  exact xorB_range c y
def xk (c : Int) (l : List Int) (i : Nat) : List Int := (l.take i).map (xorB c) ++ l.drop i
theorem xk_length (c : Int) (l : List Int) (i : Nat) : (xk c l i).length = l.length := by simp [xk]; omega
theorem xk_at (c : Int) (l : List Int) (i : Nat) (h : i < l.length) : (xk c l i).getD i 0 = l.getD i 0 := by
  have h1 : (l.take i).length = i := by simp; omega
  unfold xk List.getD
  rw [List.getElem?_append_right (by rw [List.length_map, h1]; omega), List.length_map, h1, Nat.sub_self, List.getElem?_drop]
  simp
theorem xk_set (c : Int) (l : List Int) (i : Nat) (h : i < l.length) : (xk c l i).set i (xorB c (l.getD i 0)) = xk c l (i + 1) := by
  unfold xk
  have h1 : (l.take i).length = i := by simp; omega
  rw [List.set_append, if_neg (by rw [List.length_map, h1]; omega), List.length_map, h1, Nat.sub_self, List.drop_eq_getElem_cons h, List.set_cons_zero, List.take_succ_eq_append_getElem h, List.map_append, List.append_assoc]
  simp [List.getD, h]
theorem xk_all (c : Int) (l : List Int) : xk c l l.length = l.map (xorB c) := by simp [xk]
theorem lay_pad (l : List Int) : lay (u8s (List.replicate 64 0)) (u8s l) 0 = u8s (pad l) := by
  unfold lay pad
  rw [u8s_append, u8s_length, List.take_zero, List.nil_append, Nat.zero_add]
  congr 1
  unfold u8s
  rw [← List.map_drop, List.drop_replicate]
theorem build2s (a b : ByteArray) (w : World) : (o_buildSlice 123 2 [(0, .string a), (1, .string b)]).run Tryz.prog w = .ok (.value (.slice (some ⟨w.heap.size, 0, none⟩) 2 2)) (w.alloc (.cells [Value.string a, .string b].toArray 9)) := by kernel_rfl
theorem RowSt.rd {w0 w : World} {e sz : Nat} {L : List Bk} {A : Option Addr} {n cap : Nat} {xs : List Value} (h : RowSt w0 e sz L A n cap xs w) : Rd w A xs := by
  rcases h.2 with ⟨rfl, rfl, rfl, _⟩ | ⟨g, sp, rfl, hst, _⟩
  · have := h.1
    rw [Nat.zero_mul] at this
    rw [List.eq_nil_of_length_eq_zero this]
    exact .inl rfl
  · refine .inr ⟨g, 0, rfl, ?_, fun j u hu => ?_⟩
    · exact hst.head.lt
    · rw [Nat.zero_add, hst.cell 0 rfl j]
      show (xs ++ sp)[j]? = some u
      rw [List.getElem?_append_left (List.getElem?_eq_some_iff.1 hu).1]
      exact hu
set_option maxRecDepth 100000 in
set_option maxHeartbeats 1000000 in
theorem code_ok (key : ByteArray) (A : Option Addr) (ss : List ByteArray) (c : Nat) (w : World) (hr : Rd w A (ss.map .string)) (hk : key.size < 1000000000000) (hss : ss.length < 1000000) (hsz : (cat ss).length < 1000000000000) :
    Calls Tryz.prog 152 #[.string key, .slice A ss.length c] w fun e w' => e = .returned (hv (hmac (ints key) (cat ss))) ∧ St w [] w' := by
  refine C_mac_Code ?_
  unfold F_mac_Code
  have z32 : (u8s (List.replicate 32 0)).length = 32 := by simp [u8s]
  refine mop_new (St.nil w) (fun r w1 h1 => ?_)
  have h1 : St w [⟨r, 33, u8s (List.replicate 32 0), true⟩] w1 := by simpa [u8s] using h1
  refine ⟨fun v w2 => ∃ k : ByteArray, v = .string k ∧ ints k = kk (ints key) ∧ St w [⟨r, 33, u8s (List.replicate 32 0), true⟩] w2, ?_, ?_⟩
  · (repeat (first | (refine mop_c ?_ ?_; first | exact trivial | omega) | (refine dp_c ?_ ?_; first | exact trivial | omega)))
    refine mif_dec (fun hlt => ?_) (fun hge => ?_)
    · refine mop_run (buildstr key w1) ?_
      refine mop_to (sum_one key w1 (by omega)) ?_
      rintro e w2 ⟨rfl, h2⟩
      have h2 := h1.call0 h2
      have h32 : (u8s (shaSum (ints key))).length = 32 := by rw [u8s_length, shaSum_length]
      refine mop_new h2 (fun g w3 h3 => ?_)
      refine mop_storeN (q := true) (k := 32) (by kernel_rfl) h3 (by simpa [hv, Value.cells] using h32) (by intro u hu; exact u8s_one _ u hu) (by simp) (fun w4 h4 => ?_)
      have e : lay (List.replicate 32 (Value.int .u8 0)) (hv (shaSum (ints key))).cells.toList 0 = u8s (shaSum (ints key)) := lay_all _ _ (by show (u8s (shaSum (ints key))).length = _; rw [h32]; simp)
      rw [e] at h4
      (repeat (first | (refine mop_c ?_ ?_; first | exact trivial | omega) | (refine dp_c ?_ ?_; first | exact trivial | omega)))
      refine mop_purW (pw_conv_bytes 135 9 5 g 0 32 _ (shaSum (ints key)) (by kernel_rfl) (by kernel_rfl) (by kernel_rfl) (shaSum_length _) (fun i hi => by rw [Nat.zero_add, h4.cell 0 rfl i]; exact u8s_at _ i (by rw [shaSum_length]; omega))) ?_
      refine ⟨_, rfl, ?_, h4.drop⟩
      rw [ints_str _ (shaSum_range _), kk, if_pos (by rw [ints_length]; omega)]
    · exact ⟨key, rfl, by rw [kk, if_neg (by rw [ints_length]; omega)], h1⟩
  · rintro v u w2 ⟨k, rfl, hk1, h2⟩
    clear h1
    have hkl : (ints k).length ≤ 64 := by rw [hk1]; exact kk_length _
    have hks : k.size ≤ 64 := by rwa [ints_length] at hkl
    have htk : (ints k).take (min k.size 64) = ints k := List.take_of_length_le (by rw [ints_length]; omega)
    obtain ⟨P, hP⟩ : ∃ P, P = pad (kk (ints key)) := ⟨_, rfl⟩
    have hPl : P.length = 64 := by rw [hP]; exact pad_length _ (kk_length _)
    have hlay : lay (u8s (List.replicate 64 0)) (u8s ((ints k).take (min k.size 64))) 0 = u8s P := by rw [htk, lay_pad, hk1, hP]
    have hm : hmac (ints key) (cat ss) = shaSum (P.map (xorB 92) ++ shaSum (P.map (xorB 54) ++ cat ss)) := by rw [hP]; rfl
    rw [hm]
    refine mop_new h2 (fun p w3 h3 => ?_)
    refine mop_new h3 (fun q w4 h4 => ?_)
    have h4 : St w [⟨q, 129, u8s (List.replicate 64 0), true⟩, ⟨p, 129, u8s (List.replicate 64 0), true⟩, ⟨r, 33, u8s (List.replicate 32 0), true⟩] w4 := by simpa [u8s] using h4
    clear h2 h3
    have z64 : (u8s (List.replicate 64 0)).length = 64 := by simp [u8s]
    (repeat (first | (refine mop_c ?_ ?_; first | exact trivial | omega) | (refine dp_c ?_ ?_; first | exact trivial | omega)))
    obtain ⟨w5, hr5, h5⟩ := run_copy_string (P := Tryz.prog) (o := 0) (m := 64) (c := 64) (s := k) (dT := 135) (sT := 9) (ty := 3) (e := 5) (ks := [false, false]) h4.swap (by kernel_rfl) (by kernel_rfl) (by rw [z64]; omega)
    rw [hlay] at h5
    refine mop_run hr5 ?_
    (repeat (first | (refine mop_c ?_ ?_; first | exact trivial | omega) | (refine dp_c ?_ ?_; first | exact trivial | omega)))
    obtain ⟨w6, hr6, h6⟩ := run_copy_string (P := Tryz.prog) (o := 0) (m := 64) (c := 64) (s := k) (dT := 135) (sT := 9) (ty := 3) (e := 5) (ks := [false, false]) h5.swap (by kernel_rfl) (by kernel_rfl) (by rw [z64]; omega)
    rw [hlay] at h6
    refine mop_run hr6 ?_
    clear h4 h5 hr5 hr6
    refine ⟨fun v w7 => ∃ i : Nat, i ≤ 64 ∧ v = .int .i64 i ∧ St w [⟨q, 129, u8s (xk 92 P i), true⟩, ⟨p, 129, u8s (xk 54 P i), true⟩, ⟨r, 33, u8s (List.replicate 32 0), true⟩] w7, fun v _ => 64 - (intOf v).toNat, ⟨0, by omega, rfl, by simpa [xk] using h6⟩, ?_⟩
    clear h6
    rintro v u w7 ⟨i, hi, rfl, h7⟩
    (repeat (first | (refine mop_c ?_ ?_; first | exact trivial | omega) | (refine dp_c ?_ ?_; first | exact trivial | omega)))
    refine mif_dec (fun hlt => ?_) (fun hge => ?_)
    · have hi' : i < 64 := by omega
      have c1 : ∀ w8 B C, St w (⟨q, 129, B, true⟩ :: ⟨p, 129, u8s (xk 54 P i), true⟩ :: C) w8 → w8.cell? ⟨p, i, none⟩ = some (.int .u8 (P.getD i 0)) := fun w8 B C h => by
        rw [h.cell 1 rfl i, ← xk_at 54 P i (by omega)]; exact u8s_at _ i (by rw [xk_length]; omega)
      have c2 : ∀ w8 B C, St w (B :: ⟨q, 129, u8s (xk 92 P i), true⟩ :: C) w8 → w8.cell? ⟨q, i, none⟩ = some (.int .u8 (P.getD i 0)) := fun w8 B C h => by
        rw [h.cell 1 rfl i, ← xk_at 92 P i (by omega)]; exact u8s_at _ i (by rw [xk_length]; omega)
      (repeat (first | (refine mop_c ?_ ?_; first | exact trivial | omega) | (refine dp_c ?_ ?_; first | exact trivial | omega)))
      refine mop_ld (c1 _ _ _ h7) (by omega) ?_
      (repeat (first | (refine mop_c ?_ ?_; first | exact trivial | omega) | (refine dp_c ?_ ?_; first | exact trivial | omega)))
      refine mop_st (j := i) h7.swap (by omega) (by rw [u8s_length, xk_length]; omega) rfl (fun w8 h8 => ?_)
      rw [set_u8s] at h8
      have h8 : St w (⟨p, 129, u8s (xk 54 P (i + 1)), true⟩ :: ⟨q, 129, u8s (xk 92 P i), true⟩ :: ⟨r, 33, u8s (List.replicate 32 0), true⟩ :: []) w8 := by
        rw [← xk_set 54 P i (by omega)]; exact h8
      (repeat (first | (refine mop_c ?_ ?_; first | exact trivial | omega) | (refine dp_c ?_ ?_; first | exact trivial | omega)))
      refine mop_ld (c2 _ _ _ h8) (by omega) ?_
      (repeat (first | (refine mop_c ?_ ?_; first | exact trivial | omega) | (refine dp_c ?_ ?_; first | exact trivial | omega)))
      refine mop_st (j := i) h8.swap (by omega) (by rw [u8s_length, xk_length]; omega) rfl (fun w9 h9 => ?_)
      rw [set_u8s] at h9
      have h9 : St w (⟨q, 129, u8s (xk 92 P (i + 1)), true⟩ :: ⟨p, 129, u8s (xk 54 P (i + 1)), true⟩ :: ⟨r, 33, u8s (List.replicate 32 0), true⟩ :: []) w9 := by
        rw [← xk_set 92 P i (by omega)]; exact h9
      (repeat (first | (refine mop_c ?_ ?_; first | exact trivial | omega) | (refine dp_c ?_ ?_; first | exact trivial | omega)))
      exact ⟨⟨i + 1, by omega, rfl, h9⟩, by simp [intOf]; omega⟩
    · obtain rfl : i = 64 := by omega
      have a1 : xk 54 P 64 = P.map (xorB 54) := by rw [← hPl]; exact xk_all 54 P
      have a2 : xk 92 P 64 = P.map (xorB 92) := by rw [← hPl]; exact xk_all 92 P
      rw [a1, a2] at h7
      have r1 := map_xor_range 54 P
      have r2 := map_xor_range 92 P
      have l1 : (P.map (xorB 54)).length = 64 := by rw [List.length_map, hPl]
      have l2 : (P.map (xorB 92)).length = 64 := by rw [List.length_map, hPl]
      generalize P.map (xorB 54) = X at h7 r1 l1 ⊢
      generalize P.map (xorB 92) = Y at h7 r2 l2 ⊢
      (repeat (first | (refine mop_c ?_ ?_; first | exact trivial | omega) | (refine dp_c ?_ ?_; first | exact trivial | omega)))
      refine mop_purW (pw_conv_bytes 135 9 5 p 0 64 _ X (by kernel_rfl) (by kernel_rfl) (by kernel_rfl) l1 (fun i hi => by rw [Nat.zero_add, h7.cell 1 rfl i]; exact u8s_at X i (by omega))) ?_
      refine mop_run (buildstr _ _) ?_
      have h8 := h7.alloc 9 [Value.string (strOfNums X)]
      have hrow : RowSt w 9 1 [⟨q, 129, u8s Y, true⟩, ⟨p, 129, u8s X, true⟩, ⟨r, 33, u8s (List.replicate 32 0), true⟩] (some ⟨w7.heap.size, 0, none⟩) 1 1 [Value.string (strOfNums X)] (w7.alloc (.cells [Value.string (strOfNums X)].toArray 9)) :=
        ⟨rfl, .inr ⟨w7.heap.size, [], rfl, h8, rfl, by omega, by unfold maxLen; omega⟩⟩
      have hsrc := src_of_rd (P := Tryz.prog) (size := 1) (tx := 123) (e' := 9) _ (by kernel_rfl) (A := A) (m := ss.length) (c := c) (news := ss.map .string) (by simp) ((h8.only.rd hr (fun b off _ h => by obtain ⟨b', hb, h2, _⟩ := h; simp at hb; rcases hb with rfl | rfl | rfl | rfl <;> cases h2))) (by intro u hu; obtain ⟨x, _, rfl⟩ := List.mem_map.1 hu; rfl)
      refine mop_append hrow hsrc (by unfold maxLen; omega) (by omega) (fun A' cap' w8 h9 => ?_)
      have hrd9 : Rd w8 A' ((strOfNums X :: ss).map .string) := h9.rd
      have hcat : cat (strOfNums X :: ss) = X ++ cat ss := by
        unfold cat
        rw [List.map_cons, List.flatten_cons, ints_str X r1]
      have hsum := sum_ok A' (strOfNums X :: ss) cap' w8 hrd9 (by simp; omega) (by rw [hcat, List.length_append]; omega)
      rw [hcat, List.length_cons, Nat.add_comm ss.length 1] at hsum
      refine mop_to hsum ?_
      rintro e w9 ⟨rfl, h10⟩
      have h10 := h9.base.call0 h10
      clear h7 h8 h9 hrow hsrc hsum hrd9
      obtain ⟨D, hD⟩ : ∃ D, D = shaSum (X ++ cat ss) := ⟨_, rfl⟩
      have rD := shaSum_range (X ++ cat ss)
      have lD := shaSum_length (X ++ cat ss)
      rw [← hD] at rD lD ⊢
      have hDl : (u8s D).length = 32 := by rw [u8s_length, lD]
      refine mop_new h10 (fun d w10 h11 => ?_)
      refine mop_storeN (q := true) (k := 32) (by kernel_rfl) h11 (by simpa [hv, Value.cells] using hDl) (by intro u hu; exact u8s_one _ u hu) (by simp) (fun w11 h12 => ?_)
      have e : lay (List.replicate 32 (Value.int .u8 0)) (hv D).cells.toList 0 = u8s D := lay_all _ _ (by show (u8s D).length = _; rw [hDl]; simp)
      rw [e] at h12
      (repeat (first | (refine mop_c ?_ ?_; first | exact trivial | omega) | (refine dp_c ?_ ?_; first | exact trivial | omega)))
      refine dq_pur (fun w3 hw => pw_conv_bytes 135 9 5 q 0 64 _ Y (by kernel_rfl) (by kernel_rfl) (by kernel_rfl) l2 (fun i hi => hw.cell (by rw [Nat.zero_add, h12.cell 1 rfl i]; exact u8s_at Y i (by omega)))) ?_
      (repeat (first | (refine mop_c ?_ ?_; first | exact trivial | omega) | (refine dp_c ?_ ?_; first | exact trivial | omega)))
      refine dq_pur (fun w3 hw => pw_conv_bytes 135 9 5 d 0 32 _ D (by kernel_rfl) (by kernel_rfl) (by kernel_rfl) lD (fun i hi => hw.cell (by rw [Nat.zero_add, h12.cell 0 rfl i]; exact u8s_at D i (by omega)))) ?_
      refine df_mop fun w12 hd12 => mop_run (build2s _ _ _) ⟨(fun e => by cases e), ?_⟩
      have h13 := (h12.drawn hd12)
      refine df_mop fun w13 hd13 => ?_
      have h14 := (h13.alloc 9 [Value.string (strOfNums Y), .string (strOfNums D)]).drawn hd13
      have hcat2 : cat [strOfNums Y, strOfNums D] = Y ++ D := by
        simp [cat, ints_str Y r2, ints_str D rD]
      have hsum := sum_ok (some ⟨w12.heap.size, 0, none⟩) [strOfNums Y, strOfNums D] 2 w13 (.inr ⟨w12.heap.size, 0, rfl, h14.head.lt, fun j u hu => by rw [Nat.zero_add, h14.cell 0 rfl j]; exact hu⟩) (by simp) (by rw [hcat2, List.length_append]; omega)
      rw [hcat2] at hsum
      refine mop_to hsum ?_
      rintro e w14 ⟨rfl, h15⟩
      have h15 := h14.drop.call0 h15
      refine ⟨(fun e => by cases e), ?_⟩
      refine df_mop fun w15 hd15 => ?_
      have h16 := (h15.drawn hd15).drop.drop.drop
      have hEl : (u8s (shaSum (Y ++ D))).length = 32 := by rw [u8s_length, shaSum_length]
      refine mop_storeN (q := true) (k := 32) (by kernel_rfl) h16 (by simpa [hv, Value.cells] using hEl) (by intro u hu; exact u8s_one _ u hu) (by rw [z32]; omega) (fun w17 h17 => ⟨(fun e => by cases e), ?_⟩)
      have e : lay (u8s (List.replicate 32 0)) (hv (shaSum (Y ++ D))).cells.toList 0 = u8s (shaSum (Y ++ D)) := lay_all _ _ (by show (u8s (shaSum (Y ++ D))).length = _; rw [hEl, z32])
      rw [e] at h17
      refine dend_intro fun w18 hd18 => ?_
      have h18 := h17.drawn hd18
      refine rcell_ldN (cells_of_row h18.head) hEl ?_
      exact ⟨rfl, h18.drop⟩
end Go.Proofs.YtopcnkejobomaaaGreat
namespace Go.Proofs.YtopcnkejobomaaaGreat
open Go.RowKit
theorem pad_at (l : List Int) (i : Nat) : (pad l).getD i 0 = if i < l.length then l.getD i 0 else 0 := by
  unfold pad List.getD
  by_cases h : i < l.length
  · rw [if_pos h, List.getElem?_append_left h]
  · rw [if_neg h, List.getElem?_append_right (by omega)]
    by_cases h2 : i - l.length < 64 - l.length
    · simp [h2]
    · simp [h2]
theorem take_map_succ (c : Int) (l : List Int) (i : Nat) (h : i < l.length) : (l.take (i + 1)).map (xorB c) = (l.take i).map (xorB c) ++ [xorB c (l.getD i 0)] := by
  rw [List.take_succ_eq_append_getElem h, List.map_append]
  simp [List.getD, h]
set_option maxRecDepth 100000 in
set_option maxHeartbeats 1000000 in
theorem refcode_ok (key t : ByteArray) (w : World) (hk : key.size < 1000000000000) (ht : t.size < 1000000000000) :
    Calls Tryz.prog 163 #[.string key, .string t] w fun e w' => e = .returned (hv (hmac (ints key) (ints t))) ∧ St w [] w' := by
  refine C_bevyref03_Code ?_
  unfold F_bevyref03_Code
  have z32 : (u8s (List.replicate 32 0)).length = 32 := by simp [u8s]
  refine mop_new (St.nil w) (fun r w1 h1 => ?_)
  have h1 : St w [⟨r, 32, u8s (List.replicate 32 0), true⟩] w1 := by simpa [u8s] using h1
  have hold : ∀ (D : List Int) (w2 : World) (L : List Bk) (K : Value → World → Prop) (X : List PanicEntry → World → Prop), D.length = 32 → (∀ x ∈ D, 0 ≤ x ∧ x < 256) → St w L w2 → (∀ w3, St w L w3 → K (.string (strOfNums D)) w3) →
      mop Tryz.prog (o_alloc 32) w2 (fun x10 w27 => mop Tryz.prog (o_store 32 x10 (hv D)) w27 (fun _ w28 => mop Tryz.prog (o_slice 32 x10 none none none) w28 (fun x46 w29 => mop Tryz.prog (o_conv 135 9 x46) w29 K X) X) X) X := by
    intro D w2 L K X lD rD h2 hK
    have hDl : (u8s D).length = 32 := by rw [u8s_length, lD]
    refine mop_new h2 (fun d w10 h11 => ?_)
    refine mop_storeN (q := true) (k := 32) (by kernel_rfl) h11 (by simpa [hv, Value.cells] using hDl) (by intro u hu; exact u8s_one _ u hu) (by simp) (fun w11 h12 => ?_)
    have e : lay (List.replicate 32 (Value.int .u8 0)) (hv D).cells.toList 0 = u8s D := lay_all _ _ (by show (u8s D).length = _; rw [hDl]; simp)
    rw [e] at h12
    (repeat (first | (refine mop_c ?_ ?_; first | exact trivial | omega) | (refine dp_c ?_ ?_; first | exact trivial | omega)))
    refine mop_purW (pw_conv_bytes 135 9 5 d 0 32 _ D (by kernel_rfl) (by kernel_rfl) (by kernel_rfl) lD (fun i hi => by rw [Nat.zero_add, h12.cell 0 rfl i]; exact u8s_at D i (by omega))) ?_
    exact hK _ h12.drop
  refine ⟨fun v w2 => ∃ k : ByteArray, v = .string k ∧ ints k = kk (ints key) ∧ St w [⟨r, 32, u8s (List.replicate 32 0), true⟩] w2, ?_, ?_⟩
  · (repeat (first | (refine mop_c ?_ ?_; first | exact trivial | omega) | (refine dp_c ?_ ?_; first | exact trivial | omega)))
    refine mif_dec (fun hlt => ?_) (fun hge => ?_)
    · refine mop_to (refsum_ok key w1 (by omega)) ?_
      rintro e w2 ⟨rfl, h2⟩
      have h2 := h1.call0 h2
      refine hold _ _ _ _ _ (shaSum_length _) (shaSum_range _) h2 (fun w3 h3 => ?_)
      refine ⟨_, rfl, ?_, h3⟩
      rw [ints_str _ (shaSum_range _), kk, if_pos (by rw [ints_length]; omega)]
    · exact ⟨key, rfl, by rw [kk, if_neg (by rw [ints_length]; omega)], h1⟩
  · rintro v u w2 ⟨k, rfl, hk1, h2⟩
    clear h1
    have hkl : (ints k).length ≤ 64 := by rw [hk1]; exact kk_length _
    have hks : k.size ≤ 64 := by rwa [ints_length] at hkl
    obtain ⟨P, hP⟩ : ∃ P, P = pad (kk (ints key)) := ⟨_, rfl⟩
    have hPl : P.length = 64 := by rw [hP]; exact pad_length _ (kk_length _)
    have hPat : ∀ i, P.getD i 0 = if i < k.size then (ints k).getD i 0 else 0 := fun i => by rw [hP, pad_at, ← hk1, ints_length]
    have hm : hmac (ints key) (ints t) = shaSum (P.map (xorB 92) ++ shaSum (P.map (xorB 54) ++ ints t)) := by rw [hP]; rfl
    rw [hm]
    refine ⟨fun x y z w3 => ∃ i : Nat, i ≤ 64 ∧ z = .int .i64 i ∧ x = .string (strOfNums ((P.take i).map (xorB 54))) ∧ y = .string (strOfNums ((P.take i).map (xorB 92))) ∧ St w [⟨r, 32, u8s (List.replicate 32 0), true⟩] w3,
      fun _ _ z _ => 64 - (intOf z).toNat, ⟨0, by omega, rfl, rfl, rfl, h2⟩, ?_⟩
    clear h2
    rintro x y z u w3 ⟨i, hi, rfl, rfl, rfl, h3⟩
    (repeat (first | (refine mop_c ?_ ?_; first | exact trivial | omega) | (refine dp_c ?_ ?_; first | exact trivial | omega)))
    refine mif_dec (fun hlt => ?_) (fun hge => ?_)
    · have hi' : i < 64 := by omega
      refine ⟨fun v w4 => v = .int .u8 (P.getD i 0) ∧ St w [⟨r, 32, u8s (List.replicate 32 0), true⟩] w4, ?_, ?_⟩
      · (repeat (first | (refine mop_c ?_ ?_; first | exact trivial | omega) | (refine dp_c ?_ ?_; first | exact trivial | omega)))
        refine mif_dec (fun hin => ?_) (fun hout => ?_)
        · refine mop_pur (p_index_str k i (by omega) (by omega)) ?_
          rw [hPat, if_pos (by omega)]
          exact ⟨rfl, h3⟩
        · rw [hPat, if_neg (by omega)]
          exact ⟨rfl, h3⟩
      · rintro v u w4 ⟨rfl, h4⟩
        have sz : ∀ c, (strOfNums ((P.take i).map (xorB c))).size ≤ 64 := fun c => by rw [strOfNums_size]; simp; omega
        (repeat (first | (refine mop_c ?_ ?_; first | exact trivial | omega) | (refine dp_c ?_ ?_; first | exact trivial | omega)))
        refine mop_run (build1b _ _) ?_
        refine mop_purW (conv1 _ _ h4) ?_
        have s1 := sz 54
        have s2 := sz 92
        refine mop_c (by rw [strOfNums_size [_], List.length_singleton]; omega) ?_
        (repeat (first | (refine mop_c ?_ ?_; first | exact trivial | omega) | (refine dp_c ?_ ?_; first | exact trivial | omega)))
        have h5 := (h4.alloc 5 (u8s [bits .xor .u8 (P.getD i 0) 54])).drop
        refine mop_run (build1b _ _) ?_
        refine mop_purW (conv1 _ _ h5) ?_
        refine mop_c (by rw [strOfNums_size [_], List.length_singleton]; omega) ?_
        (repeat (first | (refine mop_c ?_ ?_; first | exact trivial | omega) | (refine dp_c ?_ ?_; first | exact trivial | omega)))
        refine ⟨⟨i + 1, by omega, rfl, ?_, ?_, (h5.alloc _ _).drop⟩, by simp [intOf]; omega⟩
        · rw [strOfNums_append, take_map_succ _ _ _ (by omega)]; rfl
        · rw [strOfNums_append, take_map_succ _ _ _ (by omega)]; rfl
    · obtain rfl : i = 64 := by omega
      rw [List.take_of_length_le (by omega)]
      have r1 := map_xor_range 54 P
      have r2 := map_xor_range 92 P
      have l1 : (P.map (xorB 54)).length = 64 := by rw [List.length_map, hPl]
      have l2 : (P.map (xorB 92)).length = 64 := by rw [List.length_map, hPl]
      generalize P.map (xorB 54) = X at r1 l1 ⊢
      generalize P.map (xorB 92) = Y at r2 l2 ⊢
      have sX : (strOfNums X).size = 64 := by rw [strOfNums_size, l1]
      have sY : (strOfNums Y).size = 64 := by rw [strOfNums_size, l2]
      (repeat (first | (refine mop_c ?_ ?_; first | exact trivial | omega) | (refine dp_c ?_ ?_; first | exact trivial | omega)))
      have e1 : ints (strOfNums X ++ t) = X ++ ints t := by
        rw [← str_ints t, strOfNums_append, ints_str, str_ints]
        intro x hx
        rcases List.mem_append.1 hx with hx | hx
        · exact r1 x hx
        · exact ints_range t x hx
      have s3 : (strOfNums X ++ t).size = 64 + t.size := by simp [sX]
      have hsum := refsum_ok (strOfNums X ++ t) w3 (by omega)
      rw [e1] at hsum
      refine mop_to hsum ?_
      rintro e w4 ⟨rfl, h4⟩
      have h4 := h3.call0 h4
      have rD := shaSum_range (X ++ ints t)
      have lD := shaSum_length (X ++ ints t)
      generalize shaSum (X ++ ints t) = D at rD lD ⊢
      refine hold _ _ _ _ _ lD rD h4 (fun w5 h5 => ?_)
      have sD : (strOfNums D).size = 32 := by rw [strOfNums_size, lD]
      (repeat (first | (refine mop_c ?_ ?_; first | exact trivial | omega) | (refine dp_c ?_ ?_; first | exact trivial | omega)))
      have e2 : ints (strOfNums Y ++ strOfNums D) = Y ++ D := by
        rw [strOfNums_append, ints_str]
        intro x hx
        rcases List.mem_append.1 hx with hx | hx
        · exact r2 x hx
        · exact rD x hx
      have s4 : (strOfNums Y ++ strOfNums D).size = 96 := by simp [sY, sD]
      have hsum := refsum_ok (strOfNums Y ++ strOfNums D) w5 (by omega)
      rw [e2] at hsum
      refine mop_to hsum ?_
      rintro e w6 ⟨rfl, h6⟩
      have h6 := h5.call0 h6
      have hEl : (u8s (shaSum (Y ++ D))).length = 32 := by rw [u8s_length, shaSum_length]
      refine mop_storeN (q := true) (k := 32) (by kernel_rfl) h6 (by simpa [hv, Value.cells] using hEl) (by intro u hu; exact u8s_one _ u hu) (by rw [z32]; omega) (fun w17 h17 => ?_)
      have e : lay (u8s (List.replicate 32 0)) (hv (shaSum (Y ++ D))).cells.toList 0 = u8s (shaSum (Y ++ D)) := lay_all _ _ (by show (u8s (shaSum (Y ++ D))).length = _; rw [hEl, z32])
      rw [e] at h17
      refine rcell_ldN (cells_of_row h17.head) hEl ?_
      exact ⟨rfl, h17.drop⟩
end Go.Proofs.YtopcnkejobomaaaGreat
namespace Go.Proofs.YtopcnkejobomaaaGreat
open Go.RowKit
def numB (n : Int) : List Int :=
  if n < 64 then [n]
  else if n < 16384 then [64 + n / 256, n % 256]
  else if n < 1073741824 then [128 + n / 16777216, n / 65536 % 256, n / 256 % 256, n % 256]
  else [192 + n / 72057594037927936, n / 281474976710656 % 256, n / 1099511627776 % 256, n / 4294967296 % 256, n / 16777216 % 256, n / 65536 % 256, n / 256 % 256, n % 256]
theorem numB_length (n : Int) : (numB n).length ≤ 8 ∧ 1 ≤ (numB n).length := by
  unfold numB
  repeat' split
  all_goals simp
def wrR (g : Nat) (out : List Int) (bad : Bool) : Res := exR (fun (p : Option Addr × Nat) => [fb g 140 [.one (.slice p.1 out.length p.2), .one (.bool bad)], rowR 5 1 p.1 out.length p.2 (byts out)])
section
variable {H : Hp} {w0 w : World} {L R : List Res} {g : Nat} {out : List Int} {bad : Bool}
theorem Mem.wr (h : Mem H w0 (wrR g out bad :: L) w) : ∃ A c, Mem H w0 (fb g 140 [.one (.slice A out.length c), .one (.bool bad)] :: rowR 5 1 A out.length c (byts out) :: L) w := by
  obtain ⟨p, h⟩ := h.unex
  exact ⟨p.1, p.2, h⟩
theorem Mem.unwr {A : Option Addr} {n c : Nat} (h : Mem H w0 (fb g 140 [.one (.slice A n c), .one (.bool bad)] :: rowR 5 1 A n c (byts out) :: L) w) (hn : n = out.length) : Mem H w0 (wrR g out bad :: L) w := by
  subst hn
  exact Mem.toex (R := fun (p : Option Addr × Nat) => [fb g 140 [.one (.slice p.1 out.length p.2), .one (.bool bad)], rowR 5 1 p.1 out.length p.2 (byts out)]) (A, c) h
theorem wnew_ok (hM : Mem H w0 L w) : Calls Tryz.prog 45 #[] w fun en w' => ∃ v, en = .returned v ∧ ∃ g, v = .pointer (some ⟨g, 0, none⟩) ∧ Mem H w0 (wrR g [] false :: L) w' := by
  refine C_wire_New ?_
  unfold F_wire_New
  ((with_reducible (refine mop_c trivial ?_; refine mm_box hM ?_; clear hM; intro _ _ hM)))
  rename_i g _
  have hM : Mem H w0 (fb g 140 [.one (.slice none 0 0), .one (.bool false)] :: rowR 5 1 none 0 0 (byts []) :: L) _ := (hM.row0 5 1).perm (.swap ..)
  exact ⟨_, rfl, g, rfl, Mem.unwr hM rfl⟩
theorem whash_ok (h : H32) (hb : out.length < 1000000000) (hM : Mem H w0 (wrR g out bad :: L) w) : Calls Tryz.prog 87 #[.pointer (some ⟨g, 0, none⟩), ha h] w fun en w' => ∃ v, en = .returned v ∧ v = .tuple #[] ∧ Mem H w0 (wrR g (out ++ h.1) bad :: L) w' := by
  refine C_wire_Writer_Hash ?_
  unfold F_wire_Writer_Hash
  obtain ⟨A, c, hM⟩ := hM.wr
  ((with_reducible (refine mm_box hM ?_; clear hM; intro _ _ hM; refine mop_c trivial ?_; refine mif_true ?_; refine dp_c trivial ?_; refine dp_c trivial ?_; refine dm_ld hM ?_; refine dp_c trivial ?_; refine df_no hM ?_; clear hM; intro _ hM)))
  refine mm_appb hM (by omega) (fun A' c' w4 hM => ?_)
  ((with_reducible (refine dp_c trivial ?_; refine dp_c trivial ?_; refine dS_st hM ?_; clear hM; intro _ hM; refine mm_end hM ?_; clear hM; intro _ hM)))
  exact ⟨_, rfl, rfl, Mem.unwr ((hM.upB g).sub : Mem H w0 (fb g 140 [.one (.slice A' (out.length + 32) c'), .one (.bool bad)] :: rowR 5 1 A' (out.length + 32) c' (byts (out ++ h.1)) :: L) _) (by simp [h.2.1])⟩
theorem bounds_ok (w : World) : Calls Tryz.prog 92 #[] w fun en w' => en = .returned (.agg #[.int .i64 64, .int .i64 16384, .int .i64 1073741824, .int .i64 4611686018427387903]) ∧ St w [] w' := by
  have hM := Mem.start (Fz.of w)
  refine C_wire_bounds ?_
  unfold F_wire_bounds
  ((with_reducible (refine mm_new hM ?_; clear hM; intro _ _ hM; refine mop_c trivial ?_; refine mm_st hM ?_; clear hM; intro _ hM; refine rm_ld hM ?_)))
  exact ⟨rfl, hM.st⟩
instance : PurC Tryz.prog 92 [] True (.agg #[.int .i64 64, .int .i64 16384, .int .i64 1073741824, .int .i64 4611686018427387903]) := ⟨fun _ w => bounds_ok w⟩
def kindN (n : Int) : Int := if n < 64 then 0 else if n < 16384 then 1 else if n < 1073741824 then 2 else 3
theorem numB_cases (n : Int) : (n < 64 ∧ kindN n = 0 ∧ numB n = [n]) ∨ (64 ≤ n ∧ n < 16384 ∧ kindN n = 1 ∧ numB n = [64 + n / 256, n % 256]) ∨
    (16384 ≤ n ∧ n < 1073741824 ∧ kindN n = 2 ∧ numB n = [128 + n / 16777216, n / 65536 % 256, n / 256 % 256, n % 256]) ∨
    (1073741824 ≤ n ∧ kindN n = 3 ∧ numB n = [192 + n / 72057594037927936, n / 281474976710656 % 256, n / 1099511627776 % 256, n / 4294967296 % 256, n / 16777216 % 256, n / 65536 % 256, n / 256 % 256, n % 256]) := by
  unfold kindN numB
  by_cases h1 : n < 64
  · exact .inl ⟨h1, if_pos h1, if_pos h1⟩
  · by_cases h2 : n < 16384
    · exact .inr (.inl ⟨by omega, h2, by rw [if_neg h1, if_pos h2], by rw [if_neg h1, if_pos h2]⟩)
    · by_cases h3 : n < 1073741824
      · exact .inr (.inr (.inl ⟨by omega, h3, by rw [if_neg h1, if_neg h2, if_pos h3], by rw [if_neg h1, if_neg h2, if_pos h3]⟩))
      · exact .inr (.inr (.inr ⟨by omega, by rw [if_neg h1, if_neg h2, if_neg h3], by rw [if_neg h1, if_neg h2, if_neg h3]⟩))
theorem numB_len (n : Int) : ((numB n).length : Int) = 1 * 2 ^ (kindN n).toNat := by
  rcases numB_cases n with ⟨_, h2, h3⟩ | ⟨_, _, h2, h3⟩ | ⟨_, _, h2, h3⟩ | ⟨_, h2, h3⟩ <;> (rw [h2, h3]; rfl)
theorem or64 (a k : Int) (ha : 0 ≤ a ∧ a < 64) (hk : 0 ≤ k ∧ k ≤ 3) : bits .or .u8 a (k * 64) = a + k * 64 := by
  have key : ∀ x : Fin 64, ∀ y : Fin 4, bits .or .u8 (x.val : Int) ((y.val : Int) * 64) = (x.val : Int) + (y.val : Int) * 64 := by decide +kernel
  have := key ⟨a.toNat, by omega⟩ ⟨k.toNat, by omega⟩
  simp only [Int.toNat_of_nonneg ha.1, Int.toNat_of_nonneg hk.1] at this
  exact this
theorem numB_head (n : Int) (h : 0 ≤ n ∧ n ≤ 4611686018427387903) : 0 ≤ (numB n).getD 0 0 - kindN n * 64 ∧ (numB n).getD 0 0 - kindN n * 64 < 64 ∧ 0 ≤ kindN n ∧ kindN n ≤ 3 := by
  rcases numB_cases n with ⟨_, h2, h3⟩ | ⟨_, _, h2, h3⟩ | ⟨_, _, h2, h3⟩ | ⟨_, h2, h3⟩ <;> (rw [h2, h3]; simp; omega)
theorem byteAt (n : Int) (h : 0 ≤ n ∧ n ≤ 4611686018427387903) (i : Nat) (hi : i < (numB n).length) :
    n / 2 ^ (8 * (((numB n).length : Int) - 1 - i)).toNat % 256 = if i = 0 then (numB n).getD 0 0 - kindN n * 64 else (numB n).getD i 0 := by
  rcases numB_cases n with ⟨h1, h2, h3⟩ | ⟨h1, h0, h2, h3⟩ | ⟨h1, h0, h2, h3⟩ | ⟨h1, h2, h3⟩ <;> rw [h3] at hi ⊢ <;> rw [h2]
  · obtain rfl : i = 0 := by simp at hi; omega
    simp
    omega
  · obtain rfl | rfl : i = 0 ∨ i = 1 := by simp at hi; omega
    all_goals simp
    all_goals omega
  · obtain rfl | rfl | rfl | rfl : i = 0 ∨ i = 1 ∨ i = 2 ∨ i = 3 := by simp at hi; omega
    all_goals simp
    all_goals omega
  · obtain rfl | rfl | rfl | rfl | rfl | rfl | rfl | rfl : i = 0 ∨ i = 1 ∨ i = 2 ∨ i = 3 ∨ i = 4 ∨ i = 5 ∨ i = 6 ∨ i = 7 := by simp at hi; omega
    all_goals simp
    all_goals omega
theorem byts_snoc {out : List Int} (l : List Int) (i : Nat) (h : i < l.length) : byts (out ++ l.take i) ++ [[.one (.int .u8 (l.getD i 0))]] = byts (out ++ l.take (i + 1)) := by
  have e : out ++ l.take (i + 1) = (out ++ l.take i) ++ [l.getD i 0] := by
    rw [List.take_succ_eq_append_getElem h, ← List.append_assoc, List.getD_eq_getElem?_getD, List.getElem?_eq_getElem h]
    rfl
  rw [e, byts_app (out ++ l.take i)]
  rfl
theorem wnum_ok (n : Int) (h : 0 ≤ n ∧ n ≤ 4611686018427387903) (hb : out.length < 1000000000) (hM : Mem H w0 (wrR g out bad :: L) w) : Calls Tryz.prog 46 #[.pointer (some ⟨g, 0, none⟩), .int .i64 n] w fun en w' => ∃ v, en = .returned v ∧ v = .tuple #[] ∧ Mem H w0 (wrR g (out ++ numB n) bad :: L) w' := by
  refine C_wire_Writer_Num ?_
  unfold F_wire_Writer_Num
  ((with_reducible (refine mop_c trivial ?_; refine mif_false ?_)))
  refine ⟨fun x w' => x = .bool false ∧ hM.now w', ?_, ?_⟩
  · ((with_reducible (refine mop_cF trivial ?_ ?_)); (focus (first | assumption | omega | with_reducible rfl | exact fun h => Bool.noConfusion h)); (with_reducible (refine mguard_yes ?_; refine mop_c trivial ?_; refine mguard_yes ?_; refine mop_cF trivial ?_ ?_)); (focus (first | assumption | omega | with_reducible rfl | exact fun h => Bool.noConfusion h)); (with_reducible (refine mop_c trivial ?_)))
    exact ⟨rfl, hM⟩
  rintro x u w1 ⟨rfl, hM⟩
  ((with_reducible (refine mif_false ?_)))
  refine ⟨fun x w' => ∃ k : Nat, x = .int .i64 k ∧ k ≤ 3 ∧ (1 ≤ k → 64 ≤ n) ∧ (2 ≤ k → 16384 ≤ n) ∧ (3 ≤ k → 1073741824 ≤ n) ∧ hM.now w', fun x _ => match x with | .int _ i => 3 - i.toNat | _ => 0, ⟨0, rfl, by omega, by omega, by omega, by omega, hM⟩, ?_⟩
  rintro x u w2 ⟨k, rfl, hk, h1, h2, h3, hM⟩
  have hlen := numB_length n
  refine ⟨fun w' => k < 3 ∧ (k = 0 → 64 ≤ n) ∧ (k = 1 → 16384 ≤ n) ∧ (k = 2 → 1073741824 ≤ n) ∧ hM.now w', ?_, ?_⟩
  · obtain rfl | rfl | rfl | rfl : k = 0 ∨ k = 1 ∨ k = 2 ∨ k = 3 := by omega
    · have e0 : (((0 : Nat) : Int)) = 0 := rfl
      simp only [e0]
      ((with_reducible (refine mop_cT trivial ?_ ?_)); (focus (first | assumption | omega | with_reducible rfl | exact fun h => Bool.noConfusion h)); (with_reducible (refine mguard_yes ?_; refine mop_c trivial ?_; refine mguard_yes ?_; refine mm_purC hM ?_ (fun _ hM2 => ?_))); (focus (first | exact trivial | assumption | omega)); (with_reducible (replace hM := hM2; clear hM2; refine mguard_yes ?_; refine mop_c trivial ?_; refine mguard_yes ?_)))
      refine mop_pur (v := .int .i64 64) (fun w => by kernel_rfl) ?_
      ((with_reducible (refine mguard_yes ?_)))
      ((with_reducible (refine mop_cS trivial ?_ ?_)))
      · intro hn
        ((with_reducible (refine mop_c trivial ?_; refine mif_true ?_)))
        exact ⟨by omega, by omega, by omega, by omega, hM⟩
      · intro hn
        ((with_reducible (refine mop_c trivial ?_; refine mif_false ?_)))
        have hkn : (0 : Int) = kindN n := by
          unfold kindN
          simp at h1 h2 h3
          repeat' split
          all_goals omega
        refine mop_pur (p_shl _ _ _ _ _ _ (by omega) (by simp [IntKind.bits])) ?_
        have hL : IntKind.i64.wrap (1 * 2 ^ (0 : Int).toNat) = ((numB n).length : Int) := by
          rw [numB_len, ← hkn]
          rfl
        rw [hL]
        refine ⟨fun x w' => ∃ i : Nat, x = .int .i64 i ∧ i ≤ (numB n).length ∧ Mem H w0 (wrR g (out ++ (numB n).take i) bad :: L) w', fun x _ => match x with | .int _ i => (numB n).length - i.toNat | _ => 0, ⟨0, rfl, by omega, by simpa using hM⟩, ?_⟩
        clear hM
        rintro x u w4 ⟨i, rfl, hi, hM⟩
        skip
        ((with_reducible (refine mop_cS trivial ?_ ?_)))
        · intro hlt
          have hlt' : i < (numB n).length := by omega
          have hby := byteAt n h i hlt'
          have hhd := numB_head n h
          ((with_reducible (refine mif_true ?_; refine mop_c ?_ ?_)); (focus omega); (with_reducible (refine mop_c ?_ ?_)); (focus omega); (with_reducible (refine mop_c ?_ ?_)); (focus omega); (with_reducible (refine mop_c ?_ ?_)); (focus omega); (with_reducible (refine mop_c trivial ?_)))
          rw [hby]
          refine ⟨fun x w' => x = .int .u8 ((numB n).getD i 0) ∧ hM.now w', ?_, ?_⟩
          · skip
            ((with_reducible (refine mop_cS trivial ?_ ?_)))
            · intro h0
              obtain rfl : i = 0 := by omega
              ((with_reducible (refine mif_true ?_)))
              refine mop_pur (p_shl _ _ _ _ _ _ (by omega) (by simp [IntKind.bits])) ?_
              have h6 : IntKind.i64.wrap ((0 : Int) * 2 ^ (6 : Int).toNat) = kindN n * 64 := by
                rw [← hkn]
                rfl
              rw [h6]
              ((with_reducible (refine mop_c trivial ?_; refine mop_c trivial ?_)))
              refine ⟨?_, hM⟩
              rw [if_pos rfl, Int.emod_eq_of_lt (by omega) (by omega), or64 _ _ (by omega) (by omega)]
              congr 1
              omega
            · intro h0
              ((with_reducible (refine mif_false ?_)))
              exact ⟨by rw [if_neg (by omega)], hM⟩
          · rintro x u w5 ⟨rfl, hM⟩
            obtain ⟨A, c, hM⟩ := hM.wr
            have hol : (out ++ (numB n).take i).length ≤ out.length + 8 := by rw [List.length_append, List.length_take]; omega
            ((with_reducible (refine mop_c trivial ?_; refine mop_c trivial ?_; refine mm_ld hM ?_; refine mm_bsl hM ?_ ?_ ?_)); (focus rfl); (focus (constructor <;> simp)); (with_reducible (clear hM; intro _ _ hM; refine mm_appo hM ?_ ?_)); (focus omega); (with_reducible (clear hM; intro _ _ _ hM; refine mop_c trivial ?_; refine mop_c trivial ?_; refine mm_st hM ?_; clear hM; intro _ hM; refine mop_c ?_ ?_)); (focus omega))
            rw [byts_snoc _ _ hlt'] at hM
            have hl2 : (out ++ (numB n).take i).length + 1 = (out ++ (numB n).take (i + 1)).length := by
              rw [List.length_append, List.length_append, List.length_take, List.length_take]; omega
            have hM2 := Mem.unwr (hM.upB g) hl2
            refine ⟨⟨i + 1, by rw [Int.natCast_add]; rfl, by omega, hM2⟩, ?_⟩
            show (numB n).length - ((i : Int) + 1).toNat < (numB n).length - (i : Int).toNat
            omega
        · intro hge
          ((with_reducible (refine mif_false ?_)))
          rw [List.take_of_length_le (by omega)] at hM
          exact ⟨_, rfl, rfl, hM⟩
    · have e0 : (((1 : Nat) : Int)) = 1 := rfl
      simp only [e0]
      ((with_reducible (refine mop_cT trivial ?_ ?_)); (focus (first | assumption | omega | with_reducible rfl | exact fun h => Bool.noConfusion h)); (with_reducible (refine mguard_yes ?_; refine mop_c trivial ?_; refine mguard_yes ?_; refine mm_purC hM ?_ (fun _ hM2 => ?_))); (focus (first | exact trivial | assumption | omega)); (with_reducible (replace hM := hM2; clear hM2; refine mguard_yes ?_; refine mop_c trivial ?_; refine mguard_yes ?_)))
      refine mop_pur (v := .int .i64 16384) (fun w => by kernel_rfl) ?_
      ((with_reducible (refine mguard_yes ?_)))
      ((with_reducible (refine mop_cS trivial ?_ ?_)))
      · intro hn
        ((with_reducible (refine mop_c trivial ?_; refine mif_true ?_)))
        exact ⟨by omega, by omega, by omega, by omega, hM⟩
      · intro hn
        ((with_reducible (refine mop_c trivial ?_; refine mif_false ?_)))
        have hkn : (1 : Int) = kindN n := by
          unfold kindN
          simp at h1 h2 h3
          repeat' split
          all_goals omega
        refine mop_pur (p_shl _ _ _ _ _ _ (by omega) (by simp [IntKind.bits])) ?_
        have hL : IntKind.i64.wrap (1 * 2 ^ (1 : Int).toNat) = ((numB n).length : Int) := by
          rw [numB_len, ← hkn]
          rfl
        rw [hL]
        refine ⟨fun x w' => ∃ i : Nat, x = .int .i64 i ∧ i ≤ (numB n).length ∧ Mem H w0 (wrR g (out ++ (numB n).take i) bad :: L) w', fun x _ => match x with | .int _ i => (numB n).length - i.toNat | _ => 0, ⟨0, rfl, by omega, by simpa using hM⟩, ?_⟩
        clear hM
        rintro x u w4 ⟨i, rfl, hi, hM⟩
        skip
        ((with_reducible (refine mop_cS trivial ?_ ?_)))
        · intro hlt
          have hlt' : i < (numB n).length := by omega
          have hby := byteAt n h i hlt'
          have hhd := numB_head n h
          ((with_reducible (refine mif_true ?_; refine mop_c ?_ ?_)); (focus omega); (with_reducible (refine mop_c ?_ ?_)); (focus omega); (with_reducible (refine mop_c ?_ ?_)); (focus omega); (with_reducible (refine mop_c ?_ ?_)); (focus omega); (with_reducible (refine mop_c trivial ?_)))
          rw [hby]
          refine ⟨fun x w' => x = .int .u8 ((numB n).getD i 0) ∧ hM.now w', ?_, ?_⟩
          · skip
            ((with_reducible (refine mop_cS trivial ?_ ?_)))
            · intro h0
              obtain rfl : i = 0 := by omega
              ((with_reducible (refine mif_true ?_)))
              refine mop_pur (p_shl _ _ _ _ _ _ (by omega) (by simp [IntKind.bits])) ?_
              have h6 : IntKind.i64.wrap ((1 : Int) * 2 ^ (6 : Int).toNat) = kindN n * 64 := by
                rw [← hkn]
                rfl
              rw [h6]
              ((with_reducible (refine mop_c trivial ?_; refine mop_c trivial ?_)))
              refine ⟨?_, hM⟩
              rw [if_pos rfl, Int.emod_eq_of_lt (by omega) (by omega), or64 _ _ (by omega) (by omega)]
              congr 1
              omega
            · intro h0
              ((with_reducible (refine mif_false ?_)))
              exact ⟨by rw [if_neg (by omega)], hM⟩
          · rintro x u w5 ⟨rfl, hM⟩
            obtain ⟨A, c, hM⟩ := hM.wr
            have hol : (out ++ (numB n).take i).length ≤ out.length + 8 := by rw [List.length_append, List.length_take]; omega
            ((with_reducible (refine mop_c trivial ?_; refine mop_c trivial ?_; refine mm_ld hM ?_; refine mm_bsl hM ?_ ?_ ?_)); (focus rfl); (focus (constructor <;> simp)); (with_reducible (clear hM; intro _ _ hM; refine mm_appo hM ?_ ?_)); (focus omega); (with_reducible (clear hM; intro _ _ _ hM; refine mop_c trivial ?_; refine mop_c trivial ?_; refine mm_st hM ?_; clear hM; intro _ hM; refine mop_c ?_ ?_)); (focus omega))
            rw [byts_snoc _ _ hlt'] at hM
            have hl2 : (out ++ (numB n).take i).length + 1 = (out ++ (numB n).take (i + 1)).length := by
              rw [List.length_append, List.length_append, List.length_take, List.length_take]; omega
            have hM2 := Mem.unwr (hM.upB g) hl2
            refine ⟨⟨i + 1, by rw [Int.natCast_add]; rfl, by omega, hM2⟩, ?_⟩
            show (numB n).length - ((i : Int) + 1).toNat < (numB n).length - (i : Int).toNat
            omega
        · intro hge
          ((with_reducible (refine mif_false ?_)))
          rw [List.take_of_length_le (by omega)] at hM
          exact ⟨_, rfl, rfl, hM⟩
    · have e0 : (((2 : Nat) : Int)) = 2 := rfl
      simp only [e0]
      ((with_reducible (refine mop_cT trivial ?_ ?_)); (focus (first | assumption | omega | with_reducible rfl | exact fun h => Bool.noConfusion h)); (with_reducible (refine mguard_yes ?_; refine mop_c trivial ?_; refine mguard_yes ?_; refine mm_purC hM ?_ (fun _ hM2 => ?_))); (focus (first | exact trivial | assumption | omega)); (with_reducible (replace hM := hM2; clear hM2; refine mguard_yes ?_; refine mop_c trivial ?_; refine mguard_yes ?_)))
      refine mop_pur (v := .int .i64 1073741824) (fun w => by kernel_rfl) ?_
      ((with_reducible (refine mguard_yes ?_)))
      ((with_reducible (refine mop_cS trivial ?_ ?_)))
      · intro hn
        ((with_reducible (refine mop_c trivial ?_; refine mif_true ?_)))
        exact ⟨by omega, by omega, by omega, by omega, hM⟩
      · intro hn
        ((with_reducible (refine mop_c trivial ?_; refine mif_false ?_)))
        have hkn : (2 : Int) = kindN n := by
          unfold kindN
          simp at h1 h2 h3
          repeat' split
          all_goals omega
        refine mop_pur (p_shl _ _ _ _ _ _ (by omega) (by simp [IntKind.bits])) ?_
        have hL : IntKind.i64.wrap (1 * 2 ^ (2 : Int).toNat) = ((numB n).length : Int) := by
          rw [numB_len, ← hkn]
          rfl
        rw [hL]
        refine ⟨fun x w' => ∃ i : Nat, x = .int .i64 i ∧ i ≤ (numB n).length ∧ Mem H w0 (wrR g (out ++ (numB n).take i) bad :: L) w', fun x _ => match x with | .int _ i => (numB n).length - i.toNat | _ => 0, ⟨0, rfl, by omega, by simpa using hM⟩, ?_⟩
        clear hM
        rintro x u w4 ⟨i, rfl, hi, hM⟩
        skip
        ((with_reducible (refine mop_cS trivial ?_ ?_)))
        · intro hlt
          have hlt' : i < (numB n).length := by omega
          have hby := byteAt n h i hlt'
          have hhd := numB_head n h
          ((with_reducible (refine mif_true ?_; refine mop_c ?_ ?_)); (focus omega); (with_reducible (refine mop_c ?_ ?_)); (focus omega); (with_reducible (refine mop_c ?_ ?_)); (focus omega); (with_reducible (refine mop_c ?_ ?_)); (focus omega); (with_reducible (refine mop_c trivial ?_)))
          rw [hby]
          refine ⟨fun x w' => x = .int .u8 ((numB n).getD i 0) ∧ hM.now w', ?_, ?_⟩
          · skip
            ((with_reducible (refine mop_cS trivial ?_ ?_)))
            · intro h0
              obtain rfl : i = 0 := by omega
              ((with_reducible (refine mif_true ?_)))
              refine mop_pur (p_shl _ _ _ _ _ _ (by omega) (by simp [IntKind.bits])) ?_
              have h6 : IntKind.i64.wrap ((2 : Int) * 2 ^ (6 : Int).toNat) = kindN n * 64 := by
                rw [← hkn]
                rfl
              rw [h6]
              ((with_reducible (refine mop_c trivial ?_; refine mop_c trivial ?_)))
              refine ⟨?_, hM⟩
              rw [if_pos rfl, Int.emod_eq_of_lt (by omega) (by omega), or64 _ _ (by omega) (by omega)]
              congr 1
              omega
            · intro h0
              ((with_reducible (refine mif_false ?_)))
              exact ⟨by rw [if_neg (by omega)], hM⟩
          · rintro x u w5 ⟨rfl, hM⟩
            obtain ⟨A, c, hM⟩ := hM.wr
            have hol : (out ++ (numB n).take i).length ≤ out.length + 8 := by rw [List.length_append, List.length_take]; omega
            ((with_reducible (refine mop_c trivial ?_; refine mop_c trivial ?_; refine mm_ld hM ?_; refine mm_bsl hM ?_ ?_ ?_)); (focus rfl); (focus (constructor <;> simp)); (with_reducible (clear hM; intro _ _ hM; refine mm_appo hM ?_ ?_)); (focus omega); (with_reducible (clear hM; intro _ _ _ hM; refine mop_c trivial ?_; refine mop_c trivial ?_; refine mm_st hM ?_; clear hM; intro _ hM; refine mop_c ?_ ?_)); (focus omega))
            rw [byts_snoc _ _ hlt'] at hM
            have hl2 : (out ++ (numB n).take i).length + 1 = (out ++ (numB n).take (i + 1)).length := by
              rw [List.length_append, List.length_append, List.length_take, List.length_take]; omega
            have hM2 := Mem.unwr (hM.upB g) hl2
            refine ⟨⟨i + 1, by rw [Int.natCast_add]; rfl, by omega, hM2⟩, ?_⟩
            show (numB n).length - ((i : Int) + 1).toNat < (numB n).length - (i : Int).toNat
            omega
        · intro hge
          ((with_reducible (refine mif_false ?_)))
          rw [List.take_of_length_le (by omega)] at hM
          exact ⟨_, rfl, rfl, hM⟩
    · have e0 : (((3 : Nat) : Int)) = 3 := rfl
      simp only [e0]
      ((with_reducible (refine mop_cF trivial ?_ ?_)); (focus (first | assumption | omega | with_reducible rfl | exact fun h => Bool.noConfusion h)); (with_reducible ((iterate 5 refine mguard_n2 ?_); refine mop_c trivial ?_; refine mif_false ?_)))
      · have hkn : (3 : Int) = kindN n := by
          unfold kindN
          simp at h1 h2 h3
          repeat' split
          all_goals omega
        refine mop_pur (p_shl _ _ _ _ _ _ (by omega) (by simp [IntKind.bits])) ?_
        have hL : IntKind.i64.wrap (1 * 2 ^ (3 : Int).toNat) = ((numB n).length : Int) := by
          rw [numB_len, ← hkn]
          rfl
        rw [hL]
        refine ⟨fun x w' => ∃ i : Nat, x = .int .i64 i ∧ i ≤ (numB n).length ∧ Mem H w0 (wrR g (out ++ (numB n).take i) bad :: L) w', fun x _ => match x with | .int _ i => (numB n).length - i.toNat | _ => 0, ⟨0, rfl, by omega, by simpa using hM⟩, ?_⟩
        clear hM
        rintro x u w4 ⟨i, rfl, hi, hM⟩
        skip
        ((with_reducible (refine mop_cS trivial ?_ ?_)))
        · intro hlt
          have hlt' : i < (numB n).length := by omega
          have hby := byteAt n h i hlt'
          have hhd := numB_head n h
          ((with_reducible (refine mif_true ?_; refine mop_c ?_ ?_)); (focus omega); (with_reducible (refine mop_c ?_ ?_)); (focus omega); (with_reducible (refine mop_c ?_ ?_)); (focus omega); (with_reducible (refine mop_c ?_ ?_)); (focus omega); (with_reducible (refine mop_c trivial ?_)))
          rw [hby]
          refine ⟨fun x w' => x = .int .u8 ((numB n).getD i 0) ∧ hM.now w', ?_, ?_⟩
          · skip
            ((with_reducible (refine mop_cS trivial ?_ ?_)))
            · intro h0
              obtain rfl : i = 0 := by omega
              ((with_reducible (refine mif_true ?_)))
              refine mop_pur (p_shl _ _ _ _ _ _ (by omega) (by simp [IntKind.bits])) ?_
              have h6 : IntKind.i64.wrap ((3 : Int) * 2 ^ (6 : Int).toNat) = kindN n * 64 := by
                rw [← hkn]
                rfl
              rw [h6]
              ((with_reducible (refine mop_c trivial ?_; refine mop_c trivial ?_)))
              refine ⟨?_, hM⟩
              rw [if_pos rfl, Int.emod_eq_of_lt (by omega) (by omega), or64 _ _ (by omega) (by omega)]
              congr 1
              omega
            · intro h0
              ((with_reducible (refine mif_false ?_)))
              exact ⟨by rw [if_neg (by omega)], hM⟩
          · rintro x u w5 ⟨rfl, hM⟩
            obtain ⟨A, c, hM⟩ := hM.wr
            have hol : (out ++ (numB n).take i).length ≤ out.length + 8 := by rw [List.length_append, List.length_take]; omega
            ((with_reducible (refine mop_c trivial ?_; refine mop_c trivial ?_; refine mm_ld hM ?_; refine mm_bsl hM ?_ ?_ ?_)); (focus rfl); (focus (constructor <;> simp)); (with_reducible (clear hM; intro _ _ hM; refine mm_appo hM ?_ ?_)); (focus omega); (with_reducible (clear hM; intro _ _ _ hM; refine mop_c trivial ?_; refine mop_c trivial ?_; refine mm_st hM ?_; clear hM; intro _ hM; refine mop_c ?_ ?_)); (focus omega))
            rw [byts_snoc _ _ hlt'] at hM
            have hl2 : (out ++ (numB n).take i).length + 1 = (out ++ (numB n).take (i + 1)).length := by
              rw [List.length_append, List.length_append, List.length_take, List.length_take]; omega
            have hM2 := Mem.unwr (hM.upB g) hl2
            refine ⟨⟨i + 1, by rw [Int.natCast_add]; rfl, by omega, hM2⟩, ?_⟩
            show (numB n).length - ((i : Int) + 1).toNat < (numB n).length - (i : Int).toNat
            omega
        · intro hge
          ((with_reducible (refine mif_false ?_)))
          rw [List.take_of_length_le (by omega)] at hM
          exact ⟨_, rfl, rfl, hM⟩
  · rintro u w3 ⟨hk3, g1, g2, g3, hM⟩
    ((with_reducible (refine mop_c ?_ ?_)); (focus omega))
    exact ⟨⟨k + 1, by simp, by omega, fun _ => by omega, fun _ => by omega, fun _ => by omega, hM⟩, by simp; omega⟩
theorem wend_ok (hM : Mem H w0 (wrR g out false :: L) w) : Calls Tryz.prog 49 #[.pointer (some ⟨g, 0, none⟩)] w fun en w' => en = .returned (.tuple #[.string (strOfNums out), .int .i64 0]) ∧ St w [] w' := by
  refine C_wire_Writer_End ?_
  unfold F_wire_Writer_End
  obtain ⟨A, c, hM⟩ := hM.wr
  refine ⟨fun x w' => x = .bool false ∧ w = w', ?_, ?_⟩
  · ((with_reducible (refine mop_c trivial ?_; refine mguard_yes ?_; refine mop_c trivial ?_; refine mguard_yes ?_; refine mop_c trivial ?_; refine mguard_yes ?_; refine mop_c trivial ?_; refine mguard_yes ?_; refine mm_ld hM ?_; refine mop_c trivial ?_)))
    exact ⟨rfl, rfl⟩
  rintro x u w2 ⟨rfl, rfl⟩
  ((with_reducible (refine mif_false ?_; refine mop_c trivial ?_; refine mop_c trivial ?_; refine mm_ld hM ?_)))
  refine mm_cvr hM (Nat.le_refl _) ?_
  rw [List.take_length]
  exact ⟨rfl, St.nil w⟩
end
end Go.Proofs.YtopcnkejobomaaaGreat
namespace Go.Proofs.YtopcnkejobomaaaGreat
open Go.RowKit
theorem dp_cat {P : Program} {t : TypeId} {q : Bool} {K : Value → Prop} (a b : List Int) (h : a.length + b.length ≤ 1000000000000) (hk : K (.string (strOfNums (a ++ b)))) : dp P (o_bin .add t q (.string (strOfNums a)) (.string (strOfNums b))) K := by
  refine dp_c (by rw [strOfNums_size, strOfNums_size]; omega) ?_
  rw [strOfNums_append]
  exact hk
theorem mop_cat {P : Program} {t : TypeId} {q : Bool} {w : World} {K : Value → World → Prop} {X : List PanicEntry → World → Prop} (a b : List Int) (h : a.length + b.length ≤ 1000000000000) (hk : K (.string (strOfNums (a ++ b))) w) : mop P (o_bin .add t q (.string (strOfNums a)) (.string (strOfNums b))) w K X := by
  refine mop_c (by rw [strOfNums_size, strOfNums_size]; omega) ?_
  rw [strOfNums_append]
  exact hk
section
variable {H : Hp} {w0 w : World} {L R : List Res} {g : Nat}
theorem rhash_ok (h : H32) (w : World) : Calls Tryz.prog 155 #[ha h] w fun en w' => en = .returned (.string (strOfNums h.1)) ∧ St w [] w' := by
  have hM := Mem.start (Fz.of w)
  refine C_bevyref01_Hash ?_
  unfold F_bevyref01_Hash
  ((with_reducible (refine mm_box hM ?_; clear hM; intro _ _ hM; refine mop_c trivial ?_; refine mm_cvb hM ?_)))
  exact ⟨rfl, hM.st⟩
instance (h : H32) : PurC Tryz.prog 155 [.agg (u8s h.1).toArray] True (.string (strOfNums h.1)) := ⟨fun _ w => rhash_ok h w⟩
theorem rtext_ok (h : H32) (w : World) : Calls Tryz.prog 132 #[ha h] w fun en w' => en = .returned (.string (strOfNums h.1)) ∧ St w [] w' := by
  have hM := Mem.start (Fz.of w)
  refine C_bevyref05_text ?_
  unfold F_bevyref05_text
  ((with_reducible (refine mm_box hM ?_; clear hM; intro _ _ hM; refine mop_c trivial ?_; refine mm_cvb hM ?_)))
  exact ⟨rfl, hM.st⟩
instance (h : H32) : PurC Tryz.prog 132 [.agg (u8s h.1).toArray] True (.string (strOfNums h.1)) := ⟨fun _ w => rtext_ok h w⟩
theorem rnum_ok (n : Int) (h : 0 ≤ n ∧ n ≤ 4611686018427387903) (w : World) : Calls Tryz.prog 50 #[.int .i64 n] w fun en w' => en = .returned (.string (strOfNums (numB n))) ∧ St w [] w' := by
  have hM := Mem.start (Fz.of w)
  refine C_bevyref01_Num ?_
  unfold F_bevyref01_Num
  ((with_reducible (refine mop_cS trivial ?_ ?_)))
  · intro h1
    ((with_reducible (refine mif_true ?_; refine mop_c trivial ?_; refine mm_bsl hM ?_ ?_ ?_)); (focus rfl); (focus (constructor <;> simp)); (with_reducible (clear hM; intro _ _ hM)))
    refine mm_cvr (l := [n % 256]) (R := []) (a := ⟨.refl _⟩) hM (by simp) ?_
    refine ⟨?_, hM.st⟩
    unfold numB
    rw [if_pos h1, Int.emod_eq_of_lt h.1 (by omega)]
    rfl
  · intro h1
    ((with_reducible (refine mif_false ?_)))
    ((with_reducible (refine mop_cS trivial ?_ ?_)))
    · intro h2
      ((with_reducible (refine mif_true ?_; refine mop_c ?_ ?_)); (focus omega); (with_reducible (refine mop_c ?_ ?_)); (focus omega); (with_reducible (refine mop_c trivial ?_; refine mop_c ?_ ?_)); (focus omega); (with_reducible (refine mop_c trivial ?_; refine mm_bsl hM ?_ ?_ ?_)); (focus rfl); (focus (constructor <;> simp)); (with_reducible (clear hM; intro _ _ hM)))
      refine mm_cvr (l := [(64 + n / 256) % 256, n % 256 % 256]) (R := []) (a := ⟨.refl _⟩) hM (by simp) ?_
      refine ⟨?_, hM.st⟩
      unfold numB
      rw [if_neg h1, if_pos h2, Int.emod_eq_of_lt (a := 64 + n / 256) (by omega) (by omega), Int.emod_emod_of_dvd _ (by omega)]
      rfl
    · intro h2
      ((with_reducible (refine mif_false ?_)))
      ((with_reducible (refine mop_cS trivial ?_ ?_)))
      · intro h3
        ((with_reducible (refine mif_true ?_; refine mop_c ?_ ?_)); (focus omega); (with_reducible (refine mop_c ?_ ?_)); (focus omega); (with_reducible (refine mop_c trivial ?_; refine mop_c ?_ ?_)); (focus omega); (with_reducible (refine mop_c ?_ ?_)); (focus omega); (with_reducible (refine mop_c trivial ?_; refine mop_c ?_ ?_)); (focus omega); (with_reducible (refine mop_c ?_ ?_)); (focus omega); (with_reducible (refine mop_c trivial ?_; refine mop_c ?_ ?_)); (focus omega); (with_reducible (refine mop_c trivial ?_; refine mm_bsl hM ?_ ?_ ?_)); (focus rfl); (focus (constructor <;> simp)); (with_reducible (clear hM; intro _ _ hM)))
        refine mm_cvr (l := [(128 + n / 16777216) % 256, n / 65536 % 256 % 256, n / 256 % 256 % 256, n % 256 % 256]) (R := []) (a := ⟨.refl _⟩) hM (by simp) ?_
        refine ⟨?_, hM.st⟩
        unfold numB
        rw [if_neg h1, if_neg h2, if_pos h3, Int.emod_eq_of_lt (a := 128 + n / 16777216) (by omega) (by omega)]
        simp only [Int.emod_emod_of_dvd _ (Int.dvd_refl 256)]
        rfl
      · intro h3
        ((with_reducible (refine mif_false ?_; refine mm_new hM ?_; clear hM; intro _ _ hM)))
        rename_i g _
        refine ⟨fun x y w' => (x = .int .i64 (n) ∧ y = .int .i64 (7) ∧ Mem (Hp.of w) w [fb g 144 [.one (.int .u8 0), .one (.int .u8 0), .one (.int .u8 0), .one (.int .u8 0), .one (.int .u8 0), .one (.int .u8 0), .one (.int .u8 0), .one (.int .u8 0)]] w') ∨ (x = .int .i64 (n / 256) ∧ y = .int .i64 (6) ∧ Mem (Hp.of w) w [fb g 144 [.one (.int .u8 0), .one (.int .u8 0), .one (.int .u8 0), .one (.int .u8 0), .one (.int .u8 0), .one (.int .u8 0), .one (.int .u8 0), .one (.int .u8 (n % 256 % 256))]] w') ∨ (x = .int .i64 (n / 65536) ∧ y = .int .i64 (5) ∧ Mem (Hp.of w) w [fb g 144 [.one (.int .u8 0), .one (.int .u8 0), .one (.int .u8 0), .one (.int .u8 0), .one (.int .u8 0), .one (.int .u8 0), .one (.int .u8 (n / 256 % 256 % 256)), .one (.int .u8 (n % 256 % 256))]] w') ∨ (x = .int .i64 (n / 16777216) ∧ y = .int .i64 (4) ∧ Mem (Hp.of w) w [fb g 144 [.one (.int .u8 0), .one (.int .u8 0), .one (.int .u8 0), .one (.int .u8 0), .one (.int .u8 0), .one (.int .u8 (n / 65536 % 256 % 256)), .one (.int .u8 (n / 256 % 256 % 256)), .one (.int .u8 (n % 256 % 256))]] w') ∨ (x = .int .i64 (n / 4294967296) ∧ y = .int .i64 (3) ∧ Mem (Hp.of w) w [fb g 144 [.one (.int .u8 0), .one (.int .u8 0), .one (.int .u8 0), .one (.int .u8 0), .one (.int .u8 (n / 16777216 % 256 % 256)), .one (.int .u8 (n / 65536 % 256 % 256)), .one (.int .u8 (n / 256 % 256 % 256)), .one (.int .u8 (n % 256 % 256))]] w') ∨ (x = .int .i64 (n / 1099511627776) ∧ y = .int .i64 (2) ∧ Mem (Hp.of w) w [fb g 144 [.one (.int .u8 0), .one (.int .u8 0), .one (.int .u8 0), .one (.int .u8 (n / 4294967296 % 256 % 256)), .one (.int .u8 (n / 16777216 % 256 % 256)), .one (.int .u8 (n / 65536 % 256 % 256)), .one (.int .u8 (n / 256 % 256 % 256)), .one (.int .u8 (n % 256 % 256))]] w') ∨ (x = .int .i64 (n / 281474976710656) ∧ y = .int .i64 (1) ∧ Mem (Hp.of w) w [fb g 144 [.one (.int .u8 0), .one (.int .u8 0), .one (.int .u8 (n / 1099511627776 % 256 % 256)), .one (.int .u8 (n / 4294967296 % 256 % 256)), .one (.int .u8 (n / 16777216 % 256 % 256)), .one (.int .u8 (n / 65536 % 256 % 256)), .one (.int .u8 (n / 256 % 256 % 256)), .one (.int .u8 (n % 256 % 256))]] w') ∨ (x = .int .i64 (n / 72057594037927936) ∧ y = .int .i64 (0) ∧ Mem (Hp.of w) w [fb g 144 [.one (.int .u8 0), .one (.int .u8 (n / 281474976710656 % 256 % 256)), .one (.int .u8 (n / 1099511627776 % 256 % 256)), .one (.int .u8 (n / 4294967296 % 256 % 256)), .one (.int .u8 (n / 16777216 % 256 % 256)), .one (.int .u8 (n / 65536 % 256 % 256)), .one (.int .u8 (n / 256 % 256 % 256)), .one (.int .u8 (n % 256 % 256))]] w') ∨ (x = .int .i64 (n / 18446744073709551616) ∧ y = .int .i64 (-1) ∧ Mem (Hp.of w) w [fb g 144 [.one (.int .u8 (n / 72057594037927936 % 256 % 256)), .one (.int .u8 (n / 281474976710656 % 256 % 256)), .one (.int .u8 (n / 1099511627776 % 256 % 256)), .one (.int .u8 (n / 4294967296 % 256 % 256)), .one (.int .u8 (n / 16777216 % 256 % 256)), .one (.int .u8 (n / 65536 % 256 % 256)), .one (.int .u8 (n / 256 % 256 % 256)), .one (.int .u8 (n % 256 % 256))]] w'), fun _ y _ => match y with | .int _ i => (i + 1).toNat | _ => 0, .inl ⟨rfl, rfl, hM⟩, ?_⟩
        clear hM
        rintro x y u w2 (⟨rfl, rfl, hM⟩ | ⟨rfl, rfl, hM⟩ | ⟨rfl, rfl, hM⟩ | ⟨rfl, rfl, hM⟩ | ⟨rfl, rfl, hM⟩ | ⟨rfl, rfl, hM⟩ | ⟨rfl, rfl, hM⟩ | ⟨rfl, rfl, hM⟩ | ⟨rfl, rfl, hM⟩)
        · ((with_reducible (refine mop_cT trivial ?_ ?_)); (focus (first | assumption | omega | with_reducible rfl | exact fun h => Bool.noConfusion h)); (with_reducible (refine mif_true ?_; refine mop_c ?_ ?_)); (focus omega); (with_reducible (refine mop_c trivial ?_; refine mop_c trivial ?_; refine mm_st hM ?_; clear hM; intro _ hM; refine mop_c ?_ ?_)); (focus omega); (with_reducible (refine mop_c ?_ ?_)); (focus omega))
          refine ⟨.inr (.inl ⟨by first | rfl | (congr 1; omega), rfl, hM⟩), by first | decide | (dsimp only; omega) | (simp; done)⟩
        · ((with_reducible (refine mop_cT trivial ?_ ?_)); (focus (first | assumption | omega | with_reducible rfl | exact fun h => Bool.noConfusion h)); (with_reducible (refine mif_true ?_; refine mop_c ?_ ?_)); (focus omega); (with_reducible (refine mop_c trivial ?_; refine mop_c trivial ?_; refine mm_st hM ?_; clear hM; intro _ hM; refine mop_c ?_ ?_)); (focus omega); (with_reducible (refine mop_c ?_ ?_)); (focus omega))
          refine ⟨.inr (.inr (.inl ⟨by first | rfl | (congr 1; omega), rfl, hM⟩)), by first | decide | (dsimp only; omega) | (simp; done)⟩
        · ((with_reducible (refine mop_cT trivial ?_ ?_)); (focus (first | assumption | omega | with_reducible rfl | exact fun h => Bool.noConfusion h)); (with_reducible (refine mif_true ?_; refine mop_c ?_ ?_)); (focus omega); (with_reducible (refine mop_c trivial ?_; refine mop_c trivial ?_; refine mm_st hM ?_; clear hM; intro _ hM; refine mop_c ?_ ?_)); (focus omega); (with_reducible (refine mop_c ?_ ?_)); (focus omega))
          refine ⟨.inr (.inr (.inr (.inl ⟨by first | rfl | (congr 1; omega), rfl, hM⟩))), by first | decide | (dsimp only; omega) | (simp; done)⟩
        · ((with_reducible (refine mop_cT trivial ?_ ?_)); (focus (first | assumption | omega | with_reducible rfl | exact fun h => Bool.noConfusion h)); (with_reducible (refine mif_true ?_; refine mop_c ?_ ?_)); (focus omega); (with_reducible (refine mop_c trivial ?_; refine mop_c trivial ?_; refine mm_st hM ?_; clear hM; intro _ hM; refine mop_c ?_ ?_)); (focus omega); (with_reducible (refine mop_c ?_ ?_)); (focus omega))
          refine ⟨.inr (.inr (.inr (.inr (.inl ⟨by first | rfl | (congr 1; omega), rfl, hM⟩)))), by first | decide | (dsimp only; omega) | (simp; done)⟩
        · ((with_reducible (refine mop_cT trivial ?_ ?_)); (focus (first | assumption | omega | with_reducible rfl | exact fun h => Bool.noConfusion h)); (with_reducible (refine mif_true ?_; refine mop_c ?_ ?_)); (focus omega); (with_reducible (refine mop_c trivial ?_; refine mop_c trivial ?_; refine mm_st hM ?_; clear hM; intro _ hM; refine mop_c ?_ ?_)); (focus omega); (with_reducible (refine mop_c ?_ ?_)); (focus omega))
          refine ⟨.inr (.inr (.inr (.inr (.inr (.inl ⟨by first | rfl | (congr 1; omega), rfl, hM⟩))))), by first | decide | (dsimp only; omega) | (simp; done)⟩
        · ((with_reducible (refine mop_cT trivial ?_ ?_)); (focus (first | assumption | omega | with_reducible rfl | exact fun h => Bool.noConfusion h)); (with_reducible (refine mif_true ?_; refine mop_c ?_ ?_)); (focus omega); (with_reducible (refine mop_c trivial ?_; refine mop_c trivial ?_; refine mm_st hM ?_; clear hM; intro _ hM; refine mop_c ?_ ?_)); (focus omega); (with_reducible (refine mop_c ?_ ?_)); (focus omega))
          refine ⟨.inr (.inr (.inr (.inr (.inr (.inr (.inl ⟨by first | rfl | (congr 1; omega), rfl, hM⟩)))))), by first | decide | (dsimp only; omega) | (simp; done)⟩
        · ((with_reducible (refine mop_cT trivial ?_ ?_)); (focus (first | assumption | omega | with_reducible rfl | exact fun h => Bool.noConfusion h)); (with_reducible (refine mif_true ?_; refine mop_c ?_ ?_)); (focus omega); (with_reducible (refine mop_c trivial ?_; refine mop_c trivial ?_; refine mm_st hM ?_; clear hM; intro _ hM; refine mop_c ?_ ?_)); (focus omega); (with_reducible (refine mop_c ?_ ?_)); (focus omega))
          refine ⟨.inr (.inr (.inr (.inr (.inr (.inr (.inr (.inl ⟨by first | rfl | (congr 1; omega), rfl, hM⟩))))))), by first | decide | (dsimp only; omega) | (simp; done)⟩
        · ((with_reducible (refine mop_cT trivial ?_ ?_)); (focus (first | assumption | omega | with_reducible rfl | exact fun h => Bool.noConfusion h)); (with_reducible (refine mif_true ?_; refine mop_c ?_ ?_)); (focus omega); (with_reducible (refine mop_c trivial ?_; refine mop_c trivial ?_; refine mm_st hM ?_; clear hM; intro _ hM; refine mop_c ?_ ?_)); (focus omega); (with_reducible (refine mop_c ?_ ?_)); (focus omega))
          refine ⟨.inr (.inr (.inr (.inr (.inr (.inr (.inr (.inr (⟨by first | rfl | (congr 1; omega), rfl, hM⟩)))))))), by first | decide | (dsimp only; omega) | (simp; done)⟩
        · ((with_reducible (refine mop_cF trivial ?_ ?_)); (focus (first | assumption | omega | with_reducible rfl | exact fun h => Bool.noConfusion h)); (with_reducible (refine mif_false ?_; refine mop_c trivial ?_; refine mm_ld hM ?_; refine mop_c trivial ?_; refine mop_c trivial ?_; refine mm_st hM ?_; clear hM; intro _ hM; refine mop_c trivial ?_)))
          have hM := Mem.refd (fs' := [.arr 8 (u8s [(n / 72057594037927936 % 256 % 256 + 192) % 256, n / 281474976710656 % 256 % 256, n / 1099511627776 % 256 % 256, n / 4294967296 % 256 % 256, n / 16777216 % 256 % 256, n / 65536 % 256 % 256, n / 256 % 256 % 256, n % 256 % 256])]) hM rfl ⟨fun f hf => by
            rw [List.mem_singleton.1 hf]
            exact ⟨rfl, fun u hu => u8s_one _ u hu⟩⟩
          ((with_reducible (refine mm_cvb hM ?_)))
          refine ⟨?_, hM.st⟩
          unfold numB
          rw [if_neg h1, if_neg h2, if_neg h3]
          simp only [Int.emod_emod_of_dvd _ (Int.dvd_refl 256)]
          rw [show (n / 72057594037927936 % 256 + 192) % 256 = 192 + n / 72057594037927936 by omega]
instance (n : Int) : PurC Tryz.prog 50 [.int .i64 n] (0 ≤ n ∧ n ≤ 4611686018427387903) (.string (strOfNums (numB n))) := ⟨fun h w => rnum_ok n h w⟩
end
end Go.Proofs.YtopcnkejobomaaaGreat
namespace Go.Proofs.YtopcnkejobomaaaGreat.Chg
open Go.RowKit
structure Prp where
  epoch : H32
  depth : Int
  author : Int
  seq : Int
  kind : Int
  name : Int
  pub : H32
  sign : H32
deriving DecidableEq
abbrev Prp.fds (p : Prp) : List Fd := [.arr 32 (u8s p.epoch.1), .one (.int .i64 p.depth), .one (.int .i64 p.author), .one (.int .i64 p.seq), .one (.int .i64 p.kind), .one (.int .i64 p.name), .arr 32 (u8s p.pub.1), .arr 32 (u8s p.sign.1)]
abbrev prv (p : Prp) : Value := .agg (fl p.fds).toArray
def Prp.right (p : Prp) : Prop := (0 ≤ p.depth ∧ p.depth ≤ 4611686018427387903) ∧ (1 ≤ p.author ∧ p.author ≤ 64) ∧ (1 ≤ p.name ∧ p.name ≤ 64) ∧ (1 ≤ p.seq ∧ p.seq ≤ 4611686018427387903) ∧ (if p.kind = 2 then p.name = p.author else (p.kind = 1 ∨ p.kind = 3) ∧ p.pub = hzero)
instance (p : Prp) : Decidable p.right := by unfold Prp.right; infer_instance
def rank (k : Int) : Int := if k = 2 then 0 else if k = 3 then 1 else if k = 1 then 2 else 3
def Prp.lt (p q : Prp) : Prop := rank p.kind < rank q.kind ∨ rank p.kind = rank q.kind ∧ p.name < q.name
instance (p q : Prp) : Decidable (p.lt q) := by unfold Prp.lt; infer_instance
section
variable {H : Hp} {w0 w : World} {L R : List Res} {g : Nat}
theorem rank_ok (k : Int) (w : World) : Calls Tryz.prog 97 #[.int .i64 k] w fun en w' => en = .returned (.int .i64 (rank k)) ∧ St w [] w' := by
  have hM := Mem.start (Fz.of w)
  refine C_change_rank ?_
  unfold F_change_rank rank
  ((with_reducible (refine mop_cS trivial ?_ ?_)))
  · intro h
    ((with_reducible (refine mif_true ?_)))
    exact ⟨by rw [if_pos h], hM.st⟩
  · intro h
    ((with_reducible (refine mif_false ?_)))
    ((with_reducible (refine mop_cS trivial ?_ ?_)))
    · intro h2
      ((with_reducible (refine mif_true ?_)))
      exact ⟨by rw [if_neg h, if_pos h2], hM.st⟩
    · intro h2
      ((with_reducible (refine mif_false ?_)))
      ((with_reducible (refine mop_cS trivial ?_ ?_)))
      · intro h3
        ((with_reducible (refine mif_true ?_)))
        exact ⟨by rw [if_neg h, if_neg h2, if_pos h3], hM.st⟩
      · intro h3
        ((with_reducible (refine mif_false ?_)))
        exact ⟨by rw [if_neg h, if_neg h2, if_neg h3], hM.st⟩
instance (k : Int) : PurC Tryz.prog 97 [.int .i64 k] True (.int .i64 (rank k)) := ⟨fun _ w => rank_ok k w⟩
theorem rrank_ok (k : Int) (w : World) : Calls Tryz.prog 105 #[.int .i64 k] w fun en w' => en = .returned (.int .i64 (rank k)) ∧ St w [] w' := by
  have hM := Mem.start (Fz.of w)
  refine C_bevyref10_rank ?_
  unfold F_bevyref10_rank rank
  ((with_reducible (refine mop_cS trivial ?_ ?_)))
  · intro h
    ((with_reducible (refine mif_true ?_)))
    exact ⟨by rw [if_pos h], hM.st⟩
  · intro h
    ((with_reducible (refine mif_false ?_)))
    ((with_reducible (refine mop_cS trivial ?_ ?_)))
    · intro h2
      ((with_reducible (refine mif_true ?_)))
      exact ⟨by rw [if_neg h, if_pos h2], hM.st⟩
    · intro h2
      ((with_reducible (refine mif_false ?_)))
      ((with_reducible (refine mop_cS trivial ?_ ?_)))
      · intro h3
        ((with_reducible (refine mif_true ?_)))
        exact ⟨by rw [if_neg h, if_neg h2, if_pos h3], hM.st⟩
      · intro h3
        ((with_reducible (refine mif_false ?_)))
        exact ⟨by rw [if_neg h, if_neg h2, if_neg h3], hM.st⟩
instance (k : Int) : PurC Tryz.prog 105 [.int .i64 k] True (.int .i64 (rank k)) := ⟨fun _ w => rrank_ok k w⟩
theorem less_ok (p q : Prp) (w : World) : Calls Tryz.prog 56 #[prv p, prv q] w fun en w' => en = .returned (.bool (decide (p.lt q))) ∧ St w [] w' := by
  have hM := Mem.start (Fz.of w)
  refine C_change_Less ?_
  unfold F_change_Less
  ((with_reducible (refine mm_box hM ?_; clear hM; intro _ _ hM; refine mm_box hM ?_; clear hM; intro _ _ hM; refine dp_c trivial ?_; refine dp_c trivial ?_; refine dm_ld hM ?_; refine dm_purC hM ?_ (fun _ _ hM => ?_))); (focus (first | exact trivial | assumption | omega)); (with_reducible (refine dp_c trivial ?_; refine dp_c trivial ?_)); (with_reducible refine dm_ld ‹Mem _ _ _ _› ?_); (with_reducible (refine dm_purC hM ?_ (fun _ _ hM => ?_))); (focus (first | exact trivial | assumption | omega)); (with_reducible (refine mm_end hM ?_; clear hM; intro _ hM)))
  ((with_reducible (refine mop_cS trivial ?_ ?_)))
  · intro h
    ((with_reducible ((iterate 4 refine mguard_n1 ?_); (iterate 7 refine mguard_un ?_); refine mguard_n1 ?_; refine mop_c trivial ?_)))
    exact ⟨by rw [decide_eq_true (show p.lt q from .inl h)], hM.st⟩
  · intro h
    ((with_reducible (refine mguard_yes ?_; refine mop_c trivial ?_; refine mguard_yes ?_; refine mop_c trivial ?_; refine mguard_yes ?_)))
    ((with_reducible (refine mop_cS trivial ?_ ?_)))
    · intro h2
      ((with_reducible (refine mguard_yes ?_; refine mop_c trivial ?_; refine mguard_yes ?_; refine mop_c trivial ?_; refine mguard_yes ?_; refine mop_c trivial ?_; refine mguard_yes ?_; refine mm_ld hM ?_; refine mguard_yes ?_; refine mop_c trivial ?_; refine mguard_yes ?_; refine mop_c trivial ?_; refine mguard_yes ?_; refine mm_ld hM ?_; refine mguard_yes ?_)))
      ((with_reducible (refine mop_cS trivial ?_ ?_)))
      · intro h3
        ((with_reducible (refine mguard_yes ?_; refine mop_c trivial ?_; refine mop_c trivial ?_)))
        exact ⟨by rw [decide_eq_true (show p.lt q from .inr ⟨h2, h3⟩)], hM.st⟩
      · intro h3
        ((with_reducible (refine mguard_yes ?_; refine mop_c trivial ?_; refine mop_c trivial ?_)))
        exact ⟨by rw [decide_eq_false (show ¬ p.lt q by unfold Prp.lt; omega)], hM.st⟩
    · intro h2
      ((with_reducible (refine mguard_yes ?_; refine mop_c trivial ?_; (iterate 7 refine mguard_n2 ?_); refine mguard_yes ?_; refine mop_c trivial ?_; refine mop_c trivial ?_)))
      exact ⟨by rw [decide_eq_false (show ¬ p.lt q by unfold Prp.lt; omega)], hM.st⟩
instance (p q : Prp) : PurC Tryz.prog 56 [prv p, prv q] True (.bool (decide (p.lt q))) := ⟨fun _ w => less_ok p q w⟩
theorem rless_ok (p q : Prp) (w : World) : Calls Tryz.prog 66 #[prv p, prv q] w fun en w' => en = .returned (.bool (decide (p.lt q))) ∧ St w [] w' := by
  have hM := Mem.start (Fz.of w)
  refine C_bevyref10_Less ?_
  unfold F_bevyref10_Less
  ((with_reducible (refine mm_box hM ?_; clear hM; intro _ _ hM; refine mm_box hM ?_; clear hM; intro _ _ hM; refine dp_c trivial ?_; refine dp_c trivial ?_; refine dm_ld hM ?_; refine dm_purC hM ?_ (fun _ _ hM => ?_))); (focus (first | exact trivial | assumption | omega)); (with_reducible (refine dp_c trivial ?_; refine dp_c trivial ?_)); (with_reducible refine dm_ld ‹Mem _ _ _ _› ?_); (with_reducible (refine dm_purC hM ?_ (fun _ _ hM => ?_))); (focus (first | exact trivial | assumption | omega)))
  refine dp_cS trivial (fun h => ?_) (fun h => ?_)
  · ((with_reducible (refine mm_end hM ?_; clear hM; intro _ hM; refine mif_true ?_; refine dp_c trivial ?_; refine dp_c trivial ?_; refine dm_ld hM ?_; refine dm_purC hM ?_ (fun _ _ hM => ?_))); (focus (first | exact trivial | assumption | omega)); (with_reducible (refine dp_c trivial ?_; refine dp_c trivial ?_)); (with_reducible refine dm_ld ‹Mem _ _ _ _› ?_); (with_reducible (refine dm_purC hM ?_ (fun _ _ hM => ?_))); (focus (first | exact trivial | assumption | omega)))
    refine dp_cS trivial (fun h2 => ?_) (fun h2 => ?_)
    · ((with_reducible (refine mm_end hM ?_; clear hM; intro _ hM)))
      exact ⟨by rw [decide_eq_true (show p.lt q from .inl h2)], hM.st⟩
    · ((with_reducible (refine mm_end hM ?_; clear hM; intro _ hM)))
      exact ⟨by rw [decide_eq_false (show ¬ p.lt q by unfold Prp.lt; omega)], hM.st⟩
  · ((with_reducible (refine mm_end hM ?_; clear hM; intro _ hM; refine mif_false ?_; refine mop_c trivial ?_; refine mop_c trivial ?_; refine mm_ld hM ?_; refine mop_c trivial ?_; refine mop_c trivial ?_; refine mm_ld hM ?_)))
    ((with_reducible (refine mop_cS trivial ?_ ?_)))
    · intro h2
      skip
      exact ⟨by rw [decide_eq_true (show p.lt q by unfold Prp.lt; omega)], hM.st⟩
    · intro h2
      skip
      exact ⟨by rw [decide_eq_false (show ¬ p.lt q by unfold Prp.lt; omega)], hM.st⟩
instance (p q : Prp) : PurC Tryz.prog 66 [prv p, prv q] True (.bool (decide (p.lt q))) := ⟨fun _ w => rless_ok p q w⟩
theorem named_ok (n : Int) (w : World) : Calls Tryz.prog 102 #[.int .i64 n] w fun en w' => en = .returned (.bool (decide (1 ≤ n ∧ n ≤ 64))) ∧ St w [] w' := by
  have hM := Mem.start (Fz.of w)
  refine C_change_named ?_
  unfold F_change_named
  ((with_reducible (refine mop_cS trivial ?_ ?_)))
  · intro h
    ((with_reducible (refine mguard_yes ?_; refine mop_c trivial ?_; refine mguard_yes ?_)))
    ((with_reducible (refine mop_cS trivial ?_ ?_))) <;>
    · intro h2
      ((with_reducible (refine mop_c trivial ?_)))
      exact ⟨by simp; omega, hM.st⟩
  · intro h
    ((with_reducible (refine mguard_n2 ?_; refine mguard_n2 ?_; refine mop_c trivial ?_)))
    exact ⟨by simp; omega, hM.st⟩
instance (n : Int) : PurC Tryz.prog 102 [.int .i64 n] True (.bool (decide (1 ≤ n ∧ n ≤ 64))) := ⟨fun _ w => named_ok n w⟩
def Prp.rt0 (p : Prp) : Prop := (0 ≤ p.depth ∧ p.depth ≤ 4611686018427387903) ∧ (1 ≤ p.author ∧ p.author ≤ 64) ∧ (1 ≤ p.name ∧ p.name ≤ 64) ∧ (1 ≤ p.seq ∧ p.seq ≤ 4611686018427387903)
theorem right_no (p : Prp) (h : ¬ p.rt0) : decide p.right = false := decide_eq_false (fun k => h ⟨k.1, k.2.1, k.2.2.1, k.2.2.2.1⟩)
theorem right_two (p : Prp) (h : p.rt0) (hk : p.kind = 2) : decide p.right = decide (p.name = p.author) := by
  rw [Bool.eq_iff_iff]
  simp only [decide_eq_true_eq]
  unfold Prp.right
  rw [if_pos hk]
  exact ⟨fun k => k.2.2.2.2, fun k => ⟨h.1, h.2.1, h.2.2.1, h.2.2.2, k⟩⟩
theorem right_one (p : Prp) (h : p.rt0) (h2 : p.kind ≠ 2) (hk : p.kind = 1 ∨ p.kind = 3) : decide p.right = decide (p.pub = hzero) := by
  rw [Bool.eq_iff_iff]
  simp only [decide_eq_true_eq]
  unfold Prp.right
  rw [if_neg h2]
  exact ⟨fun k => k.2.2.2.2.2, fun k => ⟨h.1, h.2.1, h.2.2.1, h.2.2.2, hk, k⟩⟩
theorem right_odd (p : Prp) (h2 : p.kind ≠ 2) (hk : ¬ (p.kind = 1 ∨ p.kind = 3)) : decide p.right = false := decide_eq_false (fun k => by
  have := k.2.2.2.2
  rw [if_neg h2] at this
  exact hk this.1)
theorem right_ok (p : Prp) (w : World) : Calls Tryz.prog 60 #[prv p] w fun en w' => en = .returned (.bool (decide p.right)) ∧ St w [] w' := by
  have hM := Mem.start (Fz.of w)
  refine C_change_Right ?_
  unfold F_change_Right
  ((with_reducible (refine mm_box hM ?_; clear hM; intro _ _ hM; refine mop_c trivial ?_; refine mm_ld hM ?_; refine mm_new hM ?_; clear hM; intro _ _ hM; refine mm_st hM ?_; clear hM; intro _ hM)))
  rename_i g1 _ g2 _
  refine ⟨fun x w' => ∃ b : Bool, x = .bool b ∧ (b = true → ¬ p.rt0) ∧ (b = false → p.rt0) ∧ hM.now w', ?_, ?_⟩
  · ((with_reducible (refine mop_c trivial ?_; refine mm_ld hM ?_)))
    ((with_reducible (refine mop_cS trivial ?_ ?_)))
    · intro h1
      ((with_reducible ((iterate 3 refine mguard_n1 ?_); refine mop_c trivial ?_; (iterate 4 refine mguard_n1 ?_); refine mop_c trivial ?_; (iterate 4 refine mguard_n1 ?_); refine mop_c trivial ?_; (iterate 3 refine mguard_n1 ?_); refine mop_c trivial ?_; (iterate 3 refine mguard_n1 ?_); refine mop_c trivial ?_)))
      exact ⟨_, rfl, fun _ k => by unfold Prp.rt0 at k; omega, by simp, hM⟩
    · intro h1
      ((with_reducible (refine mguard_yes ?_; refine mop_c trivial ?_; refine mguard_yes ?_; refine mm_ld hM ?_; refine mguard_yes ?_)))
      ((with_reducible (refine mop_cS trivial ?_ ?_)))
      · intro h2
        ((with_reducible (refine mop_c trivial ?_; (iterate 4 refine mguard_n1 ?_); refine mop_c trivial ?_; (iterate 4 refine mguard_n1 ?_); refine mop_c trivial ?_; (iterate 3 refine mguard_n1 ?_); refine mop_c trivial ?_; (iterate 3 refine mguard_n1 ?_); refine mop_c trivial ?_)))
        exact ⟨_, rfl, fun _ k => by unfold Prp.rt0 at k; omega, by simp, hM⟩
      · intro h2
        ((with_reducible (refine mop_c trivial ?_; refine mguard_yes ?_; refine mop_c trivial ?_; refine mguard_yes ?_; refine mm_ld hM ?_; refine mguard_yes ?_; refine mm_purC hM ?_ (fun _ hM2 => ?_))); (focus (first | exact trivial | assumption | omega)); (with_reducible (replace hM := hM2; clear hM2; refine mguard_yes ?_; refine mop_c trivial ?_; refine mop_c trivial ?_)))
        by_cases h3 : 1 ≤ p.author ∧ p.author ≤ 64
        · rw [decide_eq_true h3]
          simp only [Bool.not_true]
          ((with_reducible (refine mguard_yes ?_; refine mop_c trivial ?_; refine mguard_yes ?_; refine mm_ld hM ?_; refine mguard_yes ?_; refine mm_purC hM ?_ ?_)); (focus (first | exact trivial | assumption | omega)); (with_reducible (clear hM; intro _ hM; refine mguard_yes ?_; refine mop_c trivial ?_; refine mop_c trivial ?_)))
          by_cases h4 : 1 ≤ p.name ∧ p.name ≤ 64
          · rw [decide_eq_true h4]
            simp only [Bool.not_true]
            ((with_reducible (refine mguard_yes ?_; refine mop_c trivial ?_; refine mguard_yes ?_; refine mm_ld hM ?_; refine mguard_yes ?_)))
            ((with_reducible (refine mop_cS trivial ?_ ?_)))
            · intro h5
              ((with_reducible (refine mop_c trivial ?_; (iterate 3 refine mguard_n1 ?_); refine mop_c trivial ?_)))
              exact ⟨_, rfl, fun _ k => by unfold Prp.rt0 at k; omega, by simp, hM⟩
            · intro h5
              ((with_reducible (refine mop_c trivial ?_; refine mguard_yes ?_; refine mop_c trivial ?_; refine mguard_yes ?_; refine mm_ld hM ?_; refine mguard_yes ?_)))
              ((with_reducible (refine mop_cS trivial ?_ ?_)))
              · intro h6
                ((with_reducible (refine mop_c trivial ?_)))
                exact ⟨_, rfl, fun _ k => by unfold Prp.rt0 at k; omega, by simp, hM⟩
              · intro h6
                ((with_reducible (refine mop_c trivial ?_)))
                exact ⟨_, rfl, by simp, fun _ => by unfold Prp.rt0; omega, hM⟩
          · rw [decide_eq_false h4]
            simp only [Bool.not_false]
            ((with_reducible ((iterate 3 refine mguard_n1 ?_); refine mop_c trivial ?_; (iterate 3 refine mguard_n1 ?_); refine mop_c trivial ?_)))
            exact ⟨_, rfl, fun _ k => by unfold Prp.rt0 at k; omega, by simp, hM⟩
        · rw [decide_eq_false h3]
          simp only [Bool.not_false]
          ((with_reducible ((iterate 4 refine mguard_n1 ?_); refine mop_c trivial ?_; (iterate 3 refine mguard_n1 ?_); refine mop_c trivial ?_; (iterate 3 refine mguard_n1 ?_); refine mop_c trivial ?_)))
          exact ⟨_, rfl, fun _ k => by unfold Prp.rt0 at k; omega, by simp, hM⟩
  · rintro x u w5 ⟨b, rfl, hb1, hb2, hM⟩
    cases b with
    | true =>
      ((with_reducible (refine mif_true ?_)))
      exact ⟨by rw [right_no p (hb1 rfl)], hM.st⟩
    | false =>
      have h0 := hb2 rfl
      ((with_reducible (refine mif_false ?_; refine mop_c trivial ?_; refine mm_ld hM ?_)))
      ((with_reducible (refine mop_cS trivial ?_ ?_)))
      · intro h2
        rw [right_two p h0 h2]
        ((with_reducible (refine mif_true ?_; refine mop_c trivial ?_; refine mm_ld hM ?_; refine mop_c trivial ?_; refine mm_ld hM ?_)))
        try first | refine mop_c trivial ?_ | refine dp_c trivial ?_
        skip
        exact ⟨rfl, hM.st⟩
      · intro h2
        ((with_reducible (refine mif_false ?_)))
        refine ⟨fun x w' => x = .bool (decide (p.kind = 1 ∨ p.kind = 3)) ∧ hM.now w', ?_, ?_⟩
        · skip
          ((with_reducible (refine mop_cS trivial ?_ ?_)))
          · intro h3
            ((with_reducible (refine mif_true ?_)))
            exact ⟨by simp [h3]; try rfl, hM⟩
          · intro h3
            ((with_reducible (refine mif_false ?_)))
            exact ⟨by simp [h3]; try rfl, hM⟩
        · rintro x u w6 ⟨rfl, hM⟩
          by_cases h3 : p.kind = 1 ∨ p.kind = 3
          · rw [decide_eq_true h3, right_one p h0 h2 h3]
            ((with_reducible (refine mif_true ?_; refine mop_c trivial ?_; refine mm_ld hM ?_; refine mop_c trivial ?_)))
            try first | refine mop_c trivial ?_ | refine dp_c trivial ?_
            skip
            exact ⟨rfl, hM.st⟩
          · rw [decide_eq_false h3, right_odd p h2 h3]
            ((with_reducible (refine mif_false ?_)))
            exact ⟨rfl, hM.st⟩
instance (p : Prp) : PurC Tryz.prog 60 [prv p] True (.bool (decide p.right)) := ⟨fun _ w => right_ok p w⟩
set_option maxRecDepth 8000 in
theorem rright_ok (p : Prp) (w : World) : Calls Tryz.prog 106 #[prv p] w fun en w' => en = .returned (.bool (decide p.right)) ∧ St w [] w' := by
  have hM := Mem.start (Fz.of w)
  refine C_bevyref10_Right ?_
  unfold F_bevyref10_Right
  ((with_reducible (refine mm_box hM ?_; clear hM; intro _ _ hM; refine mop_c trivial ?_; refine mm_ld hM ?_; refine mm_new hM ?_; clear hM; intro _ _ hM; refine mm_st hM ?_; clear hM; intro _ hM)))
  refine ⟨fun x w' => ∃ b : Bool, x = .bool b ∧ (b = true → ¬ p.rt0) ∧ (b = false → 0 ≤ p.depth ∧ p.depth ≤ 4611686018427387903 ∧ 1 ≤ p.seq ∧ p.seq ≤ 4611686018427387903) ∧ hM.now w', ?_, ?_⟩
  · ((with_reducible (refine mop_c trivial ?_; refine mm_ld hM ?_)))
    ((with_reducible (refine mop_cS trivial ?_ ?_)))
    · intro h1
      ((with_reducible ((iterate 3 refine mguard_n1 ?_); refine mop_c trivial ?_; (iterate 3 refine mguard_n1 ?_); refine mop_c trivial ?_; (iterate 3 refine mguard_n1 ?_); refine mop_c trivial ?_)))
      exact ⟨_, rfl, fun _ k => by unfold Prp.rt0 at k; omega, by simp, hM⟩
    · intro h1
      ((with_reducible (refine mguard_yes ?_; refine mop_c trivial ?_; refine mguard_yes ?_; refine mm_ld hM ?_; refine mguard_yes ?_)))
      ((with_reducible (refine mop_cS trivial ?_ ?_)))
      · intro h2
        ((with_reducible (refine mop_c trivial ?_; (iterate 3 refine mguard_n1 ?_); refine mop_c trivial ?_; (iterate 3 refine mguard_n1 ?_); refine mop_c trivial ?_)))
        exact ⟨_, rfl, fun _ k => by unfold Prp.rt0 at k; omega, by simp, hM⟩
      · intro h2
        ((with_reducible (refine mop_c trivial ?_; refine mguard_yes ?_; refine mop_c trivial ?_; refine mguard_yes ?_; refine mm_ld hM ?_; refine mguard_yes ?_)))
        ((with_reducible (refine mop_cS trivial ?_ ?_)))
        · intro h5
          ((with_reducible (refine mop_c trivial ?_; (iterate 3 refine mguard_n1 ?_); refine mop_c trivial ?_)))
          exact ⟨_, rfl, fun _ k => by unfold Prp.rt0 at k; omega, by simp, hM⟩
        · intro h5
          ((with_reducible (refine mop_c trivial ?_; refine mguard_yes ?_; refine mop_c trivial ?_; refine mguard_yes ?_; refine mm_ld hM ?_; refine mguard_yes ?_)))
          ((with_reducible (refine mop_cS trivial ?_ ?_)))
          · intro h6
            ((with_reducible (refine mop_c trivial ?_)))
            exact ⟨_, rfl, fun _ k => by unfold Prp.rt0 at k; omega, by simp, hM⟩
          · intro h6
            ((with_reducible (refine mop_c trivial ?_)))
            exact ⟨_, rfl, by simp, fun _ => by omega, hM⟩
  rintro x u w5 ⟨b, rfl, hb1, hb2, hM⟩
  cases b with
  | true =>
    ((with_reducible (refine mif_true ?_)))
    exact ⟨by rw [right_no p (hb1 rfl)], hM.st⟩
  | false =>
    have h0 := hb2 rfl
    ((with_reducible (refine mif_false ?_)))
    refine ⟨fun x w' => ∃ b : Bool, x = .bool b ∧ (b = true → ¬ p.rt0) ∧ (b = false → p.rt0) ∧ hM.now w', ?_, ?_⟩
    · ((with_reducible (refine mop_c trivial ?_; refine mm_ld hM ?_)))
      ((with_reducible (refine mop_cS trivial ?_ ?_)))
      · intro h1
        ((with_reducible ((iterate 3 refine mguard_n1 ?_); refine mop_c trivial ?_; (iterate 3 refine mguard_n1 ?_); refine mop_c trivial ?_; (iterate 3 refine mguard_n1 ?_); refine mop_c trivial ?_)))
        exact ⟨_, rfl, fun _ k => by unfold Prp.rt0 at k; omega, by simp, hM⟩
      · intro h1
        ((with_reducible (refine mguard_yes ?_; refine mop_c trivial ?_; refine mguard_yes ?_; refine mm_ld hM ?_; refine mguard_yes ?_)))
        ((with_reducible (refine mop_cS trivial ?_ ?_)))
        · intro h2
          ((with_reducible (refine mop_c trivial ?_; (iterate 3 refine mguard_n1 ?_); refine mop_c trivial ?_; (iterate 3 refine mguard_n1 ?_); refine mop_c trivial ?_)))
          exact ⟨_, rfl, fun _ k => by unfold Prp.rt0 at k; omega, by simp, hM⟩
        · intro h2
          ((with_reducible (refine mop_c trivial ?_; refine mguard_yes ?_; refine mop_c trivial ?_; refine mguard_yes ?_; refine mm_ld hM ?_; refine mguard_yes ?_)))
          ((with_reducible (refine mop_cS trivial ?_ ?_)))
          · intro h5
            ((with_reducible (refine mop_c trivial ?_; (iterate 3 refine mguard_n1 ?_); refine mop_c trivial ?_)))
            exact ⟨_, rfl, fun _ k => by unfold Prp.rt0 at k; omega, by simp, hM⟩
          · intro h5
            ((with_reducible (refine mop_c trivial ?_; refine mguard_yes ?_; refine mop_c trivial ?_; refine mguard_yes ?_; refine mm_ld hM ?_; refine mguard_yes ?_)))
            ((with_reducible (refine mop_cS trivial ?_ ?_)))
            · intro h6
              ((with_reducible (refine mop_c trivial ?_)))
              exact ⟨_, rfl, fun _ k => by unfold Prp.rt0 at k; omega, by simp, hM⟩
            · intro h6
              ((with_reducible (refine mop_c trivial ?_)))
              exact ⟨_, rfl, by simp, fun _ => by unfold Prp.rt0; omega, hM⟩
    rintro x u w6 ⟨b, rfl, hb1, hb2, hM⟩
    cases b with
    | true =>
      ((with_reducible (refine mif_true ?_)))
      exact ⟨by rw [right_no p (hb1 rfl)], hM.st⟩
    | false =>
      have h0 := hb2 rfl
      ((with_reducible (refine mif_false ?_; refine mop_c trivial ?_; refine mm_ld hM ?_)))
      ((with_reducible (refine mop_cS trivial ?_ ?_)))
      · intro h2
        rw [right_two p h0 h2]
        ((with_reducible (refine mif_true ?_; refine mop_c trivial ?_; refine mm_ld hM ?_; refine mop_c trivial ?_; refine mm_ld hM ?_)))
        try first | refine mop_c trivial ?_ | refine dp_c trivial ?_
        skip
        exact ⟨rfl, hM.st⟩
      · intro h2
        ((with_reducible (refine mif_false ?_; refine mop_c trivial ?_; refine mm_ld hM ?_)))
        ((with_reducible (refine mop_cS trivial ?_ ?_)))
        · intro h3
          rw [right_one p h0 h2 (.inl h3)]
          ((with_reducible ((iterate 3 refine mguard_n1 ?_); refine mop_c trivial ?_; refine mguard_yes ?_; refine mop_c trivial ?_; refine mguard_yes ?_; refine mm_ld hM ?_; refine mguard_yes ?_; refine mop_c trivial ?_; refine mguard_yes ?_)))
          try first | refine mop_c trivial ?_ | refine dp_c trivial ?_
          ((with_reducible (refine mop_c trivial ?_)))
          exact ⟨rfl, hM.st⟩
        · intro h3
          ((with_reducible (refine mguard_yes ?_; refine mop_c trivial ?_; refine mguard_yes ?_; refine mm_ld hM ?_; refine mguard_yes ?_)))
          ((with_reducible (refine mop_cS trivial ?_ ?_)))
          · intro h4
            rw [right_one p h0 h2 (.inr h4)]
            ((with_reducible (refine mop_c trivial ?_; refine mguard_yes ?_; refine mop_c trivial ?_; refine mguard_yes ?_; refine mm_ld hM ?_; refine mguard_yes ?_; refine mop_c trivial ?_; refine mguard_yes ?_)))
            try first | refine mop_c trivial ?_ | refine dp_c trivial ?_
            ((with_reducible (refine mop_c trivial ?_)))
            exact ⟨rfl, hM.st⟩
          · intro h4
            rw [right_odd p h2 (by omega)]
            ((with_reducible (refine mop_c trivial ?_; (iterate 4 refine mguard_n2 ?_); refine mop_c trivial ?_)))
            exact ⟨rfl, hM.st⟩
instance (p : Prp) : PurC Tryz.prog 106 [prv p] True (.bool (decide p.right)) := ⟨fun _ w => rright_ok p w⟩
end
end Go.Proofs.YtopcnkejobomaaaGreat.Chg
namespace Go.Proofs.YtopcnkejobomaaaGreat.Chg
open Go.RowKit
def shaH (l : List Int) : H32 := ⟨shaSum l, shaSum_length l, shaSum_range l⟩
def hmacH (k m : List Int) : H32 := ⟨hmac k m, hmac_length k m, hmac_range k m⟩
theorem ints_append (a b : ByteArray) : ints (a ++ b) = ints a ++ ints b := by
  obtain ⟨⟨a⟩⟩ := a
  obtain ⟨⟨b⟩⟩ := b
  simp [ints]
abbrev sver : ByteArray := ByteArray.mk #[118, 101, 114]
abbrev ssign : ByteArray := ByteArray.mk #[115, 105, 103, 110]
abbrev schange : ByteArray := ByteArray.mk #[99, 104, 97, 110, 103, 101]
def verV (k : H32) : H32 := shaH (ints sver ++ k.1)
def signV (v : H32) (t : List Int) : H32 := hmacH v.1 (ints ssign ++ t)
theorem ints_h (h : H32) : ints (strOfNums h.1) = h.1 := ints_str _ h.2.2
section
variable {H : Hp} {w0 w : World} {L R : List Res} {g : Nat}
theorem cat2 (a b : ByteArray) : cat [a, b] = ints a ++ ints b := by simp [cat]
theorem sum2_ok {A : Option Addr} {e : Nat} (a b : ByteArray) (hs : a.size + b.size < 1000000000000) (hM : Mem H w0 L w) [k : AtA L A 2 2 e 1 [[.one (.string a)], [.one (.string b)]] R] :
    Calls Tryz.prog 40 #[.slice A 2 2] w fun en w' => en = .returned (.agg (u8s (shaH (ints a ++ ints b)).1).toArray) ∧ St w [] w' := by
  have h := sum_ok A [a, b] 2 w (hM.rd k) (by simp) (by rw [cat2, List.length_append, ints_length, ints_length]; omega)
  rw [cat2] at h
  exact h
theorem code2_ok {A : Option Addr} {e : Nat} (key : H32) (a b : ByteArray) (hs : a.size + b.size < 1000000000) (hM : Mem H w0 L w) [k : AtA L A 2 2 e 1 [[.one (.string a)], [.one (.string b)]] R] :
    Calls Tryz.prog 152 #[.string (strOfNums key.1), .slice A 2 2] w fun en w' => en = .returned (.agg (u8s (hmacH key.1 (ints a ++ ints b)).1).toArray) ∧ St w [] w' := by
  have h := code_ok (strOfNums key.1) A [a, b] 2 w (hM.rd k) (by rw [strOfNums_size, key.2.1]; omega) (by simp) (by rw [cat2, List.length_append, ints_length, ints_length]; omega)
  rw [cat2, ints_h] at h
  exact h
theorem pverify_ok (k : H32) (w : World) : Calls Tryz.prog 131 #[ha k] w fun en w' => en = .returned (.agg (u8s (verV k).1).toArray) ∧ St w [] w' := by
  have hM := Mem.start (Fz.of w)
  refine C_prim_Verify ?_
  unfold F_prim_Verify
  ((with_reducible (refine mm_box hM ?_; clear hM; intro _ _ hM; refine mm_new hM ?_; clear hM; intro _ _ hM; refine mop_c trivial ?_; refine mm_cvb hM ?_; refine mm_bsl hM ?_ ?_ ?_)); (focus rfl); (focus (constructor <;> simp)); (with_reducible (clear hM; intro _ _ hM)))
  refine mm_pure hM (sum2_ok sver (strOfNums k.1) (by rw [strOfNums_size, k.2.1]; decide) hM) (fun w2 hM => ?_)
  rw [ints_h]
  ((with_reducible (refine mm_st hM ?_; clear hM; intro _ hM; refine rm_ld hM ?_)))
  exact ⟨rfl, hM.st⟩
instance (k : H32) : PurC Tryz.prog 131 [.agg (u8s k.1).toArray] True (.agg (u8s (verV k).1).toArray) := ⟨fun _ w => pverify_ok k w⟩
theorem pcode_ok (v : H32) (s : ByteArray) (hs : s.size ≤ 1000000) (w : World) : Calls Tryz.prog 130 #[ha v, .string s] w fun en w' => en = .returned (.agg (u8s (signV v (ints s)).1).toArray) ∧ St w [] w' := by
  have hM := Mem.start (Fz.of w)
  refine C_prim_code ?_
  unfold F_prim_code
  ((with_reducible (refine mm_box hM ?_; clear hM; intro _ _ hM; refine mm_new hM ?_; clear hM; intro _ _ hM; refine mop_c trivial ?_; refine mm_cvb hM ?_; refine mm_bsl hM ?_ ?_ ?_)); (focus rfl); (focus (constructor <;> simp)); (with_reducible (clear hM; intro _ _ hM)))
  refine mm_pure hM (code2_ok v ssign s (by have : ssign.size = 4 := rfl; omega) hM) (fun w2 hM => ?_)
  ((with_reducible (refine mm_st hM ?_; clear hM; intro _ hM; refine rm_ld hM ?_)))
  exact ⟨rfl, hM.st⟩
instance (v : H32) (s : ByteArray) : PurC Tryz.prog 130 [.agg (u8s v.1).toArray, .string s] (s.size ≤ 1000000) (.agg (u8s (signV v (ints s)).1).toArray) := ⟨fun h w => pcode_ok v s h w⟩
theorem psign_ok (k : H32) (s : ByteArray) (hs : s.size ≤ 1000000) (w : World) : Calls Tryz.prog 100 #[ha k, .string s] w fun en w' => en = .returned (.agg (u8s (signV (verV k) (ints s)).1).toArray) ∧ St w [] w' := by
  have hM := Mem.start (Fz.of w)
  refine C_prim_Sign ?_
  unfold F_prim_Sign
  ((with_reducible (refine mm_box hM ?_; clear hM; intro _ _ hM; refine mm_new hM ?_; clear hM; intro _ _ hM; refine mm_ld hM ?_; refine mm_purC hM ?_ ?_)); (focus (first | exact trivial | assumption | omega)); (with_reducible (clear hM; intro _ hM; refine mm_purC hM ?_ ?_)); (focus (first | exact trivial | assumption | omega)); (with_reducible (clear hM; intro _ hM; refine mm_st hM ?_; clear hM; intro _ hM; refine rm_ld hM ?_)))
  exact ⟨rfl, hM.st⟩
instance (v : H32) (s : ByteArray) : PurC Tryz.prog 100 [.agg (u8s v.1).toArray, .string s] (s.size ≤ 1000000) (.agg (u8s (signV (verV v) (ints s)).1).toArray) := ⟨fun h w => psign_ok v s h w⟩
theorem pcheck_ok (v : H32) (s : ByteArray) (x : H32) (hs : s.size ≤ 1000000) (w : World) : Calls Tryz.prog 98 #[ha v, .string s, ha x] w fun en w' => en = .returned (.bool (decide (signV v (ints s) = x))) ∧ St w [] w' := by
  have hM := Mem.start (Fz.of w)
  refine C_prim_Check ?_
  unfold F_prim_Check
  ((with_reducible (refine mm_box hM ?_; clear hM; intro _ _ hM; refine mm_box hM ?_; clear hM; intro _ _ hM; refine dm_ld hM ?_; refine dm_purC hM ?_ (fun _ _ hM => ?_))); (focus (first | exact trivial | assumption | omega)); (with_reducible refine dm_ld ‹Mem _ _ _ _› ?_))
  try first | refine mop_c trivial ?_ | refine dp_c trivial ?_
  ((with_reducible (refine mm_end hM ?_; clear hM; intro _ hM)))
  exact ⟨rfl, hM.st⟩
instance (v : H32) (s : ByteArray) (x : H32) : PurC Tryz.prog 98 [.agg (u8s v.1).toArray, .string s, .agg (u8s x.1).toArray] (s.size ≤ 1000000) (.bool (decide (signV v (ints s) = x))) := ⟨fun h w => pcheck_ok v s x h w⟩
theorem rverify_ok (k : H32) (w : World) : Calls Tryz.prog 101 #[ha k] w fun en w' => en = .returned (.agg (u8s (verV k).1).toArray) ∧ St w [] w' := by
  have hM := Mem.start (Fz.of w)
  refine C_bevyref05_Verify ?_
  unfold F_bevyref05_Verify
  ((with_reducible (refine mm_box hM ?_; clear hM; intro _ _ hM; refine mm_new hM ?_; clear hM; intro _ _ hM; refine mm_ld hM ?_; refine mm_purC hM ?_ ?_)); (focus (first | exact trivial | assumption | omega)); (with_reducible (clear hM; intro _ hM)))
  refine mop_c (by rw [strOfNums_size, k.2.1]; decide) ?_
  have h := fun w => refsum_ok (sver ++ strOfNums k.1) w (by rw [ByteArray.size_append, strOfNums_size, k.2.1]; decide)
  rw [ints_append, ints_h] at h
  refine mm_pure hM (h _) (fun w2 hM => ?_)
  have e : hv (shaSum (ints sver ++ k.1)) = .agg (u8s (verV k).1).toArray := rfl
  rw [e]
  ((with_reducible (refine mm_st hM ?_; clear hM; intro _ hM; refine rm_ld hM ?_)))
  exact ⟨rfl, hM.st⟩
instance (k : H32) : PurC Tryz.prog 101 [.agg (u8s k.1).toArray] True (.agg (u8s (verV k).1).toArray) := ⟨fun _ w => rverify_ok k w⟩
theorem rsign_ok (v : H32) (s : ByteArray) (hs : s.size ≤ 1000000) (w : World) : Calls Tryz.prog 156 #[ha v, .string s] w fun en w' => en = .returned (.agg (u8s (signV v (ints s)).1).toArray) ∧ St w [] w' := by
  have hM := Mem.start (Fz.of w)
  refine C_bevyref05_Sign ?_
  unfold F_bevyref05_Sign
  ((with_reducible (refine mm_box hM ?_; clear hM; intro _ _ hM; refine mm_new hM ?_; clear hM; intro _ _ hM; refine mm_ld hM ?_; refine mm_purC hM ?_ ?_)); (focus (first | exact trivial | assumption | omega)); (with_reducible (clear hM; intro _ hM)))
  have h4 : (ByteArray.mk #[115, 105, 103, 110]).size = 4 := rfl
  have h5 : ssign.size = 4 := rfl
  refine mop_c (by omega) ?_
  have h := fun w => refcode_ok (strOfNums v.1) (ssign ++ s) w (by rw [strOfNums_size, v.2.1]; omega) (by rw [ByteArray.size_append]; omega)
  rw [ints_append, ints_h] at h
  refine mm_pure hM (h _) (fun w2 hM => ?_)
  have e : hv (hmac v.1 (ints ssign ++ ints s)) = .agg (u8s (signV v (ints s)).1).toArray := rfl
  rw [e]
  ((with_reducible (refine mm_st hM ?_; clear hM; intro _ hM; refine rm_ld hM ?_)))
  exact ⟨rfl, hM.st⟩
instance (v : H32) (s : ByteArray) : PurC Tryz.prog 156 [.agg (u8s v.1).toArray, .string s] (s.size ≤ 1000000) (.agg (u8s (signV v (ints s)).1).toArray) := ⟨fun h w => rsign_ok v s h w⟩
def textL (p : Prp) : List Int := p.epoch.1 ++ numB p.depth ++ numB p.author ++ numB p.seq ++ numB p.kind ++ numB p.name ++ p.pub.1
def txt (p : Prp) : ByteArray := strOfNums (textL p)
theorem textL_length (p : Prp) : (textL p).length ≤ 104 := by
  have h1 := numB_length p.depth
  have h2 := numB_length p.author
  have h3 := numB_length p.seq
  have h4 := numB_length p.kind
  have h5 := numB_length p.name
  have h6 := p.epoch.2.1
  have h7 := p.pub.2.1
  simp only [textL, List.length_append]
  omega
theorem txt_size (p : Prp) : (txt p).size ≤ 1000000 := by have := textL_length p; rw [txt, strOfNums_size]; omega
theorem right_bd {p : Prp} (h : p.right) : (0 ≤ p.depth ∧ p.depth ≤ 4611686018427387903) ∧ (0 ≤ p.author ∧ p.author ≤ 4611686018427387903) ∧ (0 ≤ p.seq ∧ p.seq ≤ 4611686018427387903) ∧ (0 ≤ p.kind ∧ p.kind ≤ 4611686018427387903) ∧ (0 ≤ p.name ∧ p.name ≤ 4611686018427387903) := by
  obtain ⟨h1, h2, h3, h4, h5⟩ := h
  have hk : p.kind = 2 ∨ p.kind = 1 ∨ p.kind = 3 := by
    by_cases hk : p.kind = 2
    · exact .inl hk
    · rw [if_neg hk] at h5
      exact .inr h5.1
  refine ⟨h1, ?_, ?_, ?_, ?_⟩ <;> omega
theorem text_ok (p : Prp) (h : p.right) (w : World) : Calls Tryz.prog 99 #[prv p] w fun en w' => en = .returned (.string (txt p)) ∧ St w [] w' := by
  obtain ⟨b1, b2, b3, b4, b5⟩ := right_bd h
  have l1 := numB_length p.depth
  have l2 := numB_length p.author
  have l3 := numB_length p.seq
  have l4 := numB_length p.kind
  have l5 := numB_length p.name
  have l6 := p.epoch.2.1
  have hM := Mem.start (Fz.of w)
  refine C_change_text ?_
  unfold F_change_text
  ((with_reducible (refine mm_box hM ?_; clear hM; intro _ _ hM)))
  rename_i b _
  refine mm_own (wnew_ok hM) ?_
  rintro v w1 ⟨g, rfl, hM⟩
  ((with_reducible (refine mop_c trivial ?_; refine mm_ld hM ?_)))
  refine mm_own (whash_ok p.epoch (by simp) (hM.at_ (wrR g [] false))) ?_
  rintro v w2 ⟨rfl, hM⟩
  rw [List.nil_append] at hM
  ((with_reducible (refine mop_c trivial ?_; refine mm_ld hM ?_; refine mop_c trivial ?_; refine mm_ld hM ?_; refine mop_c trivial ?_; refine mm_ld hM ?_; refine mop_c trivial ?_; refine mop_c trivial ?_; refine mm_ld hM ?_; refine mop_c trivial ?_; refine mop_c trivial ?_; refine mm_ld hM ?_; refine mop_c trivial ?_)))
  refine ⟨fun x w' => ∃ i : Nat, x = .int .i64 i ∧ i ≤ 5 ∧ (match i with
    | 0 => Mem (Hp.of w) w [wrR g p.epoch.1 false, fb b 87 p.fds] w'
    | 1 => Mem (Hp.of w) w [wrR g (p.epoch.1 ++ numB p.depth) false, fb b 87 p.fds] w'
    | 2 => Mem (Hp.of w) w [wrR g (p.epoch.1 ++ numB p.depth ++ numB p.author) false, fb b 87 p.fds] w'
    | 3 => Mem (Hp.of w) w [wrR g (p.epoch.1 ++ numB p.depth ++ numB p.author ++ numB p.seq) false, fb b 87 p.fds] w'
    | 4 => Mem (Hp.of w) w [wrR g (p.epoch.1 ++ numB p.depth ++ numB p.author ++ numB p.seq ++ numB p.kind) false, fb b 87 p.fds] w'
    | _ => Mem (Hp.of w) w [wrR g (p.epoch.1 ++ numB p.depth ++ numB p.author ++ numB p.seq ++ numB p.kind ++ numB p.name) false, fb b 87 p.fds] w'),
    fun x _ => match x with | .int _ i => 5 - i.toNat | _ => 0, ⟨0, rfl, by omega, hM⟩, ?_⟩
  clear hM
  rintro x u w3 ⟨i, rfl, hi, hM⟩
  ((with_reducible (refine mop_cS trivial ?_ ?_)))
  · intro hlt
    obtain rfl | rfl | rfl | rfl | rfl : i = 0 ∨ i = 1 ∨ i = 2 ∨ i = 3 ∨ i = 4 := by omega
    · have hM : Mem (Hp.of w) w _ w3 := hM
      ((with_reducible (refine mif_true ?_)))
      refine mop_pur (v := .int .i64 p.depth) (fun w => by kernel_rfl) ?_
      refine mm_own (wnum_ok p.depth b1 (by first | omega | (simp only [List.length_append]; omega)) hM) ?_
      rintro v w4 ⟨rfl, hM⟩
      ((with_reducible (refine mop_c ?_ ?_)); (focus omega))
      exact ⟨⟨1, rfl, by omega, hM⟩, by first | decide | (dsimp only; omega) | (simp; done)⟩
    · have hM : Mem (Hp.of w) w _ w3 := hM
      ((with_reducible (refine mif_true ?_)))
      refine mop_pur (v := .int .i64 p.author) (fun w => by kernel_rfl) ?_
      refine mm_own (wnum_ok p.author b2 (by first | omega | (simp only [List.length_append]; omega)) hM) ?_
      rintro v w4 ⟨rfl, hM⟩
      ((with_reducible (refine mop_c ?_ ?_)); (focus omega))
      exact ⟨⟨2, rfl, by omega, hM⟩, by first | decide | (dsimp only; omega) | (simp; done)⟩
    · have hM : Mem (Hp.of w) w _ w3 := hM
      ((with_reducible (refine mif_true ?_)))
      refine mop_pur (v := .int .i64 p.seq) (fun w => by kernel_rfl) ?_
      refine mm_own (wnum_ok p.seq b3 (by first | omega | (simp only [List.length_append]; omega)) hM) ?_
      rintro v w4 ⟨rfl, hM⟩
      ((with_reducible (refine mop_c ?_ ?_)); (focus omega))
      exact ⟨⟨3, rfl, by omega, hM⟩, by first | decide | (dsimp only; omega) | (simp; done)⟩
    · have hM : Mem (Hp.of w) w _ w3 := hM
      ((with_reducible (refine mif_true ?_)))
      refine mop_pur (v := .int .i64 p.kind) (fun w => by kernel_rfl) ?_
      refine mm_own (wnum_ok p.kind b4 (by first | omega | (simp only [List.length_append]; omega)) hM) ?_
      rintro v w4 ⟨rfl, hM⟩
      ((with_reducible (refine mop_c ?_ ?_)); (focus omega))
      exact ⟨⟨4, rfl, by omega, hM⟩, by first | decide | (dsimp only; omega) | (simp; done)⟩
    · have hM : Mem (Hp.of w) w _ w3 := hM
      ((with_reducible (refine mif_true ?_)))
      refine mop_pur (v := .int .i64 p.name) (fun w => by kernel_rfl) ?_
      refine mm_own (wnum_ok p.name b5 (by first | omega | (simp only [List.length_append]; omega)) hM) ?_
      rintro v w4 ⟨rfl, hM⟩
      ((with_reducible (refine mop_c ?_ ?_)); (focus omega))
      exact ⟨⟨5, rfl, by omega, hM⟩, by first | decide | (dsimp only; omega) | (simp; done)⟩
  · intro hge
    obtain rfl : i = 5 := by omega
    have hM : Mem (Hp.of w) w [wrR g (p.epoch.1 ++ numB p.depth ++ numB p.author ++ numB p.seq ++ numB p.kind ++ numB p.name) false, fb b 87 p.fds] w3 := hM
    ((with_reducible (refine mif_false ?_; refine mop_c trivial ?_; refine mop_c trivial ?_; refine mm_ld hM ?_)))
    refine mm_own (whash_ok p.pub (by first | omega | (simp only [List.length_append]; omega)) hM) ?_
    rintro v w4 ⟨rfl, hM⟩
    refine mm_pure hM (wend_ok hM) (fun w5 hM => ?_)
    ((with_reducible (refine mop_c trivial ?_; refine mop_c trivial ?_)))
    exact ⟨rfl, hM.st⟩
instance (p : Prp) : PurC Tryz.prog 99 [prv p] p.right (.string (txt p)) := ⟨fun h w => text_ok p h w⟩
theorem rText_ok (p : Prp) (h : p.right) (w : World) : Calls Tryz.prog 154 #[prv p] w fun en w' => en = .returned (.string (txt p)) ∧ St w [] w' := by
  obtain ⟨b1, b2, b3, b4, b5⟩ := right_bd h
  have l1 := numB_length p.depth
  have l2 := numB_length p.author
  have l3 := numB_length p.seq
  have l4 := numB_length p.kind
  have l5 := numB_length p.name
  have l6 := p.epoch.2.1
  have l7 := p.pub.2.1
  have hM := Mem.start (Fz.of w)
  refine C_bevyref10_Text ?_
  unfold F_bevyref10_Text
  ((with_reducible (refine mm_box hM ?_; clear hM; intro _ _ hM; refine dp_c trivial ?_; refine dm_ld hM ?_; refine dm_purC hM ?_ (fun _ _ hM => ?_))); (focus (first | exact trivial | assumption | omega)); (with_reducible (refine dp_c trivial ?_)); (with_reducible refine dm_ld ‹Mem _ _ _ _› ?_); (with_reducible (refine dm_purC hM ?_ (fun _ _ hM => ?_))); (focus (first | exact trivial | assumption | omega)))
  refine dp_cat _ _ (by omega) ?_
  ((with_reducible (refine dp_c trivial ?_)); (with_reducible refine dm_ld ‹Mem _ _ _ _› ?_); (with_reducible (refine dm_purC hM ?_ (fun _ _ hM => ?_))); (focus (first | exact trivial | assumption | omega)))
  refine dp_cat _ _ (by first | omega | (simp only [List.length_append]; omega)) ?_
  ((with_reducible (refine dp_c trivial ?_)); (with_reducible refine dm_ld ‹Mem _ _ _ _› ?_); (with_reducible (refine dm_purC hM ?_ (fun _ _ hM => ?_))); (focus (first | exact trivial | assumption | omega)))
  refine dp_cat _ _ (by first | omega | (simp only [List.length_append]; omega)) ?_
  ((with_reducible (refine mm_end hM ?_; clear hM; intro _ hM; refine dp_c trivial ?_; refine dp_c trivial ?_; refine dm_ld hM ?_; refine dm_purC hM ?_ (fun _ _ hM => ?_))); (focus (first | exact trivial | assumption | omega)))
  refine dp_cat _ _ (by first | omega | (simp only [List.length_append]; omega)) ?_
  ((with_reducible (refine dp_c trivial ?_; refine dp_c trivial ?_)); (with_reducible refine dm_ld ‹Mem _ _ _ _› ?_); (with_reducible (refine dm_purC hM ?_ (fun _ _ hM => ?_))); (focus (first | exact trivial | assumption | omega)))
  refine dp_cat _ _ (by first | omega | (simp only [List.length_append]; omega)) ?_
  ((with_reducible (refine dp_c trivial ?_; refine dp_c trivial ?_)); (with_reducible refine dm_ld ‹Mem _ _ _ _› ?_); (with_reducible (refine dm_purC hM ?_ (fun _ _ hM => ?_))); (focus (first | exact trivial | assumption | omega)))
  refine dp_cat _ _ (by first | omega | (simp only [List.length_append]; omega)) ?_
  ((with_reducible (refine mm_end hM ?_; clear hM; intro _ hM)))
  exact ⟨rfl, hM.st⟩
instance (p : Prp) : PurC Tryz.prog 154 [prv p] p.right (.string (txt p)) := ⟨fun h w => rText_ok p h w⟩
abbrev Prp.signed (p : Prp) (v : H32) : Prp := { p with sign := signV v (ints (txt p)) }
def signP (p : Prp) (k : H32) : Prp := if p.right then p.signed (verV k) else p
theorem csign_ok (p : Prp) (k : H32) (w : World) : Calls Tryz.prog 58 #[prv p, ha k] w fun en w' => en = .returned (prv (signP p k)) ∧ St w [] w' := by
  have hM := Mem.start (Fz.of w)
  refine C_change_Sign ?_
  unfold F_change_Sign
  have hs := txt_size p
  ((with_reducible (refine mm_box hM ?_; clear hM; intro _ _ hM; refine mm_box hM ?_; clear hM; intro _ _ hM; refine mm_new hM ?_; clear hM; intro _ _ hM)))
  rename_i b _ b2 _ b3 _
  refine ⟨fun w' => Mem (Hp.of w) w [fb b 87 (signP p k).fds, fb b3 87 [.arr 32 (u8s hzero.1), .one (.int .i64 0), .one (.int .i64 0), .one (.int .i64 0), .one (.int .i64 0), .one (.int .i64 0), .arr 32 (u8s hzero.1), .arr 32 (u8s hzero.1)]] w', ?_, ?_⟩
  · unfold signP
    by_cases h : p.right
    · ((with_reducible (refine mm_ld hM ?_; refine mm_purC hM ?_ ?_)); (focus (first | exact trivial | assumption | omega)); (with_reducible (clear hM; intro _ hM)))
      rw [decide_eq_true h, if_pos h]
      ((with_reducible (refine mif_true ?_; refine dm_ld hM ?_; refine dm_ld hM ?_; refine dm_purC hM ?_ (fun _ _ hM => ?_))); (focus (first | exact trivial | assumption | omega)); (with_reducible (refine dm_purC hM ?_ (fun _ _ hM => ?_))); (focus (first | exact trivial | assumption | omega)); (with_reducible (refine dp_c trivial ?_; refine dS_st hM ?_; clear hM; intro _ hM; refine mm_end hM ?_; clear hM; intro _ hM)))
      exact hM.sub
    · ((with_reducible (refine mm_ld hM ?_; refine mm_purC hM ?_ ?_)); (focus (first | exact trivial | assumption | omega)); (with_reducible (clear hM; intro _ hM)))
      rw [decide_eq_false h, if_neg h]
      ((with_reducible (refine mif_false ?_)))
      exact hM.sub
  · rintro u w2 hM
    ((with_reducible (refine mm_ld hM ?_; refine mm_st hM ?_; clear hM; intro _ hM; refine rm_ld hM ?_)))
    exact ⟨rfl, hM.st⟩
def Prp.checks (p : Prp) (v : H32) : Prop := p.right ∧ signV v (ints (txt p)) = p.sign
instance (p : Prp) (v : H32) : Decidable (p.checks v) := by unfold Prp.checks; infer_instance
theorem ccheck_ok (p : Prp) (v : H32) (w : World) : Calls Tryz.prog 57 #[prv p, ha v] w fun en w' => en = .returned (.bool (decide (p.checks v))) ∧ St w [] w' := by
  have hM := Mem.start (Fz.of w)
  refine C_change_Check ?_
  unfold F_change_Check
  have hs := txt_size p
  ((with_reducible (refine mm_box hM ?_; clear hM; intro _ _ hM; refine mm_box hM ?_; clear hM; intro _ _ hM; refine dm_ld hM ?_; refine dm_purC hM ?_ (fun _ _ hM => ?_))); (focus (first | exact trivial | assumption | omega)))
  by_cases h : p.right
  · rw [decide_eq_true h]
    ((with_reducible (refine qguard_yes ?_; refine dm_ld hM ?_; refine qguard_yes ?_; refine dm_ld hM ?_; refine mguard_yes ?_; refine dm_purC hM ?_ (fun _ _ hM => ?_))); (focus (first | exact trivial | assumption | omega)); (with_reducible (refine qguard_yes ?_; refine dp_c trivial ?_; refine qguard_yes ?_)); (with_reducible refine dm_ld ‹Mem _ _ _ _› ?_); (with_reducible (refine mguard_yes ?_; refine dm_purC hM ?_ (fun _ _ hM => ?_))); (focus (first | exact trivial | assumption | omega)); (with_reducible (refine dp_c trivial ?_; refine mm_end hM ?_; clear hM; intro _ hM)))
    try first | refine mop_c trivial ?_ | refine dp_c trivial ?_
    skip
    exact ⟨by simp [Prp.checks, h], hM.st⟩
  · rw [decide_eq_false h]
    ((with_reducible (refine qguard_n2 ?_; refine qguard_n2 ?_; refine mguard_n2 ?_; refine qguard_n2 ?_; refine qguard_n2 ?_; refine mguard_n2 ?_; refine dp_c trivial ?_; refine mm_end hM ?_; clear hM; intro _ hM)))
    exact ⟨by simp [Prp.checks, h], hM.st⟩
theorem rcheck_ok (p : Prp) (v : H32) (w : World) : Calls Tryz.prog 136 #[prv p, ha v] w fun en w' => en = .returned (.bool (decide (p.checks v))) ∧ St w [] w' := by
  have hM := Mem.start (Fz.of w)
  refine C_bevyref10_Check ?_
  unfold F_bevyref10_Check
  have hs := txt_size p
  ((with_reducible (refine mm_box hM ?_; clear hM; intro _ _ hM; refine mm_box hM ?_; clear hM; intro _ _ hM; refine dm_ld hM ?_; refine dm_purC hM ?_ (fun _ _ hM => ?_))); (focus (first | exact trivial | assumption | omega)))
  by_cases h : p.right
  · rw [decide_eq_true h]
    ((with_reducible (refine qguard_yes ?_; refine dp_c trivial ?_; refine qguard_yes ?_; refine dm_ld hM ?_; refine qguard_yes ?_; refine dm_ld hM ?_; refine qguard_yes ?_; refine dm_ld hM ?_; refine mguard_yes ?_; refine dm_purC hM ?_ (fun _ _ hM => ?_))); (focus (first | exact trivial | assumption | omega)); (with_reducible (refine mguard_yes ?_; refine dm_purC hM ?_ (fun _ _ hM => ?_))); (focus (first | exact trivial | assumption | omega)); (with_reducible (refine qguard_yes ?_)))
    try first | refine mop_c trivial ?_ | refine dp_c trivial ?_
    ((with_reducible (refine dp_c trivial ?_; refine mm_end hM ?_; clear hM; intro _ hM)))
    exact ⟨by simp [Prp.checks, h, eq_comm], hM.st⟩
  · rw [decide_eq_false h]
    ((with_reducible ((iterate 4 refine qguard_n2 ?_); refine mguard_n2 ?_; refine mguard_n2 ?_; refine qguard_n2 ?_; refine dp_c trivial ?_; refine mm_end hM ?_; clear hM; intro _ hM)))
    exact ⟨by simp [Prp.checks, h], hM.st⟩
instance (p : Prp) (k : H32) : PurC Tryz.prog 57 [prv p, .agg (u8s k.1).toArray] True (.bool (decide (p.checks k))) := ⟨fun _ w => ccheck_ok p k w⟩
instance (p : Prp) (k : H32) : PurC Tryz.prog 136 [prv p, .agg (u8s k.1).toArray] True (.bool (decide (p.checks k))) := ⟨fun _ w => rcheck_ok p k w⟩
def packB (p : Prp) : ByteArray := strOfNums (textL p ++ p.sign.1)
abbrev es0 : ByteArray := ByteArray.mk #[]
end
end Go.Proofs.YtopcnkejobomaaaGreat.Chg
namespace Go.Proofs.YtopcnkejobomaaaGreat.Chg
open Go.RowKit
abbrev pA : Prp := ⟨hzero, 0, 3, 1, 2, 3, hzero, hzero⟩
abbrev pB : Prp := ⟨hzero, 0, 3, 2, 3, 2, hzero, hzero⟩
abbrev p0 : Prp := ⟨hzero, 0, 0, 0, 0, 0, hzero, hzero⟩
theorem checks_signed (p : Prp) (k : H32) (h : p.right) : (p.signed (verV k)).checks (verV k) := ⟨h, rfl⟩
theorem lt_irr (p : Prp) : ¬ p.lt p := by unfold Prp.lt; omega
section
variable {H : Hp} {w0 w : World} {L R : List Res} {g : Nat}
theorem lverify_ok (k : H32) (w : World) : Calls Tryz.prog 59 #[ha k] w fun en w' => en = .returned (.agg (u8s (verV k).1).toArray) ∧ St w [] w' := by
  have hM := Mem.start (Fz.of w)
  refine C_bevylaw10_verify ?_
  unfold F_bevylaw10_verify
  ((with_reducible (refine mm_box hM ?_; clear hM; intro _ _ hM; refine mm_new hM ?_; clear hM; intro _ _ hM; refine mm_ld hM ?_; refine mm_purC hM ?_ ?_)); (focus (first | exact trivial | assumption | omega)); (with_reducible (clear hM; intro _ hM; refine mm_st hM ?_; clear hM; intro _ hM; refine rm_ld hM ?_)))
  exact ⟨rfl, hM.st⟩
instance (k : H32) : PurC Tryz.prog 59 [.agg (u8s k.1).toArray] True (.agg (u8s (verV k).1).toArray) := ⟨fun _ w => lverify_ok k w⟩
theorem awake_ok (w : World) : Calls Tryz.prog 22 #[] w fun en w' => en = .returned (.bool true) ∧ St w [] w' := by
  have hM := Mem.start (Fz.of w)
  refine C_bevylaw10_awake ?_
  unfold F_bevylaw10_awake
  ((with_reducible (refine mop_c trivial ?_; refine mop_c trivial ?_; refine mm_new hM ?_; clear hM; intro _ _ hM; refine mm_st hM ?_; clear hM; intro _ hM; refine mop_c trivial ?_; refine mop_c trivial ?_; refine mm_new hM ?_; clear hM; intro _ _ hM; refine mm_st hM ?_; clear hM; intro _ hM; refine mop_c ?_ ?_)); (focus (simp only [and_true]; omega)); (with_reducible (refine mm_new hM ?_; clear hM; intro _ _ hM; refine mm_st hM ?_; clear hM; intro _ hM; refine dm_ld hM ?_; refine dm_ld hM ?_)))
  refine dm_pure hM (fun w _ => less_ok pA pB w) (fun w2 _ hM => ?_)
  rw [decide_eq_true (show pA.lt pB by decide)]
  ((with_reducible (refine qguard_yes ?_; refine dm_ld hM ?_; refine qguard_yes ?_; refine dm_ld hM ?_; refine mguard_yes ?_)))
  refine dm_pure hM (fun w _ => less_ok pB pA w) (fun w2 _ hM => ?_)
  rw [decide_eq_false (show ¬ pB.lt pA by decide)]
  ((with_reducible (refine qguard_yes ?_; refine dp_c trivial ?_; refine dp_c trivial ?_; refine qguard_yes ?_; refine dm_ld hM ?_; refine qguard_yes ?_; refine dm_ld hM ?_; refine mguard_yes ?_)))
  refine dm_pure hM (fun w _ => csign_ok pA (hset hzero 0 1) w) (fun w2 _ hM => ?_)
  have hA : pA.right := by decide
  unfold signP
  rw [if_pos hA]
  ((with_reducible (refine qguard_yes ?_)); (with_reducible refine dm_ld ‹Mem _ _ _ _› ?_); (with_reducible (refine mguard_yes ?_; refine dm_purC hM ?_ (fun _ _ hM => ?_))); (focus (first | exact trivial | assumption | omega)); (with_reducible (refine mguard_yes ?_)))
  refine dm_pure hM (fun w _ => ccheck_ok (pA.signed (verV (hset hzero 0 1))) (verV (hset hzero 0 1)) w) (fun w2 _ hM => ?_)
  rw [decide_eq_true (checks_signed pA (hset hzero 0 1) hA)]
  ((with_reducible (refine dp_c trivial ?_; refine qguard_yes ?_; refine dm_ld hM ?_; refine mguard_yes ?_)))
  refine dm_pure hM (fun w _ => right_ok pB w) (fun w2 _ hM => ?_)
  rw [decide_eq_true (show pB.right by decide)]
  ((with_reducible (refine dp_c trivial ?_; refine qguard_yes ?_; refine dp_c trivial ?_; refine mguard_yes ?_)))
  refine dm_pure hM (fun w _ => right_ok p0 w) (fun w2 _ hM => ?_)
  rw [decide_eq_false (show ¬ p0.right by decide)]
  ((with_reducible (refine qguard_yes ?_; refine dp_c trivial ?_; refine dp_c trivial ?_; refine mm_end hM ?_; clear hM; intro _ hM)))
  exact ⟨rfl, hM.st⟩
instance : PurC Tryz.prog 22 [] True (.bool true) := ⟨fun _ w => awake_ok w⟩
end
end Go.Proofs.YtopcnkejobomaaaGreat.Chg
namespace Go.Proofs.YtopcnkejobomaaaGreat
open Go.RowKit Go.Lib
abbrev crd (c : H32 × H32) : List Fd := [.arr 32 (u8s c.1.1), .arr 32 (u8s c.2.1)]
structure Pers where
  ver : H32
  cards : List (H32 × H32)
abbrev Pers.row (p : Pers) (C : Option Addr) (c : Nat) : List Fd := [.arr 32 (u8s p.ver.1), .one (.slice C p.cards.length c)]
def PsF (H : Hp) (q : List Fd) (p : Pers) : Prop := ∃ C c, q = p.row C c ∧ Sl H 64 C (p.cards.map crd) ∧ p.cards.length ≤ maxLen
abbrev tis (l : List Int) : List Value := l.map (Value.int .i64)
def persAt (roll : List Pers) (nm : Int) : Pers := roll.getD (nm - 1).toNat ⟨hzero, []⟩
abbrev Ti := {l : List Int // l.length = 64}
def Ti.zero : Ti := ⟨List.replicate 64 0, rfl⟩
def Ti.set (t : Ti) (i : Nat) (x : Int) : Ti := ⟨t.1.set i x, by rw [List.length_set]; exact t.2⟩
instance (t : Ti) : FdOk (.arr 64 (tis t.1)) := ⟨by simp [Fd.cells, Fd.size, t.2], fun u hu => by
  obtain ⟨x, _, rfl⟩ := List.mem_map.1 hu
  rfl⟩
def timeAt (ti : Ti) (nm : Int) : Int := ti.1.getD (nm - 1).toNat 0
def cardR (ti : Ti) (roll : List Pers) (nm : Int) : (H32 × H32) × Int :=
  if ¬ (1 ≤ nm ∧ nm ≤ 64) ∨ (roll.length : Int) < nm then ((hzero, hzero), 7)
  else if timeAt ti nm < 0 ∨ ((persAt roll nm).cards.length : Int) ≤ timeAt ti nm then ((hzero, hzero), 10)
  else ((persAt roll nm).cards.getD (timeAt ti nm).toNat (hzero, hzero), 0)
def leafR (ti : Ti) (roll : List Pers) (nm : Int) : Lf := if (cardR ti roll nm).2 = 0 then ⟨nm, (cardR ti roll nm).1.2, (persAt roll nm).ver, hzero⟩ else Lf.zero
structure Ap where
  t : Tr
  ti : Ti
  fr : List Int
def Ap.step (roll : List Pers) (s : Ap) (p : Chg.Prp) : Ap × Int :=
  if p.kind = 2 then (⟨(s.t.renR (s.t.place p.name) p.pub).1, s.ti, s.fr⟩, (s.t.renR (s.t.place p.name) p.pub).2)
  else if p.kind = 3 then (⟨(s.t.remR (s.t.place p.name)).1, s.ti, s.fr⟩, (s.t.remR (s.t.place p.name)).2)
  else if p.kind = 1 then
    if (cardR s.ti roll p.name).2 ≠ 0 then (s, (cardR s.ti roll p.name).2)
    else
      let r := s.t.addR ⟨p.name, (cardR s.ti roll p.name).1.2, (persAt roll p.name).ver, hzero⟩
      if r.2.2 ≠ 0 then (⟨r.1, s.ti, s.fr⟩, r.2.2) else (⟨r.1, s.ti.set (p.name - 1).toNat (timeAt s.ti p.name + 1), s.fr ++ [r.2.1]⟩, 0)
  else (s, 7)
def Ap.none : Ap := ⟨Tr.none, Ti.zero, []⟩
def Ap.run (roll : List Pers) : Ap → List Chg.Prp → Ap × Int
  | s, [] => (s, 0)
  | s, p :: r => if (s.step roll p).2 ≠ 0 then (Ap.none, (s.step roll p).2) else (s.step roll p).1.run roll r
end Go.Proofs.YtopcnkejobomaaaGreat
namespace Go.Proofs.YtopcnkejobomaaaGreat
open Go.RowKit
section
variable {P : Program} {H K : Hp} {w0 w w' : World} {L R : List Res} {t : TypeId} {fs : List Fd} {Kt : Value → World → Prop} {X : List PanicEntry → World → Prop}
theorem dS_call {f : Nat} {args : List Value} {ext : Bool} {S : Nat → Prop} {Q : Hp → Value → Prop} (h : Mem H w0 L w) [hf : FunC P f] (hc : ∀ w, Mem H w0 L w → Calls P f args.toArray w (Outp H w Q)) (hk : ∀ H' v w', Le w0 H H' → Mem H' w0 L w' → Q H' v → Kt v w') : dfS P (Rl.only S) w (o_call (fv f) args) ext Kt :=
  ⟨fun w1 hd => mop_to (hc w1 (h.drawn hd)) fun en w' ⟨v, H', he, hl, hm, hq⟩ => by
    subst he
    have hx := hd.ext.trans hm.ext
    exact ⟨fun _ => hx.mono (fun _ _ h => h.elim), hk H' v w' (hl.old (h.drawn hd).ext.size) ((h.drawn hd).call hm hl.new) hq⟩⟩
theorem dK_new {e : Bool} (h : Mem H w0 L w) [z : ZerF P t fs] (hF : Fz K w) (hk : ∀ g w', K g = none → Mem H w0 (fb g t fs :: L) w' → Fz K w' → Kt (.pointer (some ⟨g, 0, none⟩)) w') : dfS P (Rl.fz K) w (o_alloc t) e Kt := by
  obtain ⟨hz, hf⟩ := z.ok
  refine ⟨fun w1 hd => ?_⟩
  have hx := hd.ext.trans ((Only.refl (fun _ => False) w1).alloc (.cells (fl fs).toArray t))
  have hn : K w1.heap.size = none := by
    cases hh : K w1.heap.size with
    | none => rfl
    | some c => exact absurd ((hF.ext hd.ext).lt hh) (Nat.lt_irrefl _)
  refine mop_run ?_ ⟨fun _ _ => hF.ext hx, hk _ _ hn ((h.drawn hd).alloc t hf) (hF.ext hx)⟩
  unfold zer at hz
  cases hi : P.info? t with
  | none => simp [hi] at hz
  | some i =>
    cases hzz : i.zero with
    | none => simp [hi, hzz] at hz
    | some z =>
      simp [hi, hzz] at hz
      simp [o_alloc, sv, Instr.alloc, zeroValue, typeInfo, hi, hzz, newVar, newRow, go_sem, ← hz]
theorem dK_st {tt : TypeId} {q e : Bool} {n i k : Nat} {v : Value} {gs fs' : List Fd} {put : Res → List Res} (h : Mem H w0 L w) [c : ShpC P t q n] [a : AtB L k tt fs put] [f : Vf v n gs] [p : Put fs i gs fs'] (hF : Fz K w) (hn : K k = none) (hk : ∀ w', Mem H w0 (put (fb k tt fs')) w' → Fz K w' → Kt undef w') :
    dfS P (Rl.fz K) w (o_store t (.pointer (some ⟨k, i, none⟩)) v) e Kt := ⟨fun w1 hd => by
  refine mop_mono ((dS_stX (K := fun u w2 => u = undef ∧ Mem H w0 (put (fb k tt fs')) w2) h fun w2 h2 => ⟨rfl, h2⟩).out w1 hd) ?_ (fun _ _ h => h)
  rintro u w2 ⟨h1, rfl, h2⟩
  have ho := h1 rfl
  have hz : Fz K w2 := hF.same fun b c hb => ho.block _ (hF.lt hb) (by
    rintro rfl
    rw [hn] at hb
    cases hb)
  exact ⟨fun _ _ => hz, hk w2 h2 hz⟩⟩
theorem dK_lda {g o j n : Nat} {ls : List Value} {v : Value} {putA : List Value → List Fd} {Kq : Value → Prop} (hF : Fz K w) (h : FbF K g fs) [cc : ShpC P t false 1] [s : SubA fs o n ls putA] (hv : ls[j]? = some v) (hk : Kq v) : dqS P (Rl.fz K) w (o_load t (.pointer (some ⟨g, o + j, none⟩))) Kq :=
  ⟨v, fun w' hw => by
    obtain ⟨c', h1, h2⟩ := h.at_
    have := pw_load1 (P := P) (w := w') (a := ⟨g, o + j, none⟩) (v := v) cc.ok (by rw [(hw hF).cell h1]; exact h2 _ _ (s.cell h.ok hv))
    unfold opq
    rw [this]
    exact ⟨rfl, Drawn.refl w'⟩, hk⟩
end
end Go.Proofs.YtopcnkejobomaaaGreat
namespace Go.Proofs.YtopcnkejobomaaaGreat
open Go.RowKit Go.Lib
theorem persAt_get {roll : List Pers} {nm : Int} (h : 1 ≤ nm ∧ nm ≤ roll.length) : persAt roll nm = roll[(nm - 1).toNat]'(by omega) := by
  unfold persAt
  rw [List.getD_eq_getElem?_getD, List.getElem?_eq_getElem (by omega)]
  rfl
theorem tis_at {ti : Ti} {nm : Int} (h : 1 ≤ nm ∧ nm ≤ 64) : (tis ti.1)[(nm - 1).toNat]? = some (.int .i64 (timeAt ti nm)) := by
  have hl : (nm - 1).toNat < ti.1.length := by rw [ti.2]; omega
  unfold timeAt
  rw [List.getElem?_map, List.getElem?_eq_getElem hl, List.getD_eq_getElem?_getD, List.getElem?_eq_getElem hl]
  rfl
section
variable {H : Hp} {w0 w : World} {L R : List Res} {A K : Option Addr} {a : Nat} {qs : List (List Fd)}
theorem rcard_ok (ti : Ti) (roll : List Pers) (nm : Int) (h1 : Sl H 33 A qs) (h2 : All2 (PsF H) qs roll) (hl : roll.length ≤ maxLen) (hf : Fz H w) :
    Calls Tryz.prog 137 #[.agg (tis ti.1).toArray, .slice A roll.length a, .int .i64 nm] w fun en w' => en = .returned (.tuple #[.agg (fl (crd (cardR ti roll nm).1)).toArray, .int .i64 (cardR ti roll nm).2]) ∧ St w [] w' := by
  have hM := Mem.start hf
  have hl' : roll.length ≤ 9223372036854775807 := hl
  have hq : qs.length = roll.length := h2.len
  refine C_bevyref10_Card ?_
  unfold F_bevyref10_Card
  ((with_reducible (refine mm_box hM ?_; clear hM; intro _ _ hM; refine mm_new hM ?_; clear hM; intro _ _ hM)))
  refine ⟨fun v w' => v = .bool (decide (¬ (1 ≤ nm ∧ nm ≤ 64) ∨ (roll.length : Int) < nm)) ∧ hM.now w', ?_, ?_⟩
  · ((with_reducible (refine mop_cS trivial ?_ ?_)))
    · intro c
      ((with_reducible (refine mguard_n1 ?_; refine mguard_n1 ?_; refine mop_c trivial ?_; (iterate 4 refine mguard_n1 ?_); refine mop_c trivial ?_)))
      exact ⟨by rw [decide_eq_true (by omega)], hM⟩
    · intro c
      ((with_reducible (refine mguard_yes ?_; refine mop_c trivial ?_; refine mguard_yes ?_)))
      ((with_reducible (refine mop_cS trivial ?_ ?_)))
      · intro c2
        ((with_reducible (refine mop_c trivial ?_; (iterate 4 refine mguard_n1 ?_); refine mop_c trivial ?_)))
        exact ⟨by rw [decide_eq_true (by omega)], hM⟩
      · intro c2
        ((with_reducible (refine mop_c trivial ?_; refine mguard_yes ?_; refine mop_c trivial ?_; refine mguard_yes ?_; refine mop_c trivial ?_; refine mguard_yes ?_; refine mop_c trivial ?_; refine mguard_yes ?_)))
        refine ⟨?_, hM⟩
        rw [if_neg (by simp), Value.bool.injEq, decide_eq_decide]
        omega
  rintro v u w2 ⟨rfl, hM⟩
  by_cases c : ¬ (1 ≤ nm ∧ nm ≤ 64) ∨ (roll.length : Int) < nm
  · have e : cardR ti roll nm = ((hzero, hzero), 7) := if_pos c
    rw [decide_eq_true c, e]
    ((with_reducible (refine mif_true ?_; refine mop_c trivial ?_; refine mm_st hM ?_; clear hM; intro _ hM; refine rm_ld hM ?_)))
    exact ⟨rfl, hM.st⟩
  rw [decide_eq_false c]
  have hnm : 1 ≤ nm ∧ nm ≤ 64 := by omega
  have hnr : nm ≤ roll.length := by omega
  have hix : (nm - 1).toNat < roll.length := by omega
  obtain ⟨q, hq1, C, cc, rfl, hC, hcl⟩ := h2.at_ (i := (nm - 1).toNat) hix
  have hpa : persAt roll nm = roll[(nm - 1).toNat] := persAt_get ⟨hnm.1, hnr⟩
  rw [← hpa] at hq1 hC hcl
  have hta := tis_at (ti := ti) hnm
  ((with_reducible (refine mif_false ?_; refine mop_c ?_ ?_)); (focus omega); (with_reducible (refine mop_c ?_ ?_)); (focus omega))
  refine mm_lda hM hta ?_
  refine ⟨fun v w' => v = .bool (decide (timeAt ti nm < 0 ∨ ((persAt roll nm).cards.length : Int) ≤ timeAt ti nm)) ∧ hM.now w', ?_, ?_⟩
  · skip
    ((with_reducible (refine mop_cS trivial ?_ ?_)))
    · intro c1
      ((with_reducible ((iterate 9 refine mguard_n1 ?_); refine mop_c trivial ?_)))
      exact ⟨by rw [decide_eq_true (.inl c1)], hM⟩
    · intro c1
      ((with_reducible (refine mguard_yes ?_; refine mop_c trivial ?_; refine mguard_yes ?_; refine mop_c trivial ?_; refine mguard_yes ?_; refine mop_c trivial ?_; refine mguard_yes ?_; refine mop_c ?_ ?_)); (focus omega); (with_reducible (refine mguard_yes ?_)))
      refine mm_ixs h1 (by omega) hq.symm (fun bb oo hB => ?_)
      cases hB
      ((with_reducible (refine mguard_yes ?_; refine mop_c trivial ?_; refine mguard_yes ?_)))
      refine mm_lds hM h1 hq1 ?_
      ((with_reducible (refine mguard_yes ?_; refine mop_c trivial ?_; refine mguard_yes ?_)))
      refine ⟨?_, hM⟩
      rw [if_neg (by simp), Value.bool.injEq, decide_eq_decide]
      omega
  rintro v u w3 ⟨rfl, hM⟩
  by_cases c2 : timeAt ti nm < 0 ∨ ((persAt roll nm).cards.length : Int) ≤ timeAt ti nm
  · have e : cardR ti roll nm = ((hzero, hzero), 10) := by
      unfold cardR
      rw [if_neg c, if_pos c2]
    rw [decide_eq_true c2, e]
    ((with_reducible (refine mif_true ?_; refine mop_c trivial ?_; refine mm_st hM ?_; clear hM; intro _ hM; refine rm_ld hM ?_)))
    exact ⟨rfl, hM.st⟩
  rw [decide_eq_false c2]
  have hci : (timeAt ti nm).toNat < (persAt roll nm).cards.length := by omega
  have e : cardR ti roll nm = ((persAt roll nm).cards[(timeAt ti nm).toNat], 0) := by
    unfold cardR
    rw [if_neg c, if_neg c2, List.getD_eq_getElem?_getD, List.getElem?_eq_getElem hci]
    rfl
  rw [e]
  ((with_reducible (refine mif_false ?_; refine mop_c ?_ ?_)); (focus omega))
  refine mm_ixs h1 (by omega) hq.symm (fun bb oo hB => ?_)
  cases hB
  ((with_reducible (refine mop_c trivial ?_)))
  refine mm_lds hM h1 hq1 ?_
  ((with_reducible refine mm_ixs ‹_› ?_ ?_ ?_); (focus (simp only [List.length_map]; omega)); (focus (simp only [List.length_map]; first | done | omega)); (with_reducible (intro _ _ hA)); (cases hA); (with_reducible refine mm_lds0 hM ‹_› (map_at ?_) ?_); (focus omega); (with_reducible (refine mm_st hM ?_; clear hM; intro _ hM; refine rm_ld hM ?_)))
  exact ⟨rfl, hM.st⟩
theorem card_ok (ti : Ti) (roll : List Pers) (nm : Int) (h1 : Sl H 33 A qs) (h2 : All2 (PsF H) qs roll) (hl : roll.length ≤ maxLen) (hf : Fz H w) :
    Calls Tryz.prog 70 #[.agg (tis ti.1).toArray, .slice A roll.length a, .int .i64 nm] w fun en w' => en = .returned (.tuple #[lv (leafR ti roll nm), .int .i64 (cardR ti roll nm).2]) ∧ St w [] w' := by
  have hM := Mem.start hf
  have hl' : roll.length ≤ 9223372036854775807 := hl
  have hq : qs.length = roll.length := h2.len
  refine C_change_card ?_
  unfold F_change_card
  ((with_reducible (refine mm_box hM ?_; clear hM; intro _ _ hM; refine mm_new hM ?_; clear hM; intro _ _ hM)))
  rename_i gx _ g6 _
  refine ⟨fun v w' => v = .bool (decide (¬ (1 ≤ nm ∧ nm ≤ 64) ∨ (roll.length : Int) < nm)) ∧ hM.now w', ?_, ?_⟩
  · ((with_reducible (refine mm_purC hM ?_ (fun _ hM2 => ?_))); (focus (first | exact trivial | assumption | omega)); (with_reducible (replace hM := hM2; clear hM2; refine mop_c trivial ?_)))
    by_cases c : 1 ≤ nm ∧ nm ≤ 64
    · rw [decide_eq_true c, Bool.not_true]
      ((with_reducible (refine mguard_yes ?_; refine mop_c trivial ?_; refine mguard_yes ?_; refine mop_c trivial ?_; refine mguard_yes ?_; refine mop_c trivial ?_; refine mguard_yes ?_)))
      refine ⟨?_, hM⟩
      rw [if_neg (by simp), Value.bool.injEq, decide_eq_decide]
      omega
    · rw [decide_eq_false c, Bool.not_false]
      ((with_reducible ((iterate 4 refine mguard_n1 ?_); refine mop_c trivial ?_)))
      exact ⟨by rw [decide_eq_true (.inl c)], hM⟩
  rintro v u w2 ⟨rfl, hM⟩
  by_cases c : ¬ (1 ≤ nm ∧ nm ≤ 64) ∨ (roll.length : Int) < nm
  · have e : cardR ti roll nm = ((hzero, hzero), 7) := if_pos c
    have e2 : leafR ti roll nm = Lf.zero := by
      unfold leafR
      rw [e]
      rfl
    rw [decide_eq_true c, e, e2]
    ((with_reducible (refine mif_true ?_; refine mop_c trivial ?_; refine mm_st hM ?_; clear hM; intro _ hM; refine rm_ld hM ?_)))
    exact ⟨rfl, hM.st⟩
  rw [decide_eq_false c]
  have hnm : 1 ≤ nm ∧ nm ≤ 64 := by omega
  have hnr : nm ≤ roll.length := by omega
  have hix : (nm - 1).toNat < roll.length := by omega
  obtain ⟨q, hq1, C, cc, rfl, hC, hcl⟩ := h2.at_ (i := (nm - 1).toNat) hix
  have hpa : persAt roll nm = roll[(nm - 1).toNat] := persAt_get ⟨hnm.1, hnr⟩
  rw [← hpa] at hq1 hC hcl
  have hta := tis_at (ti := ti) hnm
  ((with_reducible (refine mif_false ?_)))
  refine ⟨Rl.fz (Hp.of w2), ?_⟩
  have hF := Fz.of w2
  have l2 : H.le (Hp.of w2) := le_of hM.fz
  have hB := hM.readsB (g := gx)
  ((with_reducible (refine dp_c ?_ ?_)); (focus omega))
  refine dp_ixs h1 (by omega) hq.symm (fun bb oo hB => ?_)
  cases hB
  refine dK_lds0 hF (h1.mono l2) hq1 ?_
  ((with_reducible (refine dp_c ?_ ?_)); (focus omega); (with_reducible (refine dp_c ?_ ?_)); (focus omega))
  refine dK_lda hF hB hta ?_
  refine dK_new hM hF ?_
  clear hM
  intro g8 w3 hn hM hF
  refine dK_st hM hF hn ?_
  clear hM
  intro w4 hM hF
  ((with_reducible (refine mm_end hM ?_; clear hM; intro _ hM)))
  refine ⟨fun v w' => v = .bool (decide (timeAt ti nm < 0 ∨ ((persAt roll nm).cards.length : Int) ≤ timeAt ti nm)) ∧ hM.now w', ?_, ?_⟩
  · skip
    ((with_reducible (refine mop_cS trivial ?_ ?_)))
    · intro c1
      ((with_reducible ((iterate 5 refine mguard_n1 ?_); refine mop_c trivial ?_)))
      exact ⟨by rw [decide_eq_true (.inl c1)], hM⟩
    · intro c1
      ((with_reducible (refine mguard_yes ?_; refine mop_c trivial ?_; refine mguard_yes ?_; refine mop_c trivial ?_; refine mguard_yes ?_; refine mm_ld hM ?_; refine mguard_yes ?_; refine mop_c trivial ?_; refine mguard_yes ?_)))
      refine ⟨?_, hM⟩
      rw [if_neg (by simp), Value.bool.injEq, decide_eq_decide]
      omega
  rintro v u w5 ⟨rfl, hM⟩
  by_cases c2 : timeAt ti nm < 0 ∨ ((persAt roll nm).cards.length : Int) ≤ timeAt ti nm
  · have e : cardR ti roll nm = ((hzero, hzero), 10) := by
      unfold cardR
      rw [if_neg c, if_pos c2]
    have e2 : leafR ti roll nm = Lf.zero := by
      unfold leafR
      rw [e]
      rfl
    rw [decide_eq_true c2, e, e2]
    ((with_reducible (refine mif_true ?_; refine mop_c trivial ?_; refine mm_st hM ?_; clear hM; intro _ hM; refine rm_ld hM ?_)))
    exact ⟨rfl, hM.st⟩
  rw [decide_eq_false c2]
  have hci : (timeAt ti nm).toNat < (persAt roll nm).cards.length := by omega
  have e : cardR ti roll nm = ((persAt roll nm).cards[(timeAt ti nm).toNat], 0) := by
    unfold cardR
    rw [if_neg c, if_neg c2, List.getD_eq_getElem?_getD, List.getElem?_eq_getElem hci]
    rfl
  have e2 : leafR ti roll nm = ⟨nm, (persAt roll nm).cards[(timeAt ti nm).toNat].2, (persAt roll nm).ver, hzero⟩ := by
    unfold leafR
    rw [e]
    rfl
  rw [e, e2]
  ((with_reducible (refine mif_false ?_; refine dp_c trivial ?_; refine dm_ld hM ?_)); (with_reducible refine dp_ixs ‹_› ?_ ?_ ?_); (focus (simp only [List.length_map]; omega)); (focus (simp only [List.length_map]; first | done | omega)); (with_reducible (intro _ _ hA)); (cases hA); (with_reducible (refine dp_c trivial ?_)); (with_reducible refine dm_lds hM ‹_› (map_at ?_) ?_); (focus omega); (with_reducible (refine dp_c trivial ?_; refine dm_ld hM ?_; refine dp_c trivial ?_; refine dS_st hM ?_; clear hM; intro _ hM; refine mm_end hM ?_; clear hM; intro _ hM; refine rm_ld hM ?_)))
  exact ⟨rfl, hM.st⟩
end
end Go.Proofs.YtopcnkejobomaaaGreat
namespace Go.Proofs.YtopcnkejobomaaaGreat
open Go.RowKit Go.Lib
theorem Ap.step_rt {roll : List Pers} {s : Ap} {p : Chg.Prp} (h : s.t.Rt) (h0 : (s.step roll p).2 = 0) : (s.step roll p).1.t.Rt := by
  unfold Ap.step at h0 ⊢
  by_cases k2 : p.kind = 2
  · rw [if_pos k2] at h0 ⊢
    exact ren_rt h _ _ h0
  rw [if_neg k2] at h0 ⊢
  by_cases k3 : p.kind = 3
  · rw [if_pos k3] at h0 ⊢
    exact rem_rt h _ h0
  rw [if_neg k3] at h0 ⊢
  by_cases k1 : p.kind = 1
  · rw [if_pos k1] at h0 ⊢
    by_cases c1 : (cardR s.ti roll p.name).2 ≠ 0
    · rw [if_pos c1] at h0
      exact absurd h0 c1
    rw [if_neg c1] at h0 ⊢
    generalize (⟨p.name, (cardR s.ti roll p.name).1.2, (persAt roll p.name).ver, hzero⟩ : Lf) = lf at h0 ⊢
    simp only at h0 ⊢
    by_cases c2 : (s.t.addR lf).2.2 ≠ 0
    · rw [if_pos c2] at h0
      exact absurd h0 c2
    rw [if_neg c2]
    exact add_rt h _ (Decidable.of_not_not c2)
  · rw [if_neg k1] at h0
    cases h0
theorem Ap.step_fr {roll : List Pers} {s : Ap} {p : Chg.Prp} : (s.step roll p).1.fr.length ≤ s.fr.length + 1 := by
  unfold Ap.step
  split
  · simp
  split
  · simp
  split
  · split
    · simp
    · simp only
      split <;> simp
  · simp
theorem card_parts {ti : Ti} {roll : List Pers} {nm : Int} (h : (cardR ti roll nm).2 = 0) : (1 ≤ nm ∧ nm ≤ 64) ∧ nm ≤ roll.length ∧ 0 ≤ timeAt ti nm ∧ timeAt ti nm < (persAt roll nm).cards.length ∧ cardR ti roll nm = ((persAt roll nm).cards.getD (timeAt ti nm).toNat (hzero, hzero), 0) := by
  unfold cardR at h ⊢
  by_cases c1 : ¬ (1 ≤ nm ∧ nm ≤ 64) ∨ (roll.length : Int) < nm
  · rw [if_pos c1] at h
    cases h
  rw [if_neg c1] at h ⊢
  by_cases c2 : timeAt ti nm < 0 ∨ ((persAt roll nm).cards.length : Int) ≤ timeAt ti nm
  · rw [if_pos c2] at h
    cases h
  rw [if_neg c2]
  exact ⟨by omega, by omega, by omega, by omega, rfl⟩
theorem Tr.sound_eq {t : Tr} (h : t.Rt) : t.sound = t := if_pos (Tr.rt.2 h)
theorem PsF.mono {H H' : Hp} {q : List Fd} {p : Pers} (h : PsF H q p) (k : H.le H') : PsF H' q p := by
  obtain ⟨C, c, e, h1, h2⟩ := h
  exact ⟨C, c, e, h1.mono k, h2⟩
def appR (t : Tr) (ti : Ti) (roll : List Pers) (l : List Chg.Prp) : Ap × Int := if ¬ t.right = true then (Ap.none, 1) else (⟨t, ti, []⟩ : Ap).run roll l
section
variable {H : Hp} {w0 w : World} {L R : List Res} {A K : Option Addr} {a kc : Nat} {qs : List (List Fd)} {v : Value}
theorem place_c2 {t : Tr} (x : Int) (hR : t.Rt) (h : TrF H v t) (hf : Fz H w) : Calls Tryz.prog 9 #[v, .int .i64 x] w fun en w' => en = .returned (.int .i64 (t.place x)) ∧ St w [] w' := by
  obtain ⟨A, a, B, b, q, rfl, h1, h2, h3⟩ := h.ex
  have := place_ok (a := a) (b := b) x h1 h2 h3 h.len.1 h.len.2 hf
  rwa [Tr.sound_eq hR] at this
theorem capply_ok (t : Tr) (ti : Ti) (roll : List Pers) (l : List Chg.Prp) (hl : l.length ≤ 1000) (h : TrF H v t) (h1 : Sl H 33 A qs) (h2 : All2 (PsF H) qs roll) (hrl : roll.length ≤ maxLen) (hs : Sl H 101 K (l.map Chg.Prp.fds)) (hf : Fz H w) :
    Calls Tryz.prog 71 #[v, .agg (tis ti.1).toArray, .slice A roll.length a, .slice K l.length kc] w (Outp H w fun H' r => ∀ s e, appR t ti roll l = (s, e) → ∃ v1 F fc, r = .tuple #[v1, .agg (tis s.ti.1).toArray, .slice F s.fr.length fc, .int .i64 e] ∧ TrF H' v1 s.t ∧ Sl H' 1 F (ints8 s.fr)) := by
  obtain ⟨w1, hw1⟩ : ∃ w1, w1 = w := ⟨_, rfl⟩
  rw [← hw1]
  rw [← hw1] at hf
  obtain ⟨A0, a0, B0, b0, q0, hv, t1, t2, t3⟩ := h.ex
  rw [hv] at h ⊢
  have hM := Mem.start hf
  have hq : q0.length = t.ps.length := t3.len
  refine C_change_Apply ?_
  unfold F_change_Apply
  ((with_reducible (refine mm_box hM ?_; clear hM; intro _ _ hM; refine mm_box hM ?_; clear hM; intro _ _ hM; refine mm_new hM ?_; clear hM; intro _ _ hM; refine mm_new hM ?_; clear hM; intro _ _ hM; refine mm_ld hM ?_)))
  rename_i g4 _ g5 _ g8 _ g9 _
  refine mm_pure hM (right_c h hM.fz) (fun w hM => ?_)
  cases hr : t.right
  · ((with_reducible (refine mop_c trivial ?_; refine mif_true ?_; refine mop_c trivial ?_; refine mop_c trivial ?_; refine mm_st hM ?_; clear hM; intro _ hM; refine mm_st hM ?_; clear hM; intro _ hM; refine rm_ld hM ?_; refine rm_ld hM ?_)))
    refine hM.out (Le.refl _ _) ?_
    rintro s e hse
    rw [appR, if_pos (by rw [hr]; exact Bool.false_ne_true)] at hse
    cases hse
    exact ⟨_, none, 0, rfl, trF_none _, Sl.nil _ _ _⟩
  have hR := Tr.rt.1 hr
  have hlen := hR.len
  ((with_reducible (refine mop_c trivial ?_; refine mif_false ?_; refine dp_c trivial ?_; refine dm_ld hM ?_)))
  refine dm_ownE hM (fun w hM => cloneL_ok (t1.mono (le_of hM.fz)) (by simp) (by omega) hM) ?_
  rintro v2 w2 hx ⟨A1, a1, rfl, hM⟩
  ((with_reducible (refine dp_c trivial ?_)); (with_reducible refine dm_ld ‹Mem _ _ _ _› ?_))
  refine dm_own hM (fun w hM => (cloneP_ok (t2.mono (le_of hM.fz)) hq.symm (by omega) hM).mono fun en w' ⟨v, h, _, k⟩ => ⟨v, h, k⟩) ?_
  rintro v2 w3 ⟨B1, b1, rfl, hM⟩
  ((with_reducible (refine dp_c trivial ?_; refine dS_st hM ?_; clear hM; intro _ hM; refine dp_c trivial ?_; refine dS_st hM ?_; clear hM; intro _ hM; refine mm_end hM ?_; clear hM; intro _ hM; refine mop_c trivial ?_; refine mm_ld hM ?_; refine mop_c trivial ?_)))
  have hM0 : Mem H w1 (fb g4 25 (tfd A1 t.ls.length a1 B1 t.ps.length b1) :: fb g5 42 [.arr 64 (tis ti.1)] :: fb g8 25 (tfd none 0 0 none 0 0) :: fb g9 42 [.arr 64 (List.replicate 64 (.int .i64 0))] :: rowR 57 97 A1 t.ls.length a1 (t.ls.map Lf.fds) :: rowR 61 66 B1 t.ps.length b1 q0 :: allR [] :: []) _ := hM.all0.same
  refine ⟨fun v w' => ∃ (i : Nat) (X : List Xp), v = .int .i64 i ∧ i ≤ t.ps.length ∧ X.map (·.1) = t.ps.take i ∧ Mem H w1 (fb g4 25 (tfd A1 t.ls.length a1 B1 t.ps.length b1) :: fb g5 42 [.arr 64 (tis ti.1)] :: fb g8 25 (tfd none 0 0 none 0 0) :: fb g9 42 [.arr 64 (List.replicate 64 (.int .i64 0))] :: rowR 57 97 A1 t.ls.length a1 (t.ls.map Lf.fds) :: rowR 61 66 B1 t.ps.length b1 (X.map xrow ++ q0.drop i) :: allR X :: []) w', fun v _ => match v with | .int _ k => t.ps.length - k.toNat | _ => 0, ⟨0, [], rfl, by omega, rfl, hM0⟩, ?_⟩
  clear hM hM0
  rintro v3 u3 w3 ⟨i, X, rfl, hi, hX, hM⟩
  have hXl : X.length = i := by
    have := congrArg List.length hX
    simp at this
    omega
  ((with_reducible (refine mop_cS trivial ?_ ?_)))
  · intro hlt
    have hlt' : i < t.ps.length := by omega
    obtain ⟨q, hq1, C, c, rfl, hC, hcl⟩ := t3.at_ (i := i) hlt'
    obtain ⟨p, hpe⟩ : ∃ p, t.ps[i] = p := ⟨_, rfl⟩
    have hpl := (hR.loose p (hpe ▸ List.getElem_mem _)).1
    rw [hpe] at hq1 hC
    have hrow : (X.map xrow ++ q0.drop i)[(i : Int).toNat]? = some (p.row C c) := by
      rw [Int.toNat_natCast, List.getElem?_append_right (by simp; omega)]
      simp [hXl, hq1]
    ((with_reducible (refine mif_true ?_; refine dp_c trivial ?_; refine dm_ld hM ?_; refine dp_c trivial ?_; refine dm_ld hM ?_; refine dp_ixr hM ?_ ?_)); (focus omega); (with_reducible (intro _ hA)); (cases hA); (with_reducible (refine dp_c trivial ?_)))
    refine dm_ldr hM hrow ?_
    refine dm_ownE hM (fun w hM => cloneI_ok (hC.mono (le_of hM.fz)) (by simp) (by omega) hM) ?_
    rintro v w' hx ⟨C', c', rfl, hM⟩
    ((with_reducible (refine dp_ixr hM ?_ ?_)); (focus omega); (with_reducible (intro _ hA)); (cases hA); (with_reducible (refine dp_c trivial ?_)))
    refine dm_stf hM hrow (fun w' hM => ?_)
    ((with_reducible (refine mm_end hM ?_; clear hM; intro _ hM; refine mop_c ?_ ?_)); (focus omega))
    rename_i gB _ _ _ _
    have hset : (X.map xrow ++ q0.drop i).set (i : Int).toNat (p.row C' c') = (X ++ [(p, C', c')]).map xrow ++ q0.drop (i + 1) := by
      rw [Int.toNat_natCast, List.set_append_right _ _ (by simp; omega)]
      simp only [List.length_map, hXl, Nat.sub_self, List.map_append, List.append_assoc]
      rw [List.drop_eq_getElem_cons (by omega)]
      rfl
    have hM2 : Mem H w1 (rowR 61 66 (some ⟨gB, 0, none⟩) t.ps.length b1 ((X ++ [(p, C', c')]).map xrow ++ q0.drop (i + 1)) :: _) _ := hset ▸ hM
    have hM : Mem H w1 (allR X :: xres (p, C', c') :: fb g4 25 (tfd A1 t.ls.length a1 (some ⟨gB, 0, none⟩) t.ps.length b1) :: fb g5 42 [.arr 64 (tis ti.1)] :: fb g8 25 (tfd none 0 0 none 0 0) :: fb g9 42 [.arr 64 (List.replicate 64 (.int .i64 0))] :: rowR 57 97 A1 t.ls.length a1 (t.ls.map Lf.fds) :: rowR 61 66 (some ⟨gB, 0, none⟩) t.ps.length b1 ((X ++ [(p, C', c')]).map xrow ++ q0.drop (i + 1)) :: []) _ := hM2.sub
    refine ⟨⟨i + 1, X ++ [(p, C', c')], rfl, by omega, ?_, hM.addk.same⟩, by simp only; omega⟩
    rw [List.map_append, hX, List.take_succ_eq_append_getElem hlt', hpe]
    rfl
  intro hge
  obtain rfl : i = t.ps.length := by omega
  rw [List.take_length] at hX
  rw [List.drop_eq_nil_of_le (by omega), List.append_nil] at hM
  have hXl : X.length = t.ps.length := by rw [← hX, List.length_map]
  obtain ⟨P2, hP2⟩ : ∃ P2, P2 = t.ps := ⟨_, rfl⟩
  have hM : Mem H w1 (rowR 57 97 A1 t.ls.length a1 (t.ls.map Lf.fds) :: rowR 61 66 B1 X.length b1 (X.map xrow) :: allR X :: fb g4 25 (tfd A1 t.ls.length a1 B1 t.ps.length b1) :: fb g5 42 [.arr 64 (tis ti.1)] :: fb g8 25 (tfd none 0 0 none 0 0) :: fb g9 42 [.arr 64 (List.replicate 64 (.int .i64 0))] :: []) w3 := by
    rw [hXl]
    exact hM.same
  obtain ⟨H1, le1, hM, hT1⟩ := hM.frzT (fun x hx => by
    have hm : x.1 ∈ t.ps := hX ▸ List.mem_map_of_mem hx
    have := (hR.loose _ hm).1
    simp only [maxLen]
    omega)
  rw [hX, hXl] at hT1
  ((with_reducible (refine mif_false ?_; refine mop_c trivial ?_)))
  have hF0 : Mem H1 w1 (rowR 3 1 none 0 0 (ints8 []) :: _) _ := hM.row0 3 1
  refine ⟨fun v u w' => ∃ (i : Nat) (tt : Tr) (tj : Ti) (fr : List Int) (H2 : Hp) (F : Option Addr) (fc : Nat) (C : Option Addr) (c : Nat) (D : Option Addr) (d : Nat), v = .slice F fr.length fc ∧ u = .int .i64 i ∧ i ≤ l.length ∧ tt.Rt ∧ Le w1 H H2 ∧ fr.length ≤ i ∧ appR t ti roll l = Ap.run roll ⟨tt, tj, fr⟩ (l.drop i) ∧ TrF H2 (tv C tt.ls.length c D tt.ps.length d) tt ∧ Mem H2 w1 [rowR 3 1 F fr.length fc (ints8 fr), fb g4 25 (tfd C tt.ls.length c D tt.ps.length d), fb g5 42 [.arr 64 (tis tj.1)], fb g8 25 (tfd none 0 0 none 0 0), fb g9 42 [.arr 64 (List.replicate 64 (.int .i64 0))]] w', fun _ u _ => match u with | .int _ k => l.length - k.toNat | _ => 0, ⟨0, t, ti, [], H1, none, 0, A1, a1, B1, b1, rfl, rfl, by omega, hR, le1, by simp, by rw [appR, if_neg (fun c => c hr)]; rfl, hT1, hF0.sub⟩, ?_⟩
  clear hM hF0 le1 hT1
  rintro v u u4 w5 ⟨i, tt, tj, fr, H2, F, fc, C, c, D, d, rfl, rfl, hi, hRs, le2, hfr, hrun, hT, hM⟩
  have h1' := h1.mono le2.le
  have h2' := All2.mono (fun _ _ k => PsF.mono k le2.le) h2
  have hs' := hs.mono le2.le
  have hpq := h2.len
  ((with_reducible (refine mop_cS trivial ?_ ?_)))
  · intro hlt
    have hlt' : i < l.length := by omega
    have hdrop : l.drop i = l[i] :: l.drop (i + 1) := List.drop_eq_getElem_cons hlt'
    have hst : Ap.run roll ⟨tt, tj, fr⟩ (l.drop i) = if (Ap.step roll ⟨tt, tj, fr⟩ l[i]).2 ≠ 0 then (Ap.none, (Ap.step roll ⟨tt, tj, fr⟩ l[i]).2) else (Ap.step roll ⟨tt, tj, fr⟩ l[i]).1.run roll (l.drop (i + 1)) := by
      rw [hdrop]
      rfl
    have hrt : (Ap.step roll ⟨tt, tj, fr⟩ l[i]).2 = 0 → (Ap.step roll ⟨tt, tj, fr⟩ l[i]).1.t.Rt := Ap.step_rt hRs
    have hfs := Ap.step_fr (roll := roll) (s := ⟨tt, tj, fr⟩) (p := l[i])
    generalize hstp : Ap.step roll ⟨tt, tj, fr⟩ l[i] = stp at hst hrt hfs
    ((with_reducible (refine mif_true ?_)); (with_reducible refine mm_ixs ‹_› ?_ ?_ ?_); (focus (simp only [List.length_map]; omega)); (focus (simp only [List.length_map]; first | done | omega)); (with_reducible (intro _ _ hA)); (cases hA); (with_reducible refine mm_lds0 hM ‹_› (map_atI ?_) ?_); (focus omega); (with_reducible (refine mm_new hM ?_; clear hM; intro _ _ hM; refine mm_st hM ?_; clear hM; intro _ hM; refine mop_c trivial ?_; refine mm_ld hM ?_; refine mm_new hM ?_; clear hM; intro _ _ hM; refine mm_st hM ?_; clear hM; intro _ hM)))
    refine ⟨fun v u w' => ∃ (tt : Tr) (tj : Ti) (fr : List Int) (e : Int) (H3 : Hp) (F : Option Addr) (fc : Nat) (C : Option Addr) (c : Nat) (D : Option Addr) (d : Nat), v = .slice F fr.length fc ∧ u = .int .i64 e ∧ stp = (⟨tt, tj, fr⟩, e) ∧ Le w1 H H3 ∧ TrF H3 (tv C tt.ls.length c D tt.ps.length d) tt ∧ Mem H3 w1 [rowR 3 1 F fr.length fc (ints8 fr), fb g4 25 (tfd C tt.ls.length c D tt.ps.length d), fb g5 42 [.arr 64 (tis tj.1)], fb g8 25 (tfd none 0 0 none 0 0), fb g9 42 [.arr 64 (List.replicate 64 (.int .i64 0))]] w', ?_, ?_⟩
    · ((with_reducible (refine mop_c trivial ?_; refine mm_ld hM ?_)))
      ((with_reducible (refine mop_cS trivial ?_ ?_)))
      · intro k2
        ((with_reducible (refine mif_true ?_; refine dm_ld hM ?_; refine dm_ld hM ?_; refine dp_c trivial ?_; refine dm_ld hM ?_)))
        refine dm_pure hM (fun w hM => place_c2 l[i].name hRs hT hM.fz) (fun w' hx hM => ?_)
        ((with_reducible (refine dp_c trivial ?_)); (with_reducible refine dm_ld ‹Mem _ _ _ _› ?_))
        refine dm_call hM (fun w hM => renew_c (tt.place l[i].name) l[i].pub hT hM.fz) ?_
        rintro H3 v w6 hx l3 hM ⟨v1, rfl, hT3⟩
        rw [ren_same hRs] at hT3
        rw [ren_same hRs]
        obtain ⟨C3, c3, D3, d3, q3, rfl, -⟩ := hT3.ex
        ((with_reducible (refine dp_c trivial ?_; refine dp_c trivial ?_; refine dS_st hM ?_; clear hM; intro _ hM; refine mm_end hM ?_; clear hM; intro _ hM)))
        exact ⟨_, tj, fr, _, H3, F, fc, C3, c3, D3, d3, rfl, rfl, by rw [← hstp]; unfold Ap.step; rw [if_pos k2], le2.trans l3, hT3, hM.sub⟩
      intro k2
      ((with_reducible (refine mif_false ?_)))
      ((with_reducible (refine mop_cS trivial ?_ ?_)))
      · intro k3
        ((with_reducible (refine mif_true ?_; refine dm_ld hM ?_; refine dm_ld hM ?_; refine dp_c trivial ?_; refine dm_ld hM ?_)))
        refine dm_pure hM (fun w hM => place_c2 l[i].name hRs hT hM.fz) (fun w' hx hM => ?_)
        skip
        refine dm_call hM (fun w hM => remove_c (tt.place l[i].name) hT hM.fz) ?_
        rintro H3 v w6 hx l3 hM ⟨v1, rfl, hT3⟩
        rw [rem_same hRs] at hT3
        rw [rem_same hRs]
        obtain ⟨C3, c3, D3, d3, q3, rfl, -⟩ := hT3.ex
        ((with_reducible (refine dp_c trivial ?_; refine dp_c trivial ?_; refine dS_st hM ?_; clear hM; intro _ hM; refine mm_end hM ?_; clear hM; intro _ hM)))
        exact ⟨_, tj, fr, _, H3, F, fc, C3, c3, D3, d3, rfl, rfl, by rw [← hstp]; unfold Ap.step; rw [if_neg k2, if_pos k3], le2.trans l3, hT3, hM.sub⟩
      intro k3
      ((with_reducible (refine mif_false ?_)))
      ((with_reducible (refine mop_cS trivial ?_ ?_)))
      · intro k1
        ((with_reducible (refine mif_true ?_; refine mm_new hM ?_; clear hM; intro _ _ hM; refine mm_ld hM ?_; refine mop_c trivial ?_; refine mm_ld hM ?_)))
        refine mm_pure hM (card_ok tj roll l[i].name h1' h2' hrl hM.fz) (fun w hM => ?_)
        ((with_reducible (refine mop_c trivial ?_; refine mop_c trivial ?_; refine mm_st hM ?_; clear hM; intro _ hM)))
        ((with_reducible (refine mop_cS trivial ?_ ?_)))
        · intro c1
          obtain ⟨p1, p2, p3, p4, p5⟩ := card_parts c1
          have hlf : leafR tj roll l[i].name = ⟨l[i].name, (cardR tj roll l[i].name).1.2, (persAt roll l[i].name).ver, hzero⟩ := if_pos c1
          have hpc : (persAt roll l[i].name).cards.length ≤ maxLen := by
            have hix : (l[i].name - 1).toNat < roll.length := by omega
            obtain ⟨q, hq1, C', c', -, -, hcl⟩ := h2.at_ (i := (l[i].name - 1).toNat) hix
            rwa [← persAt_get ⟨p1.1, p2⟩] at hcl
          simp only [maxLen] at hpc
          ((with_reducible (refine mif_true ?_; refine mm_ld hM ?_; refine mm_ld hM ?_)))
          refine mm_call hM (add_c (leafR tj roll l[i].name) hT hM.fz) ?_
          rintro H3 v w6 l3 hM ⟨v1, rfl, hT3⟩
          rw [add_same hRs] at hT3
          rw [add_same hRs]
          generalize hlg : leafR tj roll l[i].name = lf at hT3 hM hlf ⊢
          obtain ⟨C3, c3, D3, d3, q3, rfl, -⟩ := hT3.ex
          ((with_reducible ((iterate 3 refine mop_c trivial ?_); refine mm_st hM ?_; clear hM; intro _ hM)))
          ((with_reducible (refine mop_cS trivial ?_ ?_)))
          · intro c2
            have hta := tis_at (ti := tj) p1
            ((with_reducible (refine mif_true ?_; refine mop_c trivial ?_; refine mm_ld hM ?_; refine mop_c ?_ ?_)); (focus omega); (with_reducible (refine mop_c ?_ ?_)); (focus omega))
            refine mm_lda hM hta ?_
            ((with_reducible (refine mop_c ?_ ?_)); (focus omega); (with_reducible (refine mop_c ?_ ?_)); (focus omega); (with_reducible (refine mm_sta hM ?_ ?_)); (focus omega); (with_reducible (clear hM; intro _ hM; refine mm_bsl hM ?_ ?_ ?_)); (focus rfl); (focus (constructor <;> simp)); (with_reducible (clear hM; intro _ _ hM; refine mm_appo hM ?_ ?_)); (focus omega); (with_reducible (clear hM; intro _ _ _ hM)))
            rename_i A7 c7 _
            have hts : (tis tj.1).set (l[i].name - 1).toNat (.int .i64 (timeAt tj l[i].name + 1)) = tis (tj.set (l[i].name - 1).toNat (timeAt tj l[i].name + 1)).1 := List.map_set.symm
            have hfe : ints8 (fr ++ [(tt.addR lf).2.1]) = ints8 fr ++ [[.one (.int .i64 (tt.addR lf).2.1)]] := by simp [ints8]
            rw [hts, ← hfe] at hM
            have hfl : fr.length + 1 = (fr ++ [(tt.addR lf).2.1]).length := by simp
            rw [hfl] at hM ⊢
            exact ⟨_, tj.set (l[i].name - 1).toNat (timeAt tj l[i].name + 1), fr ++ [(tt.addR lf).2.1], _, H3, A7, c7, C3, c3, D3, d3, rfl, rfl, by rw [← hstp]; unfold Ap.step; rw [if_neg k2, if_neg k3, if_pos k1, if_neg (fun c => c c1), ← hlf]; simp only; rw [if_neg (fun c => c c2), c2], le2.trans l3, hT3, hM.sub⟩
          · intro c2
            ((with_reducible (refine mif_false ?_)))
            exact ⟨_, tj, fr, _, H3, F, fc, C3, c3, D3, d3, rfl, rfl, by rw [← hstp]; unfold Ap.step; rw [if_neg k2, if_neg k3, if_pos k1, if_neg (fun c => c c1), ← hlf]; exact if_pos c2, le2.trans l3, hT3, hM.sub⟩
        · intro c1
          ((with_reducible (refine mif_false ?_)))
          exact ⟨tt, tj, fr, _, H2, F, fc, C, c, D, d, rfl, rfl, by rw [← hstp]; unfold Ap.step; rw [if_neg k2, if_neg k3, if_pos k1, if_pos c1], le2, hT, hM.sub⟩
      · intro k1
        ((with_reducible (refine mif_false ?_)))
        exact ⟨tt, tj, fr, 7, H2, F, fc, C, c, D, d, rfl, rfl, by rw [← hstp]; unfold Ap.step; rw [if_neg k2, if_neg k3, if_neg k1], le2, hT, hM.sub⟩
    clear hM
    rintro v u u6 w6 ⟨tt', tj', fr', e, H3, F, fc, C, c, D, d, rfl, rfl, hse, le3, hT, hM⟩
    rw [hse] at hst hrt hfs
    simp only at hst hrt hfs
    skip
    ((with_reducible (refine mop_cS trivial ?_ ?_)))
    · intro he
      rw [if_pos he] at hst
      ((with_reducible (refine mif_true ?_; refine mop_c trivial ?_; refine mop_c trivial ?_; refine mm_st hM ?_; clear hM; intro _ hM; refine mm_st hM ?_; clear hM; intro _ hM; refine rm_ld hM ?_; refine rm_ld hM ?_)))
      refine hM.out le3 ?_
      rintro s e' hse2
      rw [hrun, hst] at hse2
      cases hse2
      exact ⟨_, none, 0, rfl, trF_none _, Sl.nil _ _ _⟩
    · intro he
      rw [if_neg he] at hst
      ((with_reducible (refine mif_false ?_; refine mop_c ?_ ?_)); (focus omega))
      exact ⟨⟨i + 1, tt', tj', fr', H3, F, fc, C, c, D, d, rfl, rfl, by omega, hrt (Decidable.of_not_not he), le3, by omega, hrun.trans hst, hT, hM⟩, by simp only; omega⟩
  · intro hge
    obtain rfl : i = l.length := by omega
    rw [List.drop_length] at hrun
    ((with_reducible (refine mif_false ?_)))
    refine ⟨Rl.only fun b => b = g8, ?_⟩
    have hne4 : ¬ g4 = g8 := (hM.upB g4).neB
    have hne5 : ¬ g5 = g8 := (hM.upB g5).neB
    refine dS_ld hM hne4 ?_
    refine dS_ld hM hne5 ?_
    refine dS_stX hM ?_
    clear hM
    intro w8 hM
    ((with_reducible (refine dS_st hM ?_; clear hM; intro _ hM; refine mm_end hM ?_; clear hM; intro _ hM; refine rm_ld hM ?_; refine rm_ld hM ?_)))
    obtain ⟨H4, l4, hM, hs4, -⟩ := Mem.fz1 hM F
    refine hM.out (le2.trans l4) ?_
    rintro s e hse
    rw [hrun] at hse
    cases hse
    exact ⟨_, F, fc, rfl, hT.mono l4.le, hs4⟩
end
end Go.Proofs.YtopcnkejobomaaaGreat
namespace Go.Proofs.YtopcnkejobomaaaGreat
open Go.RowKit Go.Lib
section
variable {H : Hp} {w0 w : World} {L R : List Res} {A K : Option Addr} {a kc : Nat} {qs : List (List Fd)} {v : Value}
theorem rplace_c {t : Tr} (x : Int) (h : TrF H v t) (hf : Fz H w) : Calls Tryz.prog 16 #[v, .int .i64 x] w fun en w' => en = .returned (.int .i64 (t.place x)) ∧ St w [] w' := by
  obtain ⟨A, a, B, b, q, rfl, h1, h2, h3⟩ := h.ex
  exact rplace_ok x h1 h.len.1 hf
theorem rcopy_c' {t : Tr} (hR : t.Rt) (h : TrF H v t) (hf : Fz H w) : Calls Tryz.prog 141 #[v] w (Outp H w fun H' r => TrF H' r t) := by
  obtain ⟨A, a, B, b, q, rfl, h1, h2, h3⟩ := h.ex
  have hlen := hR.len
  refine (rcopy_ok h1 h2 h3 (by omega) (by omega) (fun p hp => by have := (hR.loose p hp).1; omega) (Mem.start hf)).mono ?_
  rintro e w' ⟨v, rfl, A', a', B', b', X, rfl, hX, hM⟩
  have hXl : X.length = t.ps.length := by rw [← hX, List.length_map]
  rw [← hXl] at hM ⊢
  obtain ⟨H', l, hM, hT⟩ := hM.frzT (fun x hx => by
    have hm : x.1 ∈ t.ps := hX ▸ List.mem_map_of_mem hx
    have := (hR.loose _ hm).1
    simp only [maxLen]
    omega)
  rw [hX] at hT
  exact hM.out l hT
theorem rapply_ok (t : Tr) (ti : Ti) (roll : List Pers) (l : List Chg.Prp) (hl : l.length ≤ 1000) (h : TrF H v t) (h1 : Sl H 33 A qs) (h2 : All2 (PsF H) qs roll) (hrl : roll.length ≤ maxLen) (hs : Sl H 101 K (l.map Chg.Prp.fds)) (hf : Fz H w) :
    Calls Tryz.prog 109 #[v, .agg (tis ti.1).toArray, .slice A roll.length a, .slice K l.length kc] w (Outp H w fun H' r => ∀ s e, appR t ti roll l = (s, e) → ∃ v1 F fc, r = .tuple #[v1, .agg (tis s.ti.1).toArray, .slice F s.fr.length fc, .int .i64 e] ∧ TrF H' v1 s.t ∧ Sl H' 1 F (ints8 s.fr)) := by
  obtain ⟨w1, hw1⟩ : ∃ w1, w1 = w := ⟨_, rfl⟩
  rw [← hw1]
  rw [← hw1] at hf
  obtain ⟨A0, a0, B0, b0, q0, hv, t1, t2, t3⟩ := h.ex
  rw [hv] at h ⊢
  have hM := Mem.start hf
  refine C_bevyref10_Apply ?_
  unfold F_bevyref10_Apply
  ((with_reducible (refine mm_box hM ?_; clear hM; intro _ _ hM; refine mm_box hM ?_; clear hM; intro _ _ hM; refine mm_new hM ?_; clear hM; intro _ _ hM; refine mm_new hM ?_; clear hM; intro _ _ hM; refine mm_ld hM ?_)))
  rename_i g4 _ g5 _ g8 _ g9 _
  refine mm_pure hM (tright_c h hM.fz) (fun w hM => ?_)
  cases hr : t.right
  · ((with_reducible (refine mop_c trivial ?_; refine mif_true ?_; refine mop_c trivial ?_; refine mop_c trivial ?_; refine mm_st hM ?_; clear hM; intro _ hM; refine mm_st hM ?_; clear hM; intro _ hM; refine rm_ld hM ?_; refine rm_ld hM ?_)))
    refine hM.out (Le.refl _ _) ?_
    rintro s e hse
    rw [appR, if_pos (by rw [hr]; exact Bool.false_ne_true)] at hse
    cases hse
    exact ⟨_, none, 0, rfl, trF_none _, Sl.nil _ _ _⟩
  have hR := Tr.rt.1 hr
  ((with_reducible (refine mop_c trivial ?_; refine mif_false ?_)))
  have hF0 : Mem H w1 (rowR 3 1 none 0 0 (ints8 []) :: _) _ := hM.row0 3 1
  refine ⟨fun v u w' => ∃ (i : Nat) (tt : Tr) (tj : Ti) (fr : List Int) (H2 : Hp) (F : Option Addr) (fc : Nat) (C : Option Addr) (c : Nat) (D : Option Addr) (d : Nat), v = .slice F fr.length fc ∧ u = .int .i64 i ∧ i ≤ l.length ∧ tt.Rt ∧ Le w1 H H2 ∧ fr.length ≤ i ∧ appR t ti roll l = Ap.run roll ⟨tt, tj, fr⟩ (l.drop i) ∧ TrF H2 (tv C tt.ls.length c D tt.ps.length d) tt ∧ Mem H2 w1 [rowR 3 1 F fr.length fc (ints8 fr), fb g4 25 (tfd C tt.ls.length c D tt.ps.length d), fb g5 42 [.arr 64 (tis tj.1)], fb g8 25 (tfd none 0 0 none 0 0), fb g9 42 [.arr 64 (List.replicate 64 (.int .i64 0))]] w', fun _ u _ => match u with | .int _ k => l.length - k.toNat | _ => 0, ⟨0, t, ti, [], H, none, 0, A0, a0, B0, b0, rfl, rfl, by omega, hR, Le.refl _ _, by simp, by rw [appR, if_neg (fun c => c hr)]; rfl, h, hF0.sub⟩, ?_⟩
  clear hM hF0
  rintro v u u4 w5 ⟨i, tt, tj, fr, H2, F, fc, C, c, D, d, rfl, rfl, hi, hRs, le2, hfr, hrun, hT, hM⟩
  have h1' := h1.mono le2.le
  have h2' := All2.mono (fun _ _ k => PsF.mono k le2.le) h2
  have hs' := hs.mono le2.le
  have hpq := h2.len
  ((with_reducible (refine mop_c trivial ?_)))
  ((with_reducible (refine mop_cS trivial ?_ ?_)))
  · intro hlt
    have hlt' : i < l.length := by omega
    have hdrop : l.drop i = l[i] :: l.drop (i + 1) := List.drop_eq_getElem_cons hlt'
    have hst : Ap.run roll ⟨tt, tj, fr⟩ (l.drop i) = if (Ap.step roll ⟨tt, tj, fr⟩ l[i]).2 ≠ 0 then (Ap.none, (Ap.step roll ⟨tt, tj, fr⟩ l[i]).2) else (Ap.step roll ⟨tt, tj, fr⟩ l[i]).1.run roll (l.drop (i + 1)) := by
      rw [hdrop]
      rfl
    have hrt : (Ap.step roll ⟨tt, tj, fr⟩ l[i]).2 = 0 → (Ap.step roll ⟨tt, tj, fr⟩ l[i]).1.t.Rt := Ap.step_rt hRs
    have hfs := Ap.step_fr (roll := roll) (s := ⟨tt, tj, fr⟩) (p := l[i])
    generalize hstp : Ap.step roll ⟨tt, tj, fr⟩ l[i] = stp at hst hrt hfs
    ((with_reducible (refine mif_true ?_)); (with_reducible refine mm_ixs ‹_› ?_ ?_ ?_); (focus (simp only [List.length_map]; omega)); (focus (simp only [List.length_map]; first | done | omega)); (with_reducible (intro _ _ hA)); (cases hA); (with_reducible (refine mop_c trivial ?_)); (with_reducible refine mm_lds hM ‹_› (map_atI ?_) ?_); (focus omega); (with_reducible (refine mm_new hM ?_; clear hM; intro _ _ hM; refine mm_st hM ?_; clear hM; intro _ hM; refine mm_ld hM ?_; refine mm_new hM ?_; clear hM; intro _ _ hM; refine mm_st hM ?_; clear hM; intro _ hM)))
    rename_i g14 _ _ g15 _ _
    refine ⟨fun v w' => ∃ (uu : Tr) (e : Int) (H3 : Hp) (C3 : Option Addr) (c3 : Nat) (D3 : Option Addr) (d3 : Nat), v = .int .i64 e ∧ (uu, e) = (if l[i].kind = 2 then tt.renR (tt.place l[i].name) l[i].pub else (tt, 7)) ∧ Le w1 H2 H3 ∧ TrF H3 (tv C3 uu.ls.length c3 D3 uu.ps.length d3) uu ∧ Mem H3 w1 [fb g15 25 (tfd C3 uu.ls.length c3 D3 uu.ps.length d3), fb g14 85 [.one (.int .i64 l[i].kind), .one (.int .i64 l[i].name), .arr 32 (u8s l[i].pub.1)], rowR 3 1 F fr.length fc (ints8 fr), fb g4 25 (tfd C tt.ls.length c D tt.ps.length d), fb g5 42 [.arr 64 (tis tj.1)], fb g8 25 (tfd none 0 0 none 0 0), fb g9 42 [.arr 64 (List.replicate 64 (.int .i64 0))]] w', ?_, ?_⟩
    · ((with_reducible (refine mop_c trivial ?_; refine mm_ld hM ?_)))
      ((with_reducible (refine mop_cS trivial ?_ ?_)))
      · intro k2
        ((with_reducible (refine mif_true ?_; refine dm_ld hM ?_; refine dm_ld hM ?_; refine dp_c trivial ?_; refine dm_ld hM ?_)))
        refine dm_pure hM (fun w hM => rplace_c l[i].name hT hM.fz) (fun w' hx hM => ?_)
        ((with_reducible (refine dp_c trivial ?_)); (with_reducible refine dm_ld ‹Mem _ _ _ _› ?_))
        refine dm_call hM (fun w hM => rrenew_c (tt.place l[i].name) l[i].pub hRs hT hM.fz) ?_
        rintro H3 v w6 hx l3 hM ⟨v1, rfl, hT3⟩
        obtain ⟨C3, c3, D3, d3, q3, rfl, -⟩ := hT3.ex
        ((with_reducible (refine dp_c trivial ?_; refine dp_c trivial ?_; refine dS_st hM ?_; clear hM; intro _ hM; refine mm_end hM ?_; clear hM; intro _ hM)))
        exact ⟨_, _, H3, C3, c3, D3, d3, rfl, by rw [if_pos k2], l3, hT3, hM.sub⟩
      · intro k2
        ((with_reducible (refine mif_false ?_)))
        exact ⟨tt, 7, H2, C, c, D, d, rfl, by rw [if_neg k2], Le.refl _ _, hT, hM.sub⟩
    clear hM
    rintro v u5 w6 ⟨uu, e, H3, C3, c3, D3, d3, rfl, hue, le3, hT3, hM⟩
    refine ⟨fun v w' => ∃ (uu : Tr) (e : Int) (H3 : Hp) (C3 : Option Addr) (c3 : Nat) (D3 : Option Addr) (d3 : Nat), v = .int .i64 e ∧ (uu, e) = (if l[i].kind = 2 then tt.renR (tt.place l[i].name) l[i].pub else if l[i].kind = 3 then tt.remR (tt.place l[i].name) else (tt, 7)) ∧ Le w1 H2 H3 ∧ TrF H3 (tv C3 uu.ls.length c3 D3 uu.ps.length d3) uu ∧ Mem H3 w1 [fb g15 25 (tfd C3 uu.ls.length c3 D3 uu.ps.length d3), fb g14 85 [.one (.int .i64 l[i].kind), .one (.int .i64 l[i].name), .arr 32 (u8s l[i].pub.1)], rowR 3 1 F fr.length fc (ints8 fr), fb g4 25 (tfd C tt.ls.length c D tt.ps.length d), fb g5 42 [.arr 64 (tis tj.1)], fb g8 25 (tfd none 0 0 none 0 0), fb g9 42 [.arr 64 (List.replicate 64 (.int .i64 0))]] w', ?_, ?_⟩
    · ((with_reducible (refine mop_c trivial ?_; refine mm_ld hM ?_)))
      ((with_reducible (refine mop_cS trivial ?_ ?_)))
      · intro k3
        have k2 : ¬ l[i].kind = 2 := by omega
        ((with_reducible (refine mif_true ?_; refine dm_ld hM ?_; refine dm_ld hM ?_; refine dp_c trivial ?_; refine dm_ld hM ?_)))
        refine dm_pure hM (fun w hM => rplace_c l[i].name (hT.mono le3.le) hM.fz) (fun w' hx hM => ?_)
        skip
        refine dm_call hM (fun w hM => rremove_c (tt.place l[i].name) hRs (hT.mono le3.le) hM.fz) ?_
        rintro H4 v w6 hx l4 hM ⟨v1, rfl, hT4⟩
        obtain ⟨C4, c4, D4, d4, q4, rfl, -⟩ := hT4.ex
        ((with_reducible (refine dp_c trivial ?_; refine dp_c trivial ?_; refine dS_st hM ?_; clear hM; intro _ hM; refine mm_end hM ?_; clear hM; intro _ hM)))
        exact ⟨_, _, H4, C4, c4, D4, d4, rfl, by rw [if_neg k2, if_pos k3], le3.trans l4, hT4, hM.sub⟩
      · intro k3
        ((with_reducible (refine mif_false ?_)))
        exact ⟨uu, e, H3, C3, c3, D3, d3, rfl, by rw [hue, if_neg k3], le3, hT3, hM.sub⟩
    clear hM le3 hT3 hue
    rintro v u5 w7 ⟨uu, e, H3, C3, c3, D3, d3, rfl, hue, le3, hT3, hM⟩
    refine ⟨fun v u w' => ∃ (uu : Tr) (tj' : Ti) (fr' : List Int) (e : Int) (H4 : Hp) (F : Option Addr) (fc : Nat) (C3 : Option Addr) (c3 : Nat) (D3 : Option Addr) (d3 : Nat), v = .slice F fr'.length fc ∧ u = .int .i64 e ∧ stp = (⟨uu, tj', fr'⟩, e) ∧ Le w1 H H4 ∧ TrF H4 (tv C3 uu.ls.length c3 D3 uu.ps.length d3) uu ∧ Mem H4 w1 [fb g15 25 (tfd C3 uu.ls.length c3 D3 uu.ps.length d3), rowR 3 1 F fr'.length fc (ints8 fr'), fb g4 25 (tfd C tt.ls.length c D tt.ps.length d), fb g5 42 [.arr 64 (tis tj'.1)], fb g8 25 (tfd none 0 0 none 0 0), fb g9 42 [.arr 64 (List.replicate 64 (.int .i64 0))]] w', ?_, ?_⟩
    · ((with_reducible (refine mop_c trivial ?_; refine mm_ld hM ?_)))
      ((with_reducible (refine mop_cS trivial ?_ ?_)))
      · intro k1
        have k2 : ¬ l[i].kind = 2 := by omega
        have k3 : ¬ l[i].kind = 3 := by omega
        rw [if_neg k2, if_neg k3] at hue
        cases hue
        ((with_reducible (refine mif_true ?_; refine mm_ld hM ?_; refine mop_c trivial ?_; refine mm_ld hM ?_)))
        refine mm_pure hM (rcard_ok tj roll l[i].name (h1'.mono le3.le) (All2.mono (fun _ _ k => PsF.mono k le3.le) h2') hrl hM.fz) (fun w hM => ?_)
        ((with_reducible (refine mop_c trivial ?_; refine mop_c trivial ?_; refine mm_new hM ?_; clear hM; intro _ _ hM; refine mm_st hM ?_; clear hM; intro _ hM)))
        ((with_reducible (refine mop_cS trivial ?_ ?_)))
        · intro c1
          obtain ⟨p1, p2, p3, p4, p5⟩ := card_parts c1
          have hix : (l[i].name - 1).toNat < roll.length := by omega
          obtain ⟨q, hq1, CC, cc, rfl, hC, hcl⟩ := h2'.at_ (i := (l[i].name - 1).toNat) hix
          have hpa : persAt roll l[i].name = roll[(l[i].name - 1).toNat] := persAt_get ⟨p1.1, p2⟩
          rw [← hpa] at hq1 hC hcl
          have hpc := hcl
          simp only [maxLen] at hpc
          have h13 := h1'.mono le3.le
          ((with_reducible (refine mif_true ?_; refine dm_ld hM ?_; refine dp_c trivial ?_; refine dm_ld hM ?_; refine dp_c trivial ?_; refine dm_ld hM ?_; refine dp_c trivial ?_; refine dm_ld hM ?_; refine dp_c ?_ ?_)); (focus omega))
          refine dp_ixs h13 (by omega) hpq.symm (fun bb oo hB => ?_)
          cases hB
          ((with_reducible (refine dp_c trivial ?_)))
          refine dm_lds hM h13 hq1 ?_
          ((with_reducible (refine dp_c trivial ?_)))
          have hT' := hT.mono le3.le
          refine dm_call hM (fun w hM => radd_c ⟨l[i].name, (cardR tj roll l[i].name).1.2, (persAt roll l[i].name).ver, hzero⟩ hRs hT' hM.fz) ?_
          rintro H4 v w6 hx l4 hM ⟨v1, rfl, hT4⟩
          generalize hlg : (⟨l[i].name, (cardR tj roll l[i].name).1.2, (persAt roll l[i].name).ver, hzero⟩ : Lf) = lf at hT4 hM ⊢
          obtain ⟨C4, c4, D4, d4, q4, rfl, -⟩ := hT4.ex
          ((with_reducible ((iterate 3 refine dp_c trivial ?_); refine dS_st hM ?_; clear hM; intro _ hM; refine mm_end hM ?_; clear hM; intro _ hM)))
          ((with_reducible (refine mop_cS trivial ?_ ?_)))
          · intro c2
            have hta := tis_at (ti := tj) p1
            ((with_reducible (refine mif_true ?_; refine mop_c trivial ?_; refine mm_ld hM ?_; refine mop_c ?_ ?_)); (focus omega); (with_reducible (refine mop_c ?_ ?_)); (focus omega))
            refine mm_lda hM hta ?_
            ((with_reducible (refine mop_c ?_ ?_)); (focus omega); (with_reducible (refine mop_c ?_ ?_)); (focus omega); (with_reducible (refine mm_sta hM ?_ ?_)); (focus omega); (with_reducible (clear hM; intro _ hM; refine mm_bsl hM ?_ ?_ ?_)); (focus rfl); (focus (constructor <;> simp)); (with_reducible (clear hM; intro _ _ hM; refine mm_appo hM ?_ ?_)); (focus omega); (with_reducible (clear hM; intro _ _ _ hM)))
            rename_i A7 c7 _
            have hts : (tis tj.1).set (l[i].name - 1).toNat (.int .i64 (timeAt tj l[i].name + 1)) = tis (tj.set (l[i].name - 1).toNat (timeAt tj l[i].name + 1)).1 := List.map_set.symm
            have hfe : ints8 (fr ++ [(tt.addR lf).2.1]) = ints8 fr ++ [[.one (.int .i64 (tt.addR lf).2.1)]] := by simp [ints8]
            rw [hts, ← hfe] at hM
            have hfl : fr.length + 1 = (fr ++ [(tt.addR lf).2.1]).length := by simp
            rw [hfl] at hM ⊢
            exact ⟨_, tj.set (l[i].name - 1).toNat (timeAt tj l[i].name + 1), fr ++ [(tt.addR lf).2.1], _, H4, A7, c7, C4, c4, D4, d4, rfl, rfl, by rw [← hstp]; unfold Ap.step; rw [if_neg k2, if_neg k3, if_pos k1, if_neg (fun c => c c1), hlg]; simp only; rw [if_neg (fun c => c c2), c2], (le2.trans le3).trans l4, hT4, hM.sub⟩
          · intro c2
            ((with_reducible (refine mif_false ?_)))
            exact ⟨_, tj, fr, _, H4, F, fc, C4, c4, D4, d4, rfl, rfl, by rw [← hstp]; unfold Ap.step; rw [if_neg k2, if_neg k3, if_pos k1, if_neg (fun c => c c1), hlg]; exact if_pos c2, (le2.trans le3).trans l4, hT4, hM.sub⟩
        · intro c1
          ((with_reducible (refine mif_false ?_)))
          exact ⟨tt, tj, fr, _, H3, F, fc, C3, c3, D3, d3, rfl, rfl, by rw [← hstp]; unfold Ap.step; rw [if_neg k2, if_neg k3, if_pos k1, if_pos c1], le2.trans le3, hT3, hM.sub⟩
      · intro k1
        ((with_reducible (refine mif_false ?_)))
        refine ⟨uu, tj, fr, e, H3, F, fc, C3, c3, D3, d3, rfl, rfl, ?_, le2.trans le3, hT3, hM.sub⟩
        rw [← hstp]
        unfold Ap.step
        by_cases k2 : l[i].kind = 2
        · rw [if_pos k2] at hue ⊢
          rw [← hue]
        rw [if_neg k2] at hue ⊢
        by_cases k3 : l[i].kind = 3
        · rw [if_pos k3] at hue ⊢
          rw [← hue]
        rw [if_neg k3] at hue ⊢
        rw [if_neg k1]
        cases hue
        rfl
    clear hM
    rintro v u u6 w8 ⟨uu', tj', fr', e', H4, F, fc, C4, c4, D4, d4, rfl, rfl, hse, le4, hT4, hM⟩
    rw [hse] at hst hrt hfs
    simp only at hst hrt hfs
    skip
    ((with_reducible (refine mop_cS trivial ?_ ?_)))
    · intro he
      rw [if_pos he] at hst
      ((with_reducible (refine mif_true ?_; refine mop_c trivial ?_; refine mop_c trivial ?_; refine mm_st hM ?_; clear hM; intro _ hM; refine mm_st hM ?_; clear hM; intro _ hM; refine rm_ld hM ?_; refine rm_ld hM ?_)))
      refine hM.out le4 ?_
      rintro s e' hse2
      rw [hrun, hst] at hse2
      cases hse2
      exact ⟨_, none, 0, rfl, trF_none _, Sl.nil _ _ _⟩
    · intro he
      rw [if_neg he] at hst
      ((with_reducible (refine mif_false ?_; refine mm_ld hM ?_; refine mm_st hM ?_; clear hM; intro _ hM; refine mop_c ?_ ?_)); (focus omega))
      exact ⟨⟨i + 1, uu', tj', fr', H4, F, fc, C4, c4, D4, d4, rfl, rfl, by omega, hrt (Decidable.of_not_not he), le4, by omega, hrun.trans hst, hT4, hM.sub⟩, by simp only; omega⟩
  · intro hge
    obtain rfl : i = l.length := by omega
    rw [List.drop_length] at hrun
    ((with_reducible (refine mif_false ?_)))
    refine ⟨Rl.only fun b => b = g8, ?_⟩
    have hne4 : ¬ g4 = g8 := (hM.upB g4).neB
    have hne5 : ¬ g5 = g8 := (hM.upB g5).neB
    refine dS_ld hM hne4 ?_
    have hM0 := hM
    refine dS_call hM (fun w hM => rcopy_c' hRs hT hM.fz) ?_
    rintro H3 v w6 l3 hM hT3
    obtain ⟨C3, c3, D3, d3, q3, rfl, -⟩ := hT3.ex
    refine dS_ld hM0 hne5 ?_
    clear hM0
    refine dS_stX hM ?_
    clear hM
    intro w8 hM
    ((with_reducible (refine dS_st hM ?_; clear hM; intro _ hM; refine mm_end hM ?_; clear hM; intro _ hM; refine rm_ld hM ?_; refine rm_ld hM ?_)))
    obtain ⟨H4, l4, hM, hs4, -⟩ := Mem.fz1 hM F
    refine hM.out ((le2.trans l3).trans l4) ?_
    rintro s e hse
    rw [hrun] at hse
    cases hse
    exact ⟨_, F, fc, rfl, hT3.mono l4.le, hs4⟩
end
end Go.Proofs.YtopcnkejobomaaaGreat
namespace Go.Proofs.YtopcnkejobomaaaGreat
open Go.RowKit Go.Lib
def firstE (f : Nat → Int) : Nat → Int
  | 0 => 0
  | n + 1 => if firstE f n ≠ 0 then firstE f n else f n
theorem firstE_zero {f : Nat → Int} : ∀ {n : Nat}, (∀ j, j < n → f j = 0) → firstE f n = 0
  | 0, _ => rfl
  | n + 1, h => by
    unfold firstE
    rw [firstE_zero fun j hj => h j (by omega), if_neg (fun c => c rfl)]
    exact h n (by omega)
theorem firstE_at {f : Nat → Int} {i : Nat} (h : ∀ j, j < i → f j = 0) (hi : f i ≠ 0) : ∀ {n : Nat}, i < n → firstE f n = f i
  | 0, c => by omega
  | n + 1, c => by
    unfold firstE
    rcases Nat.lt_or_ge i n with c2 | c2
    · rw [firstE_at h hi c2, if_pos hi]
    · obtain rfl : i = n := by omega
      rw [firstE_zero h, if_neg (fun c => c rfl)]
abbrev prp0 : Chg.Prp := ⟨hzero, 0, 0, 0, 0, 0, hzero, hzero⟩
structure Plc where
  t : Tr
  ti : Ti
  roll : List Pers
  ep : H32
  depth : Int
  me : Int
def Tr.verOf (t : Tr) (x : Int) : H32 := (t.ls.getD (t.place x).toNat Lf.zero).ver
def Plc.late (x : Plc) (l : List Chg.Prp) (i : Nat) (p : Chg.Prp) : Prop :=
  (0 < i ∧ ¬ (l.getD (i - 1) prp0).lt p) ∨ p.name ∈ (l.take i).map (·.name) ∨ (p.kind ≠ 1 ∧ p.name = x.me)
instance (x : Plc) (l : List Chg.Prp) (i : Nat) (p : Chg.Prp) : Decidable (x.late l i p) := by unfold Plc.late; infer_instance
def Plc.one (x : Plc) (l : List Chg.Prp) (i : Nat) (p : Chg.Prp) : Int :=
  if ¬ p.right then 3
  else if p.epoch ≠ x.ep ∨ p.depth ≠ x.depth then 1
  else if x.t.place p.author < 0 then 12
  else if ¬ p.checks (x.t.verOf p.author) then 18
  else if x.late l i p then 17
  else if p.kind = 1 then (if 0 ≤ x.t.place p.name then 8 else (cardR x.ti x.roll p.name).2)
  else if 0 ≤ x.t.place p.name then 0 else 7
def Plc.at_ (x : Plc) (l : List Chg.Prp) (i : Nat) : Int := x.one l i (l.getD i prp0)
def Plc.app (x : Plc) (l : List Chg.Prp) : Ap × Int := if ¬ x.t.right = true then (Ap.none, 1) else (⟨x.t, x.ti, []⟩ : Ap).run x.roll l
def Plc.fit (x : Plc) (l : List Chg.Prp) : Int :=
  if ¬ x.t.right = true then 1
  else if 16 < l.length then 5
  else if firstE (x.at_ l) l.length ≠ 0 then firstE (x.at_ l) l.length
  else (x.app l).2
theorem getD_at {α : Type} {l : List α} {i : Nat} {d : α} (h : i < l.length) : l.getD i d = l[i] := by
  rw [List.getD_eq_getElem?_getD, List.getElem?_eq_getElem h]
  rfl
theorem Plc.at_get (x : Plc) {l : List Chg.Prp} {i : Nat} (h : i < l.length) : x.at_ l i = x.one l i l[i] := by
  unfold Plc.at_
  rw [getD_at h]
theorem Plc.fit_err {x : Plc} {l : List Chg.Prp} {i : Nat} {e : Int} (hr : x.t.right = true) (hl : l.length ≤ 16) (hi : i < l.length) (h : ∀ j, j < i → x.at_ l j = 0) (he : x.one l i l[i] = e) (h0 : e ≠ 0) : x.fit l = e := by
  have h1 : x.at_ l i = e := by rw [x.at_get hi, he]
  have h2 : firstE (x.at_ l) l.length = e := by rw [firstE_at h (by rw [h1]; exact h0) hi, h1]
  unfold Plc.fit
  rw [if_neg (fun c => c hr), if_neg (by omega), h2, if_pos h0]
theorem Plc.fit_app {x : Plc} {l : List Chg.Prp} (hr : x.t.right = true) (hl : l.length ≤ 16) (h : ∀ j, j < l.length → x.at_ l j = 0) : x.fit l = (x.app l).2 := by
  unfold Plc.fit
  rw [if_neg (fun c => c hr), if_neg (by omega), firstE_zero h, if_neg (fun c => c rfl)]
end Go.Proofs.YtopcnkejobomaaaGreat
namespace Go.Proofs.YtopcnkejobomaaaGreat
open Go.RowKit Go.Lib
def Plc.few (x : Plc) : Prop := (x.t.ls.length ≤ 70 ∧ x.t.ps.length ≤ 70 ∧ x.roll.length ≤ 70) ∧ (∀ p ∈ x.t.ps, p.loose.length ≤ 70) ∧ ∀ p ∈ x.roll, p.cards.length ≤ 70
instance (x : Plc) : Decidable x.few := by unfold Plc.few; infer_instance
abbrev plfd (A : Option Addr) (n a : Nat) (B : Option Addr) (m b : Nat) (x : Plc) (C : Option Addr) (k c : Nat) : List Fd := [.one (.slice A n a), .one (.slice B m b), .arr 64 (tis x.ti.1), .one (.slice C k c), .arr 32 (u8s x.ep.1), .one (.int .i64 x.depth), .one (.int .i64 x.me)]
structure PlF (H : Hp) (v : Value) (x : Plc) : Prop where
  ex : ∃ A a B b q C c r, v = .agg (fl (plfd A x.t.ls.length a B x.t.ps.length b x C x.roll.length c)).toArray ∧ (Sl H 97 A (x.t.ls.map Lf.fds) ∧ Sl H 66 B q ∧ All2 (PnF H) q x.t.ps) ∧ Sl H 33 C r ∧ All2 (PsF H) r x.roll
  len : x.t.ls.length ≤ maxLen ∧ x.t.ps.length ≤ maxLen ∧ x.roll.length ≤ maxLen
section
variable {H : Hp} {w0 w : World} {L R : List Res} {A B C : Option Addr} {a b c n : Nat} {v : Value}
theorem few10_ok (x : Plc) (h : PlF H v x) (hf : Fz H w) : Calls Tryz.prog 23 #[v] w fun en w' => en = .returned (.bool (decide x.few)) ∧ St w [] w' := by
  obtain ⟨A, a, B, b, q, C, c, r, rfl, ⟨t1, t2, t3⟩, r1, r2⟩ := h.ex
  obtain ⟨l1, l2, l3⟩ := h.len
  simp only [maxLen] at l1 l2 l3
  have hq : q.length = x.t.ps.length := t3.len
  have hr : r.length = x.roll.length := r2.len
  have hM := Mem.start hf
  refine C_bevylaw10_few ?_
  unfold F_bevylaw10_few
  ((with_reducible (refine mm_box hM ?_; clear hM; intro _ _ hM)))
  refine ⟨fun v w' => v = .bool (!decide (x.t.ls.length ≤ 70 ∧ x.t.ps.length ≤ 70 ∧ x.roll.length ≤ 70)) ∧ hM.now w', ?_, ?_⟩
  · ((with_reducible (refine mop_c trivial ?_; refine mop_c trivial ?_; refine mm_ld hM ?_; refine mop_c trivial ?_)))
    ((with_reducible (refine mop_cS trivial ?_ ?_)))
    · intro h
      ((with_reducible ((iterate 5 refine mguard_n1 ?_); refine mop_c trivial ?_; (iterate 4 refine mguard_n1 ?_); refine mop_c trivial ?_)))
      exact ⟨by rw [decide_eq_false (by omega)]; rfl, hM⟩
    · intro h
      ((with_reducible (refine mguard_yes ?_; refine mop_c trivial ?_; refine mguard_yes ?_; refine mop_c trivial ?_; refine mguard_yes ?_; refine mm_ld hM ?_; refine mguard_yes ?_; refine mop_c trivial ?_; refine mguard_yes ?_)))
      ((with_reducible (refine mop_cS trivial ?_ ?_)))
      · intro h4
        ((with_reducible (refine mop_c trivial ?_; (iterate 4 refine mguard_n1 ?_); refine mop_c trivial ?_)))
        exact ⟨by rw [decide_eq_false (by omega)]; rfl, hM⟩
      · intro h4
        ((with_reducible (refine mop_c trivial ?_; refine mguard_yes ?_; refine mop_c trivial ?_; refine mguard_yes ?_; refine mm_ld hM ?_; refine mguard_yes ?_; refine mop_c trivial ?_; refine mguard_yes ?_)))
        ((with_reducible (refine mop_cS trivial ?_ ?_)))
        · intro h5
          ((with_reducible (refine mop_c trivial ?_)))
          exact ⟨by rw [decide_eq_false (by omega)]; rfl, hM⟩
        · intro h5
          ((with_reducible (refine mop_c trivial ?_)))
          exact ⟨by rw [decide_eq_true (by omega)]; rfl, hM⟩
  rintro v u w2 ⟨rfl, hM⟩
  by_cases hc : x.t.ls.length ≤ 70 ∧ x.t.ps.length ≤ 70 ∧ x.roll.length ≤ 70
  case neg =>
    rw [decide_eq_false hc]
    ((with_reducible (refine mif_nf ?_)))
    exact ⟨by rw [decide_eq_false (show ¬ x.few from fun h => hc h.1)], hM.st⟩
  rw [decide_eq_true hc]
  ((with_reducible (refine mif_nt ?_)))
  refine ⟨fun v w' => ∃ i : Nat, v = .int .i64 i ∧ i ≤ x.t.ps.length ∧ (∀ j (hj : j < x.t.ps.length), j < i → x.t.ps[j].loose.length ≤ 70) ∧ hM.now w', fun v _ => match v with | .int _ k => x.t.ps.length - k.toNat | _ => 0, ⟨0, rfl, by omega, fun j _ h => by omega, hM⟩, ?_⟩
  rintro v u w3 ⟨i, rfl, hi, hlo, hM⟩
  ((with_reducible (refine mop_c trivial ?_; refine mop_c trivial ?_; refine mm_ld hM ?_; refine mop_c trivial ?_)))
  ((with_reducible (refine mop_cS trivial ?_ ?_)))
  · intro hlt
    have hlt' : i < x.t.ps.length := by omega
    obtain ⟨q', hq1, C', c', rfl, hC, hcl⟩ := t3.at_ (i := i) hlt'
    simp only [maxLen] at hcl
    ((with_reducible (refine mif_true ?_; refine mop_c trivial ?_; refine mop_c trivial ?_; refine mm_ld hM ?_)))
    refine mm_ixs t2 (by omega) hq.symm (fun bb oo hB => ?_)
    cases hB
    ((with_reducible (refine mop_c trivial ?_)))
    refine mm_lds hM t2 hq1 ?_
    ((with_reducible (refine mop_c trivial ?_)))
    ((with_reducible (refine mop_cS trivial ?_ ?_)))
    · intro h
      ((with_reducible (refine mif_true ?_)))
      exact ⟨by rw [decide_eq_false (show ¬ x.few from fun hh => by have := hh.2.1 _ (List.getElem_mem hlt'); omega)], hM.st⟩
    · intro h
      ((with_reducible (refine mif_false ?_; refine mop_c ?_ ?_)); (focus omega))
      refine ⟨⟨i + 1, rfl, by omega, fun j hj hji => ?_, hM⟩, by simp only; omega⟩
      rcases Nat.lt_or_ge j i with h2 | h2
      · exact hlo j hj h2
      · obtain rfl : j = i := by omega
        omega
  intro hge
  ((with_reducible (refine mif_false ?_)))
  refine ⟨fun v w' => ∃ i : Nat, v = .int .i64 i ∧ i ≤ x.roll.length ∧ (∀ j (hj : j < x.roll.length), j < i → x.roll[j].cards.length ≤ 70) ∧ hM.now w', fun v _ => match v with | .int _ k => x.roll.length - k.toNat | _ => 0, ⟨0, rfl, by omega, fun j _ h => by omega, hM⟩, ?_⟩
  rintro v u w4 ⟨k, rfl, hk, hlo2, hM⟩
  ((with_reducible (refine mop_c trivial ?_; refine mm_ld hM ?_; refine mop_c trivial ?_)))
  ((with_reducible (refine mop_cS trivial ?_ ?_)))
  · intro hlt
    have hlt' : k < x.roll.length := by omega
    obtain ⟨q', hq1, C', c', rfl, hC, hcl⟩ := r2.at_ (i := k) hlt'
    simp only [maxLen] at hcl
    ((with_reducible (refine mif_true ?_; refine mop_c trivial ?_; refine mm_ld hM ?_)))
    refine mm_ixs r1 (by omega) hr.symm (fun bb oo hB => ?_)
    cases hB
    ((with_reducible (refine mop_c trivial ?_)))
    refine mm_lds hM r1 hq1 ?_
    ((with_reducible (refine mop_c trivial ?_)))
    ((with_reducible (refine mop_cS trivial ?_ ?_)))
    · intro h
      ((with_reducible (refine mif_true ?_)))
      exact ⟨by rw [decide_eq_false (show ¬ x.few from fun hh => by have := hh.2.2 _ (List.getElem_mem hlt'); omega)], hM.st⟩
    · intro h
      ((with_reducible (refine mif_false ?_; refine mop_c ?_ ?_)); (focus omega))
      refine ⟨⟨k + 1, rfl, by omega, fun j hj hji => ?_, hM⟩, by simp only; omega⟩
      rcases Nat.lt_or_ge j k with h2 | h2
      · exact hlo2 j hj h2
      · obtain rfl : j = k := by omega
        omega
  · intro hge2
    ((with_reducible (refine mif_false ?_)))
    refine ⟨?_, hM.st⟩
    rw [decide_eq_true (show x.few from ⟨hc, fun p hp => ?_, fun p hp => ?_⟩)]
    · obtain ⟨j, hj, rfl⟩ := List.getElem_of_mem hp
      exact hlo j hj (by omega)
    · obtain ⟨j, hj, rfl⟩ := List.getElem_of_mem hp
      exact hlo2 j hj (by omega)
end
end Go.Proofs.YtopcnkejobomaaaGreat
namespace Go.Proofs.YtopcnkejobomaaaGreat
open Go.RowKit
theorem rdr_crd : Rdr Tryz.prog 158 64 (fun _ fs (x : H32 × H32) => fs = crd x) :=
  (rdr_struct (sz := 64) Tryz.underlying158 (by kernel_rfl) (Rdf.cons rdr_hash rfl rfl rfl (Rdf.cons rdr_hash rfl rfl rfl (Rdf.nil _)))).map fun _ fs x _ h => by
    obtain ⟨g1, h1, rfl, _, rfl, g2, h2, rfl, _, rfl, rfl⟩ := h
    exact ⟨(x.1, x.2.1), rfl⟩
theorem rdr_crds : Rdr Tryz.prog 93 1 (fun H fs (xs : List (H32 × H32)) => ∃ A cap, fs = [.one (.slice A xs.length cap)] ∧ xs.length ≤ maxLen ∧ Sl H 64 A (xs.map crd)) :=
  (rdr_slice Tryz.underlying93 (by kernel_rfl) (by omega) rdr_crd).map fun H fs xs _ ⟨A, cap, ps, h1, h2, h3, h4⟩ => by
    obtain rfl : ps = xs.map crd := (All2.eq_map (good := fun _ => True) (All2.mono (fun _ _ k => ⟨k, trivial⟩) h4)).1
    exact ⟨xs, A, cap, h1, h2, h3⟩
theorem rdr_pers : Rdr Tryz.prog 95 33 PsF :=
  (rdr_struct (sz := 33) Tryz.underlying95 (by kernel_rfl) (Rdf.cons rdr_hash rfl rfl rfl (Rdf.cons rdr_crds rfl rfl rfl (Rdf.nil _)))).map fun _ fs x _ h => by
    obtain ⟨g1, h1, rfl, _, rfl, g2, h2, rfl, _, ⟨A, c, rfl, hl, hs⟩, rfl⟩ := h
    exact ⟨⟨x.1, x.2.1⟩, A, c, rfl, hs, hl⟩
theorem rdr_roll : Rdr Tryz.prog 43 1 (fun H fs (xs : List Pers) => ∃ A cap ps, fs = [.one (.slice A xs.length cap)] ∧ xs.length ≤ maxLen ∧ Sl H 33 A ps ∧ All2 (PsF H) ps xs) :=
  rdr_slice Tryz.underlying43 (by kernel_rfl) (by omega) rdr_pers
theorem rdr_ti : Rdr Tryz.prog 42 64 (fun _ fs (x : Ti) => fs = [.arr 64 (tis x.1)]) :=
  (rdr_arr Tryz.underlying42 Tryz.underlying3 (by kernel_rfl) (by kernel_rfl)).map fun _ _ x _ ⟨h1, h2, h3⟩ => ⟨⟨x, h2⟩, h1⟩
theorem rdr_chg : Rdr Tryz.prog 85 34 (fun _ fs (x : Int × Int × H32) => fs = [.one (.int .i64 x.1), .one (.int .i64 x.2.1), .arr 32 (u8s x.2.2.1)]) :=
  (rdr_struct (sz := 34) Tryz.underlying85 (by kernel_rfl) (Rdf.cons rdr_i64 rfl rfl rfl (Rdf.cons rdr_i64 rfl rfl rfl (Rdf.cons rdr_hash rfl rfl rfl (Rdf.nil _))))).map fun _ fs x _ h => by
    obtain ⟨g1, h1, rfl, _, ⟨rfl, _⟩, g2, h2, rfl, _, ⟨rfl, _⟩, g3, h3, rfl, _, rfl, rfl⟩ := h
    exact ⟨⟨x.1, x.2.1, x.2.2.1⟩, rfl⟩
theorem rdr_prp : Rdr Tryz.prog 87 101 (fun _ fs (x : Chg.Prp) => fs = x.fds) :=
  (rdr_struct (sz := 101) Tryz.underlying87 (by kernel_rfl) (Rdf.cons rdr_hash rfl rfl rfl (Rdf.cons rdr_i64 rfl rfl rfl (Rdf.cons rdr_i64 rfl rfl rfl (Rdf.cons rdr_i64 rfl rfl rfl (Rdf.cons rdr_chg rfl rfl rfl (Rdf.cons rdr_hash rfl rfl rfl (Rdf.nil _)))))))).map fun _ fs x _ h => by
    obtain ⟨g1, h1, rfl, _, rfl, g2, h2, rfl, _, ⟨rfl, _⟩, g3, h3, rfl, _, ⟨rfl, _⟩, g4, h4, rfl, _, ⟨rfl, _⟩, g5, h5, rfl, _, rfl, g6, h6, rfl, _, rfl, rfl⟩ := h
    exact ⟨⟨x.1, x.2.1, x.2.2.1, x.2.2.2.1, x.2.2.2.2.1.1, x.2.2.2.2.1.2.1, x.2.2.2.2.1.2.2, x.2.2.2.2.2.1⟩, rfl⟩
theorem rdr_prps : Rdr Tryz.prog 46 1 (fun H fs (xs : List Chg.Prp) => ∃ A cap, fs = [.one (.slice A xs.length cap)] ∧ xs.length ≤ maxLen ∧ Sl H 101 A (xs.map Chg.Prp.fds)) :=
  (rdr_slice Tryz.underlying46 (by kernel_rfl) (by omega) rdr_prp).map fun H fs xs _ ⟨A, cap, ps, h1, h2, h3, h4⟩ => by
    obtain rfl : ps = xs.map Chg.Prp.fds := (All2.eq_map (good := fun _ => True) (All2.mono (fun _ _ k => ⟨k, trivial⟩) h4)).1
    exact ⟨xs, A, cap, h1, h2, h3⟩
theorem rdr_tr2 : Rdr Tryz.prog 25 2 (fun H fs (t : Tr) => (∃ A a B b q, fs = tfd A t.ls.length a B t.ps.length b ∧ (Sl H 97 A (t.ls.map Lf.fds) ∧ Sl H 66 B q ∧ All2 (PnF H) q t.ps)) ∧ t.ls.length ≤ maxLen ∧ t.ps.length ≤ maxLen) :=
  (rdr_struct (sz := 2) Tryz.underlying25 (by kernel_rfl) (Rdf.cons rdr_lfs rfl rfl rfl (Rdf.cons rdr_pns rfl rfl rfl (Rdf.nil _)))).map fun _ fs x _ h => by
    obtain ⟨g1, h1, rfl, _, ⟨A, a, rfl, hl, hs⟩, g2, h2, rfl, _, ⟨B, b, q, rfl, hl2, hs2, ha⟩, rfl⟩ := h
    exact ⟨⟨x.1, x.2.1⟩, ⟨A, a, B, b, q, rfl, hs, hs2, ha⟩, hl, hl2⟩
theorem rdr_plc : Rdr Tryz.prog 45 101 (fun H fs (x : Plc) => PlF H (.agg (fl fs).toArray) x) :=
  (rdr_struct (sz := 101) Tryz.underlying45 (by kernel_rfl) (Rdf.cons rdr_tr2 rfl rfl rfl (Rdf.cons rdr_ti rfl rfl rfl (Rdf.cons rdr_roll rfl rfl rfl (Rdf.cons rdr_hash rfl rfl rfl (Rdf.cons rdr_i64 rfl rfl rfl (Rdf.cons rdr_i64 rfl rfl rfl (Rdf.nil _)))))))).map fun _ fs x _ h => by
    obtain ⟨g1, h1, rfl, _, ⟨⟨A, a, B, b, q, rfl, ht⟩, l1, l2⟩, g2, h2, rfl, _, rfl, g3, h3, rfl, _, ⟨C, c, r, rfl, l3, hs3, h3⟩, g4, h4, rfl, _, rfl, g5, h5, rfl, _, ⟨rfl, _⟩, g6, h6, rfl, _, ⟨rfl, _⟩, rfl⟩ := h
    exact ⟨⟨x.1, x.2.1, x.2.2.1, x.2.2.2.1, x.2.2.2.2.1, x.2.2.2.2.2.1⟩, ⟨A, a, B, b, q, C, c, r, rfl, ht, hs3, h3⟩, l1, l2, l3⟩
end Go.Proofs.YtopcnkejobomaaaGreat
namespace Go.Proofs.YtopcnkejobomaaaGreat
open Go.RowKit
def obR (g : Nat) (o : Obj) : Res := fun B => Obj.isOther o = true ∧ B = [⟨g, .ob o, [], true⟩]
section
variable {P : Program} {H : Hp} {w0 w w' : World} {L R : List Res} {g : Nat} {o o' : Obj}
theorem St.allocOb {L : List Bk} (h : St w0 L w) (o : Obj) (ho : Obj.isOther o = true) : St w0 (⟨w.heap.size, .ob o, [], true⟩ :: L) (w.alloc o) := by
  refine ⟨fun b hb => ?_, .cons (fun b hb => ?_) h.ne, fun b hb hn => ?_, ?_⟩
  · cases hb with
    | head => exact ⟨rfl, ho, heap_alloc_new w _⟩
    | tail _ hb => exact (h.own b hb).alloc _
  · have := (h.own b hb).lt
    simp only []
    omega
  · cases hb with
    | head => exact h.size
    | tail _ hb => exact h.new b hb hn
  · exact (h.only.alloc _).mono fun i _ ⟨b, hb, hn, hg⟩ => ⟨b, List.mem_cons_of_mem _ hb, hn, hg⟩
def putOb (w : World) (g : Nat) (o : Obj) : World := { w with heap := w.heap.setIfInBounds g o }
theorem putOb_other (w : World) (g k : Nat) (o : Obj) (h : g ≠ k) : (putOb w g o).heap[k]? = w.heap[k]? := by
  simp only [putOb]
  rw [Array.getElem?_setIfInBounds_ne h]
theorem St.setOb {L : List Bk} (h : St w0 (⟨g, .ob o, [], true⟩ :: L) w) (ho : Obj.isOther o' = true) : St w0 (⟨g, .ob o', [], true⟩ :: L) (putOb w g o') := by
  have hne := List.pairwise_cons.1 h.ne
  have hlt := (h.own _ (List.mem_cons_self ..)).lt
  simp only at hlt
  refine ⟨fun b hb => ?_, .cons (fun b hb => hne.1 b hb) hne.2, fun b hb hn => ?_, ?_⟩
  · cases hb with
    | head => exact ⟨rfl, ho, by simp [putOb, hlt]⟩
    | tail _ hb => exact (h.own b (List.mem_cons_of_mem _ hb)).same (putOb_other w g b.g _ (fun e => hne.1 b hb e))
  · cases hb with
    | head => exact h.new ⟨g, .ob o, [], true⟩ (List.mem_cons_self ..) hn
    | tail _ hb => exact h.new b (List.mem_cons_of_mem _ hb) hn
  · have ho' := h.only
    refine ⟨ho'.os, ho'.tape, ho'.output, by simpa [putOb] using ho'.size, fun k hk hn => ?_⟩
    refine (putOb_other w g k _ ?_).trans (ho'.block k hk fun ⟨b, hb, h1, h2⟩ => ?_)
    · rintro rfl
      have := h.new ⟨g, .ob o, [], true⟩ (List.mem_cons_self ..) rfl
      simp only [] at this
      omega
    · cases hb with
      | head => cases h1
      | tail _ hb => exact hn ⟨b, List.mem_cons_of_mem _ hb, h1, h2⟩
theorem Mem.obAt (h : Mem H w0 (obR g o :: L) w) : w.heap[g]? = some o := by
  obtain ⟨B, ⟨B1, B2, rfl, ⟨_, rfl⟩, _⟩, hs, _⟩ := h.own
  exact (hs.own ⟨g, .ob o, [], true⟩ (by simp)).2.2
theorem Mem.allocOb (h : Mem H w0 L w) (o : Obj) (ho : Obj.isOther o = true) : Mem H w0 (obR w.heap.size o :: L) (w.alloc o) := by
  obtain ⟨B, hl, hs, hb⟩ := h.own
  refine ⟨⟨⟨w.heap.size, .ob o, [], true⟩ :: B, ⟨[⟨w.heap.size, .ob o, [], true⟩], B, rfl, ⟨ho, rfl⟩, hl⟩, hs.allocOb o ho, fun b hm => ?_⟩, h.fz.ext ((Only.refl _ w).alloc _)⟩
  rcases List.mem_cons.1 hm with rfl | hm
  · refine ⟨rfl, ?_⟩
    cases hh : H w.heap.size with
    | none => rfl
    | some c => have := h.fz.lt hh; omega
  · exact hb b hm
theorem Mem.setOb (h : Mem H w0 (obR g o :: L) w) (ho : Obj.isOther o' = true) : Mem H w0 (obR g o' :: L) (putOb w g o') := by
  obtain ⟨B, ⟨B1, B2, rfl, ⟨_, rfl⟩, h4⟩, hs, hb⟩ := h.own
  have hs : St w0 (⟨g, .ob o, [], true⟩ :: B2) w := hs
  have hg := hb ⟨g, .ob o, [], true⟩ (by simp)
  refine ⟨⟨⟨g, .ob o', [], true⟩ :: B2, ⟨[⟨g, .ob o', [], true⟩], B2, rfl, ⟨ho, rfl⟩, h4⟩, hs.setOb ho, fun b hm => ?_⟩, h.fz.same fun b c hc => putOb_other w g b _ ?_⟩
  · rcases List.mem_cons.1 hm with rfl | hm
    · exact ⟨rfl, hg.2⟩
    · exact hb b (List.mem_append.2 (.inr hm))
  · rintro rfl
    have := hg.2
    simp only [hc] at this
    cases this
theorem run_zv {t : TypeId} {z : Value} (c : ZvC P t z) (w : World) : (zeroValue t).run P w = .ok z w := by
  have := c.ok
  cases hi : P.info? t with
  | none => simp [hi] at this
  | some i => simp [hi] at this; simp [zeroValue, typeInfo, hi, this]
end
end Go.Proofs.YtopcnkejobomaaaGreat
namespace Go.Proofs.YtopcnkejobomaaaGreat
open Go.RowKit Go.MapKept
def mpEs : List Int → Nat → List MapEntry
  | [], _ => []
  | k :: r, i => ⟨.int .i64 k, .bool true, i⟩ :: mpEs r (i + 1)
theorem mpEs_snoc (x : Int) : ∀ (ks : List Int) (i : Nat), mpEs (ks ++ [x]) i = mpEs ks i ++ [⟨.int .i64 x, .bool true, i + ks.length⟩]
  | [], i => rfl
  | k :: r, i => by
    simp only [List.cons_append, mpEs, mpEs_snoc x r, List.length_cons]
    rw [show i + 1 + r.length = i + (r.length + 1) by omega]
def mpR (g : Nat) (ks : List Int) : Res := obR g (.map (mpEs ks 0).toArray ks.length)
theorem find_mp (k : Int) : ∀ (ks : List Int) (i j : Nat), (k ∈ ks → ∃ n, Instr.findNow (.int .i64) (.int .i64 k) (mpEs ks i) j = some (some (n, .bool true))) ∧ (k ∉ ks → Instr.findNow (.int .i64) (.int .i64 k) (mpEs ks i) j = some none)
  | [], i, j => ⟨fun h => (by cases h), fun _ => rfl⟩
  | x :: r, i, j => by
    obtain ⟨h1, h2⟩ := find_mp k r (i + 1) (j + 1)
    have e : Instr.sameNow (.int .i64) (.int .i64 k) (.int .i64 x) = some (k == x) := by simp [Instr.sameNow]
    by_cases c : k = x
    · subst c
      have e : Instr.sameNow (.int .i64) (.int .i64 k) (.int .i64 k) = some true := by simp [Instr.sameNow]
      refine ⟨fun _ => ⟨j, ?_⟩, fun h => absurd (List.mem_cons_self ..) h⟩
      simp only [mpEs, Instr.findNow, e]
    · have e2 : (k == x) = false := by simpa using c
      rw [e2] at e
      refine ⟨fun h => ?_, fun h => ?_⟩
      · obtain ⟨n, hn⟩ := h1 ((List.mem_cons.1 h).resolve_left c)
        exact ⟨n, by simp only [mpEs, Instr.findNow, e, hn]⟩
      · simp only [mpEs, Instr.findNow, e]
        exact h2 fun h' => h (List.mem_cons_of_mem _ h')
class MpC (P : Program) (t : TypeId) (kt e : outParam TypeId) : Prop where
  ok : P.underlying t = some (.map kt e) ∧ P.underlying kt = some (.int .i64) ∧ ∀ w, (zeroValue e).run P w = .ok (.bool false) w
section
variable {P : Program} {H : Hp} {w0 w w' : World} {L R : List Res} {g : Nat} {t kt e : TypeId} {ks : List Int} {x : Int} {K : Value → World → Prop} {X : List PanicEntry → World → Prop} {Kq : Value → Prop}
class AtM (L : List Res) (g : Nat) (ks : outParam (List Int)) (R : outParam (List Res)) : Prop where
  perm : L.Perm (mpR g ks :: R)
instance (L : List Res) (g : Nat) (ks : List Int) : AtM (mpR g ks :: L) g ks L := ⟨.refl _⟩
instance (priority := 900) (L R : List Res) (g : Nat) (ks : List Int) (x : Res) [h : AtM L g ks R] : AtM (x :: L) g ks (x :: R) := ⟨(h.perm.cons x).trans (.swap ..)⟩
theorem isKey_i64 (x : Int) : IsKey (.int .i64) (.int .i64 x) := by simp [IsKey]
theorem run_mplook (c : MpC P t kt e) (hb : w.heap[g]? = some (.map (mpEs ks 0).toArray ks.length)) : (o_lookup t (.map (some g)) (.int .i64 x) false).run P w = .ok (.value (.bool (decide (x ∈ ks)))) w := by
  obtain ⟨c1, c2, c3⟩ := c.ok
  obtain ⟨h1, h2⟩ := find_mp x ks 0 0
  by_cases hx : x ∈ ks
  · obtain ⟨n, hn⟩ := h1 hx
    rw [decide_eq_true hx]
    simp [o_lookup, sv, Instr.lookup, run_underlying c1, Go.MapKept.run_getObj_map hb, Go.MapKept.run_checkKey c2 (isKey_i64 x), Go.MapKept.run_findKey c2 hn]
  · rw [decide_eq_false hx]
    simp [o_lookup, sv, Instr.lookup, run_underlying c1, Go.MapKept.run_getObj_map hb, Go.MapKept.run_checkKey c2 (isKey_i64 x), Go.MapKept.run_findKey c2 (h2 hx), c3]
theorem run_mpput (c : MpC P t kt e) (hb : w.heap[g]? = some (.map (mpEs ks 0).toArray ks.length)) (hx : x ∉ ks) : (o_mapUpdate t (.map (some g)) (.int .i64 x) (.bool true)).run P w = .ok .skip (putOb w g (.map (mpEs (ks ++ [x]) 0).toArray (ks ++ [x]).length)) := by
  obtain ⟨c1, c2, c3⟩ := c.ok
  obtain ⟨h1, h2⟩ := find_mp x ks 0 0
  have e1 : (mpEs (ks ++ [x]) 0).toArray = (mpEs ks 0).toArray.push ⟨.int .i64 x, .bool true, ks.length⟩ := by
    rw [mpEs_snoc]
    simp
  rw [e1, List.length_append, List.length_singleton]
  simp [o_mapUpdate, su, Instr.mapUpdate, run_underlying c1, Go.MapKept.run_getObj_map hb, Go.MapKept.run_checkKey c2 (isKey_i64 x), Go.MapKept.run_findKey c2 (h2 hx), Go.MapKept.run_setObj_map _ hb, putOb]
theorem mm_mkmp (h : Mem H w0 L w) (hk : ∀ g w', Mem H w0 (mpR g [] :: L) w' → K (.map (some g)) w') : mop P (o_makeMap t none) w K X :=
  mop_run (w' := w.alloc (.map #[] 0)) (u := .map (some w.heap.size)) (by simp [o_makeMap, sv, Instr.makeMap]) (hk _ _ (h.allocOb (.map #[] 0) rfl))
theorem Mem.mpAt (h : Mem H w0 L w) (k : AtM L g ks R) : w.heap[g]? = some (.map (mpEs ks 0).toArray ks.length) := by
  have h2 : Mem H w0 (obR g (.map (mpEs ks 0).toArray ks.length) :: R) w := h.perm k.perm
  exact h2.obAt
theorem dm_mplk (h : Mem H w0 L w) [c : MpC P t kt e] [k : AtM L g ks R] (hk : Kq (.bool (decide (x ∈ ks)))) : dq P w (o_lookup t (.map (some g)) (.int .i64 x) false) Kq :=
  ⟨_, fun w' hw => by
    have hg : w'.heap[g]? = some (.map (mpEs ks 0).toArray ks.length) := by
      have h1 := h.mpAt k
      rw [← h1]
      exact hw.block g (by
        cases hh : w.heap[g]? with
        | none => rw [hh] at h1; cases h1
        | some o => exact (Array.getElem?_eq_some_iff.1 hh).1) (fun e => e)
    unfold opq
    rw [run_mplook c hg]
    exact ⟨rfl, Drawn.refl w'⟩, hk⟩
theorem mm_mpput (h : Mem H w0 L w) [c : MpC P t kt e] [k : AtM L g ks R] (hx : x ∉ ks) (hk : ∀ w', Mem H w0 (mpR g (ks ++ [x]) :: R) w' → K undef w') : mop P (o_mapUpdate t (.map (some g)) (.int .i64 x) (.bool true)) w K X := by
  have h2 : Mem H w0 (obR g (.map (mpEs ks 0).toArray ks.length) :: R) w := h.perm k.perm
  exact mop_skip (run_mpput c (h.mpAt k) hx) (hk _ (h2.setOb (o' := .map (mpEs (ks ++ [x]) 0).toArray (ks ++ [x]).length) rfl))
end
end Go.Proofs.YtopcnkejobomaaaGreat
namespace Go.Proofs.YtopcnkejobomaaaGreat
open Go.RowKit Go.Lib
theorem plc_some {t : Tr} {x : Int} (h : 0 ≤ t.place x) : 1 ≤ x ∧ ∃ i : Nat, t.place x = i ∧ ∃ hi : i < t.ls.length, t.ls[i].name = x := by
  have h1 : ¬ x < 1 := fun c => by
    unfold Tr.place at h
    rw [if_pos c] at h
    omega
  have e : t.place x = fix (fun l => decide (l.name = x)) t.ls := if_neg h1
  rw [e] at h ⊢
  unfold fix at h ⊢
  by_cases h2 : t.ls.findIdx (fun l => decide (l.name = x)) < t.ls.length
  · rw [if_pos h2]
    refine ⟨by omega, _, rfl, h2, ?_⟩
    simpa using List.findIdx_getElem (w := h2)
  · rw [if_neg h2] at h
    omega
end Go.Proofs.YtopcnkejobomaaaGreat
namespace Go.Proofs.YtopcnkejobomaaaGreat
open Go.RowKit Go.Lib
instance : MpC Tryz.prog 104 3 4 := ⟨Tryz.underlying104, Tryz.underlying3, fun w => run_zv ⟨by kernel_rfl⟩ w⟩
section
variable {H : Hp} {w0 w : World} {L R : List Res} {A K : Option Addr} {a kc : Nat} {qs : List (List Fd)} {v : Value}
theorem fit_ok (x : Plc) (l : List Chg.Prp) (hl : l.length ≤ maxLen) (h : TrF H v x.t) (h1 : Sl H 33 A qs) (h2 : All2 (PsF H) qs x.roll) (hrl : x.roll.length ≤ maxLen) (hs : Sl H 101 K (l.map Chg.Prp.fds)) (hf : Fz H w) :
    Calls Tryz.prog 27 #[v, .agg (tis x.ti.1).toArray, .slice A x.roll.length a, ha x.ep, .int .i64 x.depth, .int .i64 x.me, .slice K l.length kc] w fun en w' => en = .returned (.int .i64 (x.fit l)) ∧ St w [] w' := by
  obtain ⟨w1, hw1⟩ : ∃ w1, w1 = w := ⟨_, rfl⟩
  rw [← hw1]
  rw [← hw1] at hf
  obtain ⟨A0, a0, B0, b0, q0, hv, t1, t2, t3⟩ := h.ex
  rw [hv] at h ⊢
  have hl' : l.length ≤ 9223372036854775807 := hl
  have hM := Mem.start hf
  refine C_change_Fit ?_
  unfold F_change_Fit
  ((with_reducible (refine mm_box hM ?_; clear hM; intro _ _ hM; refine mm_box hM ?_; clear hM; intro _ _ hM; refine mm_box hM ?_; clear hM; intro _ _ hM; refine mm_ld hM ?_)))
  rename_i g7 _ g8 _ g10 _
  refine mm_pure hM (right_c h hM.fz) (fun w hM => ?_)
  cases hr : x.t.right
  · ((with_reducible (refine mop_c trivial ?_; refine mif_true ?_)))
    exact ⟨by rw [show x.fit l = 1 from if_pos (by rw [hr]; exact Bool.false_ne_true)], hM.st⟩
  have hR := Tr.rt.1 hr
  have hlen := hR.len
  ((with_reducible (refine mop_c trivial ?_; refine mif_false ?_; refine mop_c trivial ?_)))
  ((with_reducible (refine mop_cS trivial ?_ ?_)))
  · intro c16
    ((with_reducible (refine mif_true ?_)))
    refine ⟨?_, hM.st⟩
    unfold Plc.fit
    rw [if_neg (fun c => c hr), if_pos (by omega)]
  intro c16
  ((with_reducible (refine mif_false ?_)))
  refine mm_mkmp hM ?_
  clear hM
  intro gm w3 hM
  ((with_reducible (refine mop_c trivial ?_)))
  refine ⟨fun v w' => ∃ i : Nat, v = .int .i64 i ∧ i ≤ l.length ∧ (∀ j, j < i → x.at_ l j = 0) ∧ Mem H w1 [mpR gm ((l.take i).map (·.name)), fb g10 33 [.arr 32 (u8s x.ep.1)], fb g8 42 [.arr 64 (tis x.ti.1)], fb g7 25 (tfd A0 x.t.ls.length a0 B0 x.t.ps.length b0)] w', fun v _ => match v with | .int _ k => l.length - k.toNat | _ => 0, ⟨0, rfl, by omega, fun j h => by omega, hM⟩, ?_⟩
  clear hM
  rintro v u w4 ⟨i, rfl, hi, hj, hM⟩
  ((with_reducible (refine mop_cS trivial ?_ ?_)))
  · intro hlt
    have hlt' : i < l.length := by omega
    have herr := fun e => x.fit_err (e := e) hr (by omega) hlt' hj
    have hone := x.at_get hlt'
    ((with_reducible (refine mif_true ?_)))
    refine ⟨fun w' => x.one l i l[i] = 0 ∧ Mem H w1 [mpR gm ((l.take (i + 1)).map (·.name)), fb g10 33 [.arr 32 (u8s x.ep.1)], fb g8 42 [.arr 64 (tis x.ti.1)], fb g7 25 (tfd A0 x.t.ls.length a0 B0 x.t.ps.length b0)] w', ?_, ?_⟩
    · ((with_reducible refine mm_ixs ‹_› ?_ ?_ ?_); (focus (simp only [List.length_map]; omega)); (focus (simp only [List.length_map]; first | done | omega)); (with_reducible (intro _ _ hA)); (cases hA); (with_reducible refine mm_lds0 hM ‹_› (map_atI ?_) ?_); (focus omega); (with_reducible (refine mm_new hM ?_; clear hM; intro _ _ hM; refine mm_st hM ?_; clear hM; intro _ hM; refine mm_ld hM ?_; refine mop_c trivial ?_; refine mm_ld hM ?_)))
      rename_i g17 _ _
      refine mm_pure hM (place_c2 l[i].author hR h hM.fz) (fun w hM => ?_)
      ((with_reducible (refine mm_ld hM ?_; refine mm_purC hM ?_ ?_)); (focus (first | exact trivial | assumption | omega)); (with_reducible (clear hM; intro _ hM; refine mop_c trivial ?_)))
      by_cases c1 : l[i].right
      case neg =>
        rw [decide_eq_false c1]
        ((with_reducible (refine mif_nf ?_)))
        exact ⟨by rw [herr 3 (by unfold Plc.one; rw [if_pos c1]) (by decide)], hM.st⟩
      rw [decide_eq_true c1]
      ((with_reducible (refine mif_nt ?_)))
      refine ⟨fun v w' => v = .bool (decide (l[i].epoch ≠ x.ep ∨ l[i].depth ≠ x.depth)) ∧ hM.now w', ?_, ?_⟩
      · ((with_reducible (refine mop_c trivial ?_; refine mm_ld hM ?_; refine mm_ld hM ?_)))
        ((with_reducible (refine mop_cS trivial ?_ ?_)))
        · intro e1
          ((with_reducible ((iterate 4 refine mguard_n1 ?_); refine mop_c trivial ?_)))
          exact ⟨by rw [decide_eq_true (.inl e1)], hM⟩
        · intro e1
          ((with_reducible (refine mguard_yes ?_; refine mop_c trivial ?_; refine mguard_yes ?_; refine mm_ld hM ?_; refine mguard_yes ?_; refine mop_c trivial ?_; refine mguard_yes ?_)))
          refine ⟨?_, hM⟩
          rw [if_neg (by simp), Value.bool.injEq]
          by_cases e2 : l[i].depth = x.depth
          · rw [decide_eq_false (show ¬ (l[i].epoch ≠ x.ep ∨ l[i].depth ≠ x.depth) from fun c => c.elim e1 fun k => k e2), e2]
            simp
          · rw [decide_eq_true (show l[i].epoch ≠ x.ep ∨ l[i].depth ≠ x.depth from .inr e2)]
            simpa using e2
      rintro v u2 w5 ⟨rfl, hM⟩
      by_cases c2 : l[i].epoch ≠ x.ep ∨ l[i].depth ≠ x.depth
      · rw [decide_eq_true c2]
        ((with_reducible (refine mif_true ?_)))
        exact ⟨by rw [herr 1 (by unfold Plc.one; rw [if_neg (fun c => c c1), if_pos c2]) (by decide)], hM.st⟩
      rw [decide_eq_false c2]
      ((with_reducible (refine mif_false ?_)))
      ((with_reducible (refine mop_cS trivial ?_ ?_)))
      · intro c3
        ((with_reducible (refine mif_true ?_)))
        exact ⟨by rw [herr 12 (by unfold Plc.one; rw [if_neg (fun c => c c1), if_neg c2, if_pos c3]) (by decide)], hM.st⟩
      intro c3
      obtain ⟨-, k, hk, hkl, -⟩ := plc_some (show 0 ≤ x.t.place l[i].author by omega)
      rw [hk]
      ((with_reducible (refine mif_false ?_; refine dm_ld hM ?_; refine dp_c trivial ?_; refine dm_ld hM ?_)); (with_reducible refine dp_ixs ‹_› ?_ ?_ ?_); (focus (simp only [List.length_map]; omega)); (focus (simp only [List.length_map]; first | done | omega)); (with_reducible (intro _ _ hA)); (cases hA); (with_reducible (refine dp_c trivial ?_)); (with_reducible refine dm_lds hM ‹_› (map_atI ?_) ?_); (focus omega); (with_reducible (refine dm_purC hM ?_ (fun _ _ hM => ?_))); (focus (first | exact trivial | assumption | omega)); (with_reducible (refine dp_c trivial ?_; refine mm_end hM ?_; clear hM; intro _ hM)))
      have hver : x.t.verOf l[i].author = x.t.ls[k].ver := by
        unfold Tr.verOf
        rw [hk, Int.toNat_natCast, getD_at hkl]
      have c3' : ¬ x.t.place l[i].author < 0 := c3
      by_cases c4 : l[i].checks x.t.ls[k].ver
      case neg =>
        rw [decide_eq_false c4]
        ((with_reducible (refine mif_nf ?_)))
        exact ⟨by rw [herr 18 (by unfold Plc.one; rw [if_neg (fun c => c c1), if_neg c2, if_neg c3, hver, if_pos c4]) (by decide)], hM.st⟩
      rw [decide_eq_true c4]
      ((with_reducible (refine mif_nt ?_)))
      refine ⟨fun v w' => v = .bool (decide (x.late l i l[i])) ∧ hM.now w', ?_, ?_⟩
      · by_cases hi0 : 0 < i
        · have hi1 : ((i : Int) - 1).toNat = i - 1 := by omega
          have hprev : l.getD (i - 1) prp0 = l[((i : Int) - 1).toNat] := by
            rw [getD_at (by omega)]
            simp only [hi1]
          ((with_reducible (refine dp_cT trivial ?_ ?_)); (focus (first | assumption | omega | with_reducible rfl | exact fun h => Bool.noConfusion h)); (with_reducible (refine qguard_yes ?_; refine dp_c trivial ?_; refine qguard_yes ?_; refine dp_c trivial ?_; refine qguard_yes ?_; refine dp_c ?_ ?_)); (focus omega); (with_reducible (refine qguard_yes ?_)); (with_reducible refine dp_ixs ‹_› ?_ ?_ ?_); (focus (simp only [List.length_map]; omega)); (focus (simp only [List.length_map]; first | done | omega)); (with_reducible (intro _ _ hA)); (cases hA); (with_reducible (refine qguard_yes ?_)); (with_reducible refine dm_lds0 hM ‹_› (map_at ?_) ?_); (focus omega); (with_reducible (refine qguard_yes ?_; refine dm_ld hM ?_; refine mguard_yes ?_; refine dm_purC hM ?_ (fun _ _ hM => ?_))); (focus (first | exact trivial | assumption | omega)); (with_reducible (refine qguard_yes ?_; refine dp_c trivial ?_; refine dp_c trivial ?_)))
          by_cases c5' : l[((i : Int) - 1).toNat].lt l[i]
          case neg =>
            rw [decide_eq_false c5', Bool.not_false]
            ((with_reducible ((iterate 5 refine qguard_n1 ?_); refine dp_c trivial ?_; (iterate 5 refine qguard_n1 ?_); (iterate 5 refine qguard_un ?_); refine qguard_n1 ?_; refine dp_c trivial ?_; refine mm_end hM ?_; clear hM; intro _ hM)))
            exact ⟨by rw [decide_eq_true (show x.late l i l[i] from .inl ⟨hi0, by rw [hprev]; exact c5'⟩)], hM⟩
          rw [decide_eq_true c5', Bool.not_true]
          have c5 : ¬ (0 < i ∧ ¬ (l.getD (i - 1) prp0).lt l[i]) := fun c => c.2 (by rw [hprev]; exact c5')
          ((with_reducible (refine qguard_yes ?_; refine dp_c trivial ?_; refine qguard_yes ?_; refine dp_c trivial ?_; refine qguard_yes ?_; refine dp_c trivial ?_; refine qguard_yes ?_; refine dm_ld hM ?_; refine qguard_yes ?_)))
          refine dm_mplk hM ?_
          by_cases c6 : l[i].name ∈ (l.take i).map (·.name)
          · rw [decide_eq_true c6]
            ((with_reducible (refine dp_c trivial ?_; (iterate 5 refine qguard_n1 ?_); (iterate 5 refine qguard_un ?_); refine qguard_n1 ?_; refine dp_c trivial ?_; refine mm_end hM ?_; clear hM; intro _ hM)))
            exact ⟨by rw [decide_eq_true (show x.late l i l[i] from .inr (.inl c6))], hM⟩
          rw [decide_eq_false c6]
          ((with_reducible (refine dp_c trivial ?_; refine qguard_yes ?_; refine dp_c trivial ?_; refine qguard_yes ?_; refine dp_c trivial ?_; refine qguard_yes ?_; refine dm_ld hM ?_; refine qguard_yes ?_)))
          ((with_reducible (refine dp_cS trivial ?_ ?_)))
          · intro c7
            ((with_reducible (refine qguard_yes ?_; refine dp_c trivial ?_; refine qguard_yes ?_; refine dp_c trivial ?_; refine qguard_yes ?_; refine dp_c trivial ?_; refine qguard_yes ?_; refine dm_ld hM ?_; refine qguard_yes ?_; refine dp_c trivial ?_; refine qguard_yes ?_)))
            ((with_reducible (refine dp_cS trivial ?_ ?_)))
            · intro c8
              ((with_reducible (refine qguard_yes ?_; refine dp_c trivial ?_; refine dp_c trivial ?_; refine mm_end hM ?_; clear hM; intro _ hM)))
              exact ⟨by rw [decide_eq_true (show x.late l i l[i] from .inr (.inr ⟨c7, c8⟩))], hM⟩
            · intro c8
              ((with_reducible (refine qguard_yes ?_; refine dp_c trivial ?_; refine dp_c trivial ?_; refine mm_end hM ?_; clear hM; intro _ hM)))
              exact ⟨by rw [decide_eq_false (show ¬ x.late l i l[i] from fun c => c.elim c5 fun k => k.elim c6 fun k => c8 k.2)], hM⟩
          · intro c7
            ((with_reducible (refine qguard_yes ?_; refine dp_c trivial ?_; (iterate 5 refine qguard_n2 ?_); refine qguard_yes ?_; refine dp_c trivial ?_; refine dp_c trivial ?_; refine mm_end hM ?_; clear hM; intro _ hM)))
            exact ⟨by rw [decide_eq_false (show ¬ x.late l i l[i] from fun c => c.elim c5 fun k => k.elim c6 fun k => c7 k.1)], hM⟩
        · have c5 : ¬ (0 < i ∧ ¬ (l.getD (i - 1) prp0).lt l[i]) := fun c => hi0 c.1
          ((with_reducible (refine dp_cF trivial ?_ ?_)); (focus (first | assumption | omega | with_reducible rfl | exact fun h => Bool.noConfusion h)); (with_reducible ((iterate 6 refine qguard_n2 ?_); refine mguard_n2 ?_; refine qguard_n2 ?_; refine dp_c trivial ?_; refine qguard_yes ?_; refine dp_c trivial ?_; refine qguard_yes ?_; refine dp_c trivial ?_; refine qguard_yes ?_; refine dp_c trivial ?_; refine qguard_yes ?_; refine dm_ld hM ?_; refine qguard_yes ?_)))
          refine dm_mplk hM ?_
          by_cases c6 : l[i].name ∈ (l.take i).map (·.name)
          · rw [decide_eq_true c6]
            ((with_reducible (refine dp_c trivial ?_; (iterate 5 refine qguard_n1 ?_); (iterate 5 refine qguard_un ?_); refine qguard_n1 ?_; refine dp_c trivial ?_; refine mm_end hM (fun _ hM2 => ?_); replace hM := hM2; clear hM2)))
            exact ⟨by rw [decide_eq_true (show x.late l i l[i] from .inr (.inl c6))], hM⟩
          rw [decide_eq_false c6]
          ((with_reducible (refine dp_c trivial ?_; refine qguard_yes ?_; refine dp_c trivial ?_; refine qguard_yes ?_; refine dp_c trivial ?_; refine qguard_yes ?_; refine dm_ld hM ?_; refine qguard_yes ?_)))
          ((with_reducible (refine dp_cS trivial ?_ ?_)))
          · intro c7
            ((with_reducible (refine qguard_yes ?_; refine dp_c trivial ?_; refine qguard_yes ?_; refine dp_c trivial ?_; refine qguard_yes ?_; refine dp_c trivial ?_; refine qguard_yes ?_; refine dm_ld hM ?_; refine qguard_yes ?_; refine dp_c trivial ?_; refine qguard_yes ?_)))
            ((with_reducible (refine dp_cS trivial ?_ ?_)))
            · intro c8
              ((with_reducible (refine qguard_yes ?_; refine dp_c trivial ?_; refine dp_c trivial ?_; refine mm_end hM (fun _ hM2 => ?_); replace hM := hM2; clear hM2)))
              exact ⟨by rw [decide_eq_true (show x.late l i l[i] from .inr (.inr ⟨c7, c8⟩))], hM⟩
            · intro c8
              ((with_reducible (refine qguard_yes ?_; refine dp_c trivial ?_; refine dp_c trivial ?_; refine mm_end hM (fun _ hM2 => ?_); replace hM := hM2; clear hM2)))
              exact ⟨by rw [decide_eq_false (show ¬ x.late l i l[i] from fun c => c.elim c5 fun k => k.elim c6 fun k => c8 k.2)], hM⟩
          · intro c7
            ((with_reducible (refine qguard_yes ?_; refine dp_c trivial ?_; (iterate 5 refine qguard_n2 ?_); refine qguard_yes ?_; refine dp_c trivial ?_; refine dp_c trivial ?_; refine mm_end hM (fun _ hM2 => ?_); replace hM := hM2; clear hM2)))
            exact ⟨by rw [decide_eq_false (show ¬ x.late l i l[i] from fun c => c.elim c5 fun k => k.elim c6 fun k => c7 k.1)], hM⟩
      rintro v u3 w6 ⟨rfl, hM⟩
      by_cases c5 : x.late l i l[i]
      · rw [decide_eq_true c5]
        ((with_reducible (refine mif_true ?_)))
        exact ⟨by rw [herr 17 (by unfold Plc.one; rw [if_neg (fun c => c c1), if_neg c2, if_neg c3, hver, if_neg (fun c => c c4), if_pos c5]) (by decide)], hM.st⟩
      rw [decide_eq_false c5]
      ((with_reducible (refine mif_false ?_; refine mop_c trivial ?_; refine mop_c trivial ?_; refine mm_ld hM ?_)))
      refine mm_mpput hM (fun c => c5 (.inr (.inl c))) ?_
      clear hM
      intro w7 hM
      have hmt : (l.take i).map (·.name) ++ [l[i].name] = (l.take (i + 1)).map (·.name) := by rw [List.take_succ_eq_append_getElem hlt', List.map_append]; rfl
      rw [hmt] at hM
      have htail : x.one l i l[i] = if l[i].kind = 1 then (if 0 ≤ x.t.place l[i].name then 8 else (cardR x.ti x.roll l[i].name).2) else if 0 ≤ x.t.place l[i].name then 0 else 7 := by
        unfold Plc.one
        rw [if_neg (fun c => c c1), if_neg c2, if_neg c3, hver, if_neg (fun c => c c4), if_neg c5]
      ((with_reducible (refine mm_ld hM ?_; refine mop_c trivial ?_; refine mop_c trivial ?_; refine mm_ld hM ?_)))
      refine mm_pure hM (place_c2 l[i].name hR h hM.fz) (fun w hM => ?_)
      by_cases c8 : 0 ≤ x.t.place l[i].name
      · by_cases k1 : l[i].kind = 1
        · rw [if_pos k1, if_pos c8] at htail
          ((with_reducible (refine mop_cT trivial ?_ ?_)); (focus (first | assumption | omega | with_reducible rfl | exact fun h => Bool.noConfusion h)))
          refine ⟨fun v w' => v = .bool true ∧ hM.now w', ?_, ?_⟩
          · ((with_reducible (refine mop_c trivial ?_; refine mop_c trivial ?_; refine mm_ld hM ?_; refine mop_cT trivial ?_ ?_)); (focus (first | assumption | omega | with_reducible rfl | exact fun h => Bool.noConfusion h)); (with_reducible (refine mguard_yes ?_; refine mop_c trivial ?_; refine mop_c trivial ?_)))
            exact ⟨rfl, hM⟩
          rintro v u3 w8 ⟨rfl, hM⟩
          ((with_reducible (refine mif_true ?_)))
          exact ⟨by rw [herr 8 htail (by decide)], hM.st⟩
        · rw [if_neg k1, if_pos c8] at htail
          ((with_reducible (refine mop_cT trivial ?_ ?_)); (focus (first | assumption | omega | with_reducible rfl | exact fun h => Bool.noConfusion h)))
          refine ⟨fun v w' => v = .bool false ∧ hM.now w', ?_, ?_⟩
          · ((with_reducible (refine mop_c trivial ?_; refine mop_c trivial ?_; refine mm_ld hM ?_; refine mop_cF trivial ?_ ?_)); (focus (first | assumption | omega | with_reducible rfl | exact fun h => Bool.noConfusion h)); (with_reducible (refine mguard_n2 ?_; refine mop_c trivial ?_)))
            exact ⟨rfl, hM⟩
          rintro v u3 w8 ⟨rfl, hM⟩
          ((with_reducible (refine mif_false ?_; refine mop_c trivial ?_; refine mop_c trivial ?_; refine mm_ld hM ?_; refine mop_cF trivial ?_ ?_)); (focus (first | assumption | omega | with_reducible rfl | exact fun h => Bool.noConfusion h)); (with_reducible (refine mif_false ?_; refine mop_c trivial ?_; refine mif_false ?_)))
          exact ⟨htail, hM.sub⟩
      · by_cases k1 : l[i].kind = 1
        · rw [if_pos k1, if_neg c8] at htail
          ((with_reducible (refine mop_cF trivial ?_ ?_)); (focus (first | assumption | omega | with_reducible rfl | exact fun h => Bool.noConfusion h)))
          refine ⟨fun v w' => v = .bool false ∧ hM.now w', ?_, ?_⟩
          · ((with_reducible (refine mop_c trivial ?_; refine mop_c trivial ?_; refine mm_ld hM ?_; refine mop_cT trivial ?_ ?_)); (focus (first | assumption | omega | with_reducible rfl | exact fun h => Bool.noConfusion h)); (with_reducible (refine mguard_yes ?_; refine mop_c trivial ?_; refine mop_c trivial ?_)))
            exact ⟨rfl, hM⟩
          rintro v u3 w8 ⟨rfl, hM⟩
          ((with_reducible (refine mif_false ?_; refine mop_c trivial ?_; refine mop_c trivial ?_; refine mm_ld hM ?_; refine mop_cT trivial ?_ ?_)); (focus (first | assumption | omega | with_reducible rfl | exact fun h => Bool.noConfusion h)); (with_reducible (refine mif_true ?_; refine mm_ld hM ?_; refine mop_c trivial ?_; refine mop_c trivial ?_; refine mm_ld hM ?_)))
          refine mm_pure hM (card_ok x.ti x.roll l[i].name h1 h2 hrl hM.fz) (fun w hM => ?_)
          ((with_reducible (refine mop_c trivial ?_; refine mop_c trivial ?_; refine mm_new hM ?_; clear hM; intro _ _ hM; refine mm_st hM ?_; clear hM; intro _ hM)))
          ((with_reducible (refine mop_cS trivial ?_ ?_)))
          · intro c9
            ((with_reducible (refine mif_true ?_)))
            exact ⟨by rw [herr _ htail c9], hM.st⟩
          · intro c9
            ((with_reducible (refine mif_false ?_)))
            exact ⟨htail.trans (Decidable.of_not_not c9), hM.sub⟩
        · rw [if_neg k1, if_neg c8] at htail
          ((with_reducible (refine mop_cF trivial ?_ ?_)); (focus (first | assumption | omega | with_reducible rfl | exact fun h => Bool.noConfusion h)))
          refine ⟨fun v w' => v = .bool false ∧ hM.now w', ?_, ?_⟩
          · ((with_reducible (refine mop_c trivial ?_; refine mop_c trivial ?_; refine mm_ld hM ?_; refine mop_cF trivial ?_ ?_)); (focus (first | assumption | omega | with_reducible rfl | exact fun h => Bool.noConfusion h)); (with_reducible (refine mguard_n2 ?_; refine mop_c trivial ?_)))
            exact ⟨rfl, hM⟩
          rintro v u3 w8 ⟨rfl, hM⟩
          ((with_reducible (refine mif_false ?_; refine mop_c trivial ?_; refine mop_c trivial ?_; refine mm_ld hM ?_; refine mop_cF trivial ?_ ?_)); (focus (first | assumption | omega | with_reducible rfl | exact fun h => Bool.noConfusion h)); (with_reducible (refine mif_false ?_; refine mop_c trivial ?_; refine mif_true ?_)))
          exact ⟨by rw [herr 7 htail (by decide)], hM.st⟩
    clear hM
    rintro u5 w9 ⟨h0, hM⟩
    ((with_reducible (refine mop_c ?_ ?_)); (focus omega))
    refine ⟨⟨i + 1, rfl, by omega, fun j hji => ?_, hM⟩, by simp only; omega⟩
    rcases Nat.lt_or_ge j i with c | c
    · exact hj j c
    · obtain rfl : j = i := by omega
      rw [hone]
      exact h0
  · intro hge
    obtain rfl : i = l.length := by omega
    ((with_reducible (refine mif_false ?_; refine mm_ld hM ?_; refine mm_ld hM ?_)))
    obtain ⟨s, e, hse⟩ : ∃ s e, appR x.t x.ti x.roll l = (s, e) := ⟨_, _, rfl⟩
    have hfa : x.fit l = e := by
      rw [x.fit_app hr (by omega) hj]
      show (appR x.t x.ti x.roll l).2 = e
      rw [hse]
    refine mm_call hM (capply_ok x.t x.ti x.roll l (by omega) h h1 h2 hrl hs hM.fz) ?_
    rintro H2 v w5 le2 hM hQ
    obtain ⟨v1, F, fc, rfl, hT1, hs1⟩ := hQ s e hse
    clear hQ
    obtain ⟨C1, c1, D1, d1, q1, rfl, -⟩ := hT1.ex
    ((with_reducible ((iterate 4 refine mop_c trivial ?_); refine mm_new hM ?_; clear hM; intro _ _ hM; refine mm_new hM ?_; clear hM; intro _ _ hM; refine mm_st hM ?_; clear hM; intro _ hM; refine mm_st hM ?_; clear hM; intro _ hM)))
    exact ⟨by rw [hfa], hM.st⟩
end
end Go.Proofs.YtopcnkejobomaaaGreat
namespace Go.Proofs.YtopcnkejobomaaaGreat
open Go.RowKit Go.Lib
section
variable {H : Hp} {w0 w : World} {L R : List Res} {A K : Option Addr} {a kc : Nat} {qs : List (List Fd)} {v : Value}
theorem rone_ok (x : Plc) (l : List Chg.Prp) (i : Nat) (hi : i < l.length) (hl : l.length ≤ 16) (h : TrF H v x.t) (h1 : Sl H 33 A qs) (h2 : All2 (PsF H) qs x.roll) (hrl : x.roll.length ≤ maxLen) (hs : Sl H 101 K (l.map Chg.Prp.fds)) (hf : Fz H w) :
    Calls Tryz.prog 108 #[v, .agg (tis x.ti.1).toArray, .slice A x.roll.length a, ha x.ep, .int .i64 x.depth, .int .i64 x.me, .slice K l.length kc, .int .i64 i] w fun en w' => en = .returned (.int .i64 (x.one l i l[i])) ∧ St w [] w' := by
  obtain ⟨w1, hw1⟩ : ∃ w1, w1 = w := ⟨_, rfl⟩
  rw [← hw1]
  rw [← hw1] at hf
  obtain ⟨A0, a0, B0, b0, q0, hv, t1, t2, t3⟩ := h.ex
  rw [hv] at h ⊢
  have hlen := h.len
  simp only [maxLen] at hlen
  have hM := Mem.start hf
  refine C_bevyref10_one ?_
  unfold F_bevyref10_one
  ((with_reducible (refine mm_box hM ?_; clear hM; intro _ _ hM; refine mm_box hM ?_; clear hM; intro _ _ hM; refine mm_box hM ?_; clear hM; intro _ _ hM)); (with_reducible refine mm_ixs ‹_› ?_ ?_ ?_); (focus (simp only [List.length_map]; omega)); (focus (simp only [List.length_map]; first | done | omega)); (with_reducible (intro _ _ hA)); (cases hA); (with_reducible refine mm_lds0 hM ‹_› (map_atI ?_) ?_); (focus omega); (with_reducible (refine mm_new hM ?_; clear hM; intro _ _ hM; refine mm_st hM ?_; clear hM; intro _ hM; refine mm_ld hM ?_; refine mm_purC hM ?_ ?_)); (focus (first | exact trivial | assumption | omega)); (with_reducible (clear hM; intro _ hM; refine mop_c trivial ?_)))
  rename_i g17 _ _
  by_cases c1 : l[i].right
  case neg =>
    rw [decide_eq_false c1]
    ((with_reducible (refine mif_nf ?_)))
    exact ⟨by unfold Plc.one; rw [if_pos c1], hM.st⟩
  rw [decide_eq_true c1]
  ((with_reducible (refine mif_nt ?_)))
  refine ⟨fun v w' => v = .bool (decide (l[i].epoch ≠ x.ep ∨ l[i].depth ≠ x.depth)) ∧ hM.now w', ?_, ?_⟩
  · ((with_reducible (refine mop_c trivial ?_; refine mm_ld hM ?_; refine mm_ld hM ?_)))
    ((with_reducible (refine mop_cS trivial ?_ ?_)))
    · intro e1
      ((with_reducible ((iterate 4 refine mguard_n1 ?_); refine mop_c trivial ?_)))
      exact ⟨by rw [decide_eq_true (.inl e1)], hM⟩
    · intro e1
      ((with_reducible (refine mguard_yes ?_; refine mop_c trivial ?_; refine mguard_yes ?_; refine mm_ld hM ?_; refine mguard_yes ?_; refine mop_c trivial ?_; refine mguard_yes ?_)))
      refine ⟨?_, hM⟩
      rw [if_neg (by simp), Value.bool.injEq]
      by_cases e2 : l[i].depth = x.depth
      · rw [decide_eq_false (show ¬ (l[i].epoch ≠ x.ep ∨ l[i].depth ≠ x.depth) from fun c => c.elim e1 fun k => k e2), e2]
        simp
      · rw [decide_eq_true (show l[i].epoch ≠ x.ep ∨ l[i].depth ≠ x.depth from .inr e2)]
        simpa using e2
  rintro v u2 w5 ⟨rfl, hM⟩
  by_cases c2 : l[i].epoch ≠ x.ep ∨ l[i].depth ≠ x.depth
  · rw [decide_eq_true c2]
    ((with_reducible (refine mif_true ?_)))
    exact ⟨by unfold Plc.one; rw [if_neg (fun c => c c1), if_pos c2], hM.st⟩
  rw [decide_eq_false c2]
  ((with_reducible (refine mif_false ?_; refine mm_ld hM ?_; refine mop_c trivial ?_; refine mm_ld hM ?_)))
  refine mm_pure hM (rplace_c l[i].author h hM.fz) (fun w hM => ?_)
  skip
  ((with_reducible (refine mop_cS trivial ?_ ?_)))
  · intro c3
    ((with_reducible (refine mif_true ?_)))
    exact ⟨by unfold Plc.one; rw [if_neg (fun c => c c1), if_neg c2, if_pos c3], hM.st⟩
  intro c3
  obtain ⟨-, k, hk, hkl, -⟩ := plc_some (show 0 ≤ x.t.place l[i].author by omega)
  rw [hk]
  ((with_reducible (refine mif_false ?_; refine dm_ld hM ?_; refine dp_c trivial ?_; refine dm_ld hM ?_)); (with_reducible refine dp_ixs ‹_› ?_ ?_ ?_); (focus (simp only [List.length_map]; omega)); (focus (simp only [List.length_map]; first | done | omega)); (with_reducible (intro _ _ hA)); (cases hA); (with_reducible (refine dp_c trivial ?_)); (with_reducible refine dm_lds hM ‹_› (map_atI ?_) ?_); (focus omega); (with_reducible (refine dm_purC hM ?_ (fun _ _ hM => ?_))); (focus (first | exact trivial | assumption | omega)); (with_reducible (refine dp_c trivial ?_; refine mm_end hM ?_; clear hM; intro _ hM)))
  have hver : x.t.verOf l[i].author = x.t.ls[k].ver := by
    unfold Tr.verOf
    rw [hk, Int.toNat_natCast, getD_at hkl]
  by_cases c4 : l[i].checks x.t.ls[k].ver
  case neg =>
    rw [decide_eq_false c4]
    ((with_reducible (refine mif_nf ?_)))
    exact ⟨by unfold Plc.one; rw [if_neg (fun c => c c1), if_neg c2, if_neg c3, hver, if_pos c4], hM.st⟩
  rw [decide_eq_true c4]
  ((with_reducible (refine mif_nt ?_)))
  have h17 : x.late l i l[i] → x.one l i l[i] = 17 := fun c => by
    unfold Plc.one
    rw [if_neg (fun c => c c1), if_neg c2, if_neg c3, hver, if_neg (fun c => c c4), if_pos c]
  refine ⟨fun v w' => v = .bool (decide (0 < i ∧ ¬ (l.getD (i - 1) prp0).lt l[i])) ∧ hM.now w', ?_, ?_⟩
  · by_cases hi0 : 0 < i
    · have hi1 : ((i : Int) - 1).toNat = i - 1 := by omega
      have hprev : l.getD (i - 1) prp0 = l[((i : Int) - 1).toNat] := by
        rw [getD_at (by omega)]
        simp only [hi1]
      ((with_reducible (refine dp_cT trivial ?_ ?_)); (focus (first | assumption | omega | with_reducible rfl | exact fun h => Bool.noConfusion h)); (with_reducible (refine qguard_yes ?_; refine dp_c trivial ?_; refine qguard_yes ?_; refine dp_c trivial ?_; refine qguard_yes ?_; refine dp_c ?_ ?_)); (focus omega); (with_reducible (refine qguard_yes ?_)); (with_reducible refine dp_ixs ‹_› ?_ ?_ ?_); (focus (simp only [List.length_map]; omega)); (focus (simp only [List.length_map]; first | done | omega)); (with_reducible (intro _ _ hA)); (cases hA); (with_reducible (refine qguard_yes ?_)); (with_reducible refine dm_lds0 hM ‹_› (map_at ?_) ?_); (focus omega); (with_reducible (refine qguard_yes ?_; refine dm_ld hM ?_; refine mguard_yes ?_; refine dm_purC hM ?_ (fun _ _ hM => ?_))); (focus (first | exact trivial | assumption | omega)); (with_reducible (refine qguard_yes ?_; refine dp_c trivial ?_; refine dp_c trivial ?_; refine mm_end hM ?_; clear hM; intro _ hM)))
      refine ⟨?_, hM⟩
      rw [hprev]
      by_cases c5 : l[((i : Int) - 1).toNat].lt l[i]
      · rw [decide_eq_true c5, decide_eq_false (fun c => c.2 c5)]
        rfl
      · rw [decide_eq_false c5, decide_eq_true ⟨hi0, c5⟩]
        rfl
    · ((with_reducible (refine dp_cF trivial ?_ ?_)); (focus (first | assumption | omega | with_reducible rfl | exact fun h => Bool.noConfusion h)); (with_reducible ((iterate 6 refine qguard_n2 ?_); refine mguard_n2 ?_; refine qguard_n2 ?_; refine dp_c trivial ?_; refine mm_end hM (fun _ hM2 => ?_); replace hM := hM2; clear hM2)))
      exact ⟨by rw [decide_eq_false (fun c => hi0 c.1)], hM⟩
  rintro v u3 w6 ⟨rfl, hM⟩
  by_cases c5 : 0 < i ∧ ¬ (l.getD (i - 1) prp0).lt l[i]
  · rw [decide_eq_true c5]
    ((with_reducible (refine mif_true ?_)))
    exact ⟨by rw [h17 (.inl c5)], hM.st⟩
  rw [decide_eq_false c5]
  ((with_reducible (refine mif_false ?_)))
  refine ⟨fun v w' => ∃ k : Nat, v = .int .i64 k ∧ k ≤ i ∧ (∀ j (hj : j < l.length), j < k → l[j].name ≠ l[i].name) ∧ hM.now w', fun v _ => match v with | .int _ k => i - k.toNat | _ => 0, ⟨0, rfl, by omega, fun j _ h => by omega, hM⟩, ?_⟩
  rintro v u4 w7 ⟨m, rfl, hm, hno, hM⟩
  ((with_reducible (refine mop_cS trivial ?_ ?_)))
  · intro hlt
    have hlt' : m < l.length := by omega
    ((with_reducible (refine mif_true ?_)); (with_reducible refine dp_ixs ‹_› ?_ ?_ ?_); (focus (simp only [List.length_map]; omega)); (focus (simp only [List.length_map]; first | done | omega)); (with_reducible (intro _ _ hA)); (cases hA); (with_reducible (refine dp_c trivial ?_; refine dp_c trivial ?_)))
    refine dm_lds (off := 36) hM hs (map_atI (by omega)) ?_
    ((with_reducible (refine dp_c trivial ?_; refine dp_c trivial ?_; refine dm_ld hM ?_)))
    ((with_reducible (refine dp_cS trivial ?_ ?_)))
    · intro c6
      ((with_reducible (refine mm_end hM ?_; clear hM; intro _ hM; refine mif_true ?_)))
      refine ⟨?_, hM.st⟩
      rw [h17 (.inr (.inl ?_))]
      rw [← c6]
      exact List.mem_map_of_mem (List.mem_take_iff_getElem.2 ⟨m, by omega, rfl⟩)
    · intro c6
      ((with_reducible (refine mm_end hM ?_; clear hM; intro _ hM; refine mif_false ?_; refine mop_c ?_ ?_)); (focus omega))
      refine ⟨⟨m + 1, rfl, by omega, fun j hj hjm => ?_, hM⟩, by simp only; omega⟩
      rcases Nat.lt_or_ge j m with c | c
      · exact hno j hj c
      · obtain rfl : j = m := by omega
        exact c6
  intro hge
  obtain rfl : m = i := by omega
  have c6 : l[m].name ∉ (l.take m).map (·.name) := fun c => by
    obtain ⟨q, hq, e⟩ := List.mem_map.1 c
    obtain ⟨j, hj, rfl⟩ := List.mem_take_iff_getElem.1 hq
    exact hno j (by omega) (by omega) e
  ((with_reducible (refine mif_false ?_)))
  refine ⟨fun v w' => v = .bool (decide (l[m].kind ≠ 1 ∧ l[m].name = x.me)) ∧ hM.now w', ?_, ?_⟩
  · ((with_reducible (refine mop_c trivial ?_; refine mop_c trivial ?_; refine mm_ld hM ?_)))
    ((with_reducible (refine mop_cS trivial ?_ ?_)))
    · intro c7
      ((with_reducible (refine mguard_yes ?_; refine mop_c trivial ?_; refine mguard_yes ?_; refine mop_c trivial ?_; refine mguard_yes ?_; refine mm_ld hM ?_; refine mguard_yes ?_; refine mop_c trivial ?_; refine mguard_yes ?_)))
      ((with_reducible (refine mop_cS trivial ?_ ?_)))
      · intro c8
        ((with_reducible (refine mop_c trivial ?_)))
        exact ⟨by rw [decide_eq_true ⟨c7, c8⟩], hM⟩
      · intro c8
        ((with_reducible (refine mop_c trivial ?_)))
        exact ⟨by rw [decide_eq_false (fun c => c8 c.2)], hM⟩
    · intro c7
      ((with_reducible ((iterate 5 refine mguard_n2 ?_); refine mop_c trivial ?_)))
      exact ⟨by rw [decide_eq_false (fun c => c7 c.1)], hM⟩
  rintro v u5 w8 ⟨rfl, hM⟩
  by_cases c7 : l[m].kind ≠ 1 ∧ l[m].name = x.me
  · rw [decide_eq_true c7]
    ((with_reducible (refine mif_true ?_)))
    exact ⟨by rw [h17 (.inr (.inr c7))], hM.st⟩
  rw [decide_eq_false c7]
  have htail : x.one l m l[m] = if l[m].kind = 1 then (if 0 ≤ x.t.place l[m].name then 8 else (cardR x.ti x.roll l[m].name).2) else if 0 ≤ x.t.place l[m].name then 0 else 7 := by
    unfold Plc.one
    rw [if_neg (fun c => c c1), if_neg c2, if_neg c3, hver, if_neg (fun c => c c4), if_neg (fun c => c.elim c5 fun k => k.elim c6 c7)]
  rw [htail]
  ((with_reducible (refine mif_false ?_; refine mm_ld hM ?_; refine mop_c trivial ?_; refine mop_c trivial ?_; refine mm_ld hM ?_)))
  refine mm_pure hM (rplace_c l[m].name h hM.fz) (fun w hM => ?_)
  by_cases c8 : 0 ≤ x.t.place l[m].name
  · by_cases k1 : l[m].kind = 1
    · rw [if_pos k1, if_pos c8]
      ((with_reducible (refine mop_cT trivial ?_ ?_)); (focus (first | assumption | omega | with_reducible rfl | exact fun h => Bool.noConfusion h)); (with_reducible (refine mop_c trivial ?_; refine mop_c trivial ?_; refine mm_ld hM ?_; refine mop_cF trivial ?_ ?_)); (focus (first | assumption | omega | with_reducible rfl | exact fun h => Bool.noConfusion h)); (with_reducible (refine mif_false ?_; refine mif_true ?_)))
      exact ⟨rfl, hM.st⟩
    · rw [if_neg k1, if_pos c8]
      ((with_reducible (refine mop_cT trivial ?_ ?_)); (focus (first | assumption | omega | with_reducible rfl | exact fun h => Bool.noConfusion h)); (with_reducible (refine mop_c trivial ?_; refine mop_c trivial ?_; refine mm_ld hM ?_; refine mop_cT trivial ?_ ?_)); (focus (first | assumption | omega | with_reducible rfl | exact fun h => Bool.noConfusion h)); (with_reducible (refine mif_true ?_; refine mop_c trivial ?_; refine mif_false ?_)))
      exact ⟨rfl, hM.st⟩
  · by_cases k1 : l[m].kind = 1
    · rw [if_pos k1, if_neg c8]
      ((with_reducible (refine mop_cF trivial ?_ ?_)); (focus (first | assumption | omega | with_reducible rfl | exact fun h => Bool.noConfusion h)); (with_reducible (refine mop_c trivial ?_; refine mop_c trivial ?_; refine mm_ld hM ?_; refine mop_cF trivial ?_ ?_)); (focus (first | assumption | omega | with_reducible rfl | exact fun h => Bool.noConfusion h)); (with_reducible (refine mif_false ?_; refine mif_false ?_; refine mm_ld hM ?_; refine mop_c trivial ?_; refine mop_c trivial ?_; refine mm_ld hM ?_)))
      refine mm_pure hM (rcard_ok x.ti x.roll l[m].name h1 h2 hrl hM.fz) (fun w hM => ?_)
      ((with_reducible (refine mop_c trivial ?_; refine mop_c trivial ?_; refine mm_new hM ?_; clear hM; intro _ _ hM; refine mm_st hM ?_; clear hM; intro _ hM)))
      exact ⟨rfl, hM.st⟩
    · rw [if_neg k1, if_neg c8]
      ((with_reducible (refine mop_cF trivial ?_ ?_)); (focus (first | assumption | omega | with_reducible rfl | exact fun h => Bool.noConfusion h)); (with_reducible (refine mop_c trivial ?_; refine mop_c trivial ?_; refine mm_ld hM ?_; refine mop_cT trivial ?_ ?_)); (focus (first | assumption | omega | with_reducible rfl | exact fun h => Bool.noConfusion h)); (with_reducible (refine mif_true ?_; refine mop_c trivial ?_; refine mif_true ?_)))
      exact ⟨rfl, hM.st⟩
theorem rfit_ok (x : Plc) (l : List Chg.Prp) (hl : l.length ≤ maxLen) (h : TrF H v x.t) (h1 : Sl H 33 A qs) (h2 : All2 (PsF H) qs x.roll) (hrl : x.roll.length ≤ maxLen) (hs : Sl H 101 K (l.map Chg.Prp.fds)) (hf : Fz H w) :
    Calls Tryz.prog 69 #[v, .agg (tis x.ti.1).toArray, .slice A x.roll.length a, ha x.ep, .int .i64 x.depth, .int .i64 x.me, .slice K l.length kc] w fun en w' => en = .returned (.int .i64 (x.fit l)) ∧ St w [] w' := by
  obtain ⟨w1, hw1⟩ : ∃ w1, w1 = w := ⟨_, rfl⟩
  rw [← hw1]
  rw [← hw1] at hf
  obtain ⟨A0, a0, B0, b0, q0, hv, t1, t2, t3⟩ := h.ex
  rw [hv] at h ⊢
  have hl' : l.length ≤ 9223372036854775807 := hl
  have hM := Mem.start hf
  refine C_bevyref10_Fit ?_
  unfold F_bevyref10_Fit
  ((with_reducible (refine mm_box hM ?_; clear hM; intro _ _ hM; refine mm_box hM ?_; clear hM; intro _ _ hM; refine mm_box hM ?_; clear hM; intro _ _ hM; refine mm_ld hM ?_)))
  refine mm_pure hM (tright_c h hM.fz) (fun w hM => ?_)
  cases hr : x.t.right
  · ((with_reducible (refine mop_c trivial ?_; refine mif_true ?_)))
    exact ⟨by rw [show x.fit l = 1 from if_pos (by rw [hr]; exact Bool.false_ne_true)], hM.st⟩
  ((with_reducible (refine mop_c trivial ?_; refine mif_false ?_; refine mop_c trivial ?_)))
  ((with_reducible (refine mop_cS trivial ?_ ?_)))
  · intro c16
    ((with_reducible (refine mif_true ?_)))
    refine ⟨?_, hM.st⟩
    unfold Plc.fit
    rw [if_neg (fun c => c hr), if_pos (by omega)]
  intro c16
  ((with_reducible (refine mif_false ?_)))
  refine ⟨fun v w' => ∃ i : Nat, v = .int .i64 i ∧ i ≤ l.length ∧ (∀ j, j < i → x.at_ l j = 0) ∧ hM.now w', fun v _ => match v with | .int _ k => l.length - k.toNat | _ => 0, ⟨0, rfl, by omega, fun j h => by omega, hM⟩, ?_⟩
  rintro v u w4 ⟨i, rfl, hi, hj, hM⟩
  ((with_reducible (refine mop_c trivial ?_)))
  ((with_reducible (refine mop_cS trivial ?_ ?_)))
  · intro hlt
    have hlt' : i < l.length := by omega
    ((with_reducible (refine mif_true ?_; (iterate 3 refine mm_ld hM ?_))))
    refine mm_pure hM (rone_ok x l i hlt' (by omega) h h1 h2 hrl hs hM.fz) (fun w hM => ?_)
    skip
    ((with_reducible (refine mop_cS trivial ?_ ?_)))
    · intro c
      ((with_reducible (refine mif_true ?_)))
      exact ⟨by rw [x.fit_err hr (by omega) hlt' hj rfl c], hM.st⟩
    · intro c
      ((with_reducible (refine mif_false ?_; refine mop_c ?_ ?_)); (focus omega))
      refine ⟨⟨i + 1, rfl, by omega, fun j hji => ?_, hM⟩, by simp only; omega⟩
      rcases Nat.lt_or_ge j i with c2 | c2
      · exact hj j c2
      · obtain rfl : j = i := by omega
        rw [x.at_get hlt']
        exact Decidable.of_not_not c
  · intro hge
    obtain rfl : i = l.length := by omega
    ((with_reducible (refine mif_false ?_; refine mm_ld hM ?_; refine mm_ld hM ?_)))
    obtain ⟨s, e, hse⟩ : ∃ s e, appR x.t x.ti x.roll l = (s, e) := ⟨_, _, rfl⟩
    have hfa : x.fit l = e := by
      rw [x.fit_app hr (by omega) hj]
      show (appR x.t x.ti x.roll l).2 = e
      rw [hse]
    refine mm_call hM (rapply_ok x.t x.ti x.roll l (by omega) h h1 h2 hrl hs hM.fz) ?_
    rintro H2 v w5 le2 hM hQ
    obtain ⟨v1, F, fc, rfl, hT1, hs1⟩ := hQ s e hse
    clear hQ
    obtain ⟨C1, c1, D1, d1, q1, rfl, -⟩ := hT1.ex
    ((with_reducible ((iterate 4 refine mop_c trivial ?_); refine mm_new hM ?_; clear hM; intro _ _ hM; refine mm_new hM ?_; clear hM; intro _ _ hM; refine mm_st hM ?_; clear hM; intro _ hM; refine mm_st hM ?_; clear hM; intro _ hM)))
    exact ⟨by rw [hfa], hM.st⟩
end
end Go.Proofs.YtopcnkejobomaaaGreat
