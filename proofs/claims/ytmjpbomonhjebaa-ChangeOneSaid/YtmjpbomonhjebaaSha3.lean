/- Sum: the program's digest of parts. -/
import Derived.Test.YtmjpbomonhjebaaSha2
namespace Go.Proofs.Ytmjpbomonhjebaa
open Go.RowKit

/-- What stands behind n bytes: a one, noughts, the length. -/
def lenB (n : Nat) (i : Nat) : Int := ((n : Int) % 18446744073709551616 * 8 % 18446744073709551616) / 2 ^ (56 - 8 * (i : Int)).toNat % 256
def padding (n : Nat) : List Int := (128 :: List.replicate (63 - (n + 8) % 64) 0) ++ (List.range 8).map (lenB n)
def outAt (l : List Int) (i : Nat) : Int := l.getD (i / 4) 0 / 2 ^ (24 - 8 * (i % 4)) % 256
def outB (s : S8) : List Int := (List.range 32).map (outAt s.list)
/-- The digest. -/
def shaSum (bs : List Int) : List Int := outB (feedAll (h0, []) (bs ++ padding bs.length)).1
theorem shaSum_length (bs : List Int) : (shaSum bs).length = 32 := by simp [shaSum, outB]
theorem outB_range (s : S8) : ∀ x ∈ outB s, 0 ≤ x ∧ x < 256 := by
  intro x hx
  obtain ⟨i, _, rfl⟩ := List.mem_map.1 hx
  unfold outAt
  omega
theorem shaSum_range (bs : List Int) : ∀ x ∈ shaSum bs, 0 ≤ x ∧ x < 256 := outB_range _
/-- A row that is filled from its head. -/
def fill (f : Nat → Int) (n i : Nat) : List Int := (List.range i).map f ++ List.replicate (n - i) 0
theorem fill_length (f : Nat → Int) (n i : Nat) (h : i ≤ n) : (fill f n i).length = n := by simp [fill]; omega
theorem fill_set (f : Nat → Int) (n i : Nat) (h : i < n) : (fill f n i).set i (f i) = fill f n (i + 1) := by
  unfold fill
  rw [List.set_append, if_neg (by simp), List.length_map, List.length_range, Nat.sub_self, List.range_succ, List.map_append, List.append_assoc]
  congr 1
  rw [show n - i = (n - (i + 1)) + 1 by omega, List.replicate_succ]
  rfl
theorem set_u8s (l : List Int) (i : Nat) (v : Int) : (u8s l).set i (.int .u8 v) = u8s (l.set i v) := by simp [u8s, List.map_set]
theorem u8s_length (l : List Int) : (u8s l).length = l.length := by simp [u8s]
/-- A digest as a value. -/
def hv (l : List Int) : Value := .agg (u8s l).toArray
theorem hv_cells (l : List Int) : (hv l).cells = (u8s l).toArray := rfl
theorem cells_of_row {w : World} {b : Nat} {t : TypeId} {cs : List Value} (h : Blf w b t cs) : ∀ k v, cs[k]? = some v → w.cell? ⟨b, 0 + k, none⟩ = some v := fun k v hk => by
  rw [Nat.zero_add, h.cell]; exact hk
theorem lay_all (cs vs : List Value) (h : vs.length = cs.length) : lay cs vs 0 = vs := by
  unfold lay
  rw [List.take_zero, List.nil_append, List.drop_eq_nil_of_le (by omega), List.append_nil]

set_option maxRecDepth 100000 in
theorem rounds_ok (w : World) : Calls Try.prog 115 #[] w fun e w' => e = .returned (.agg (u32s kl).toArray) ∧ St w [] w' := by
  refine C_sha_rounds ?_
  unfold F_sha_rounds
  refine mop_new (St.nil w) (fun g w1 h1 => ?_)
  refine mop_pur (v := .agg (u32s kl).toArray) (fun w => by kernel_rfl) ?_
  refine mop_storeN (q := true) (k := 64) (by kernel_rfl) h1 rfl (by intro u hu; obtain ⟨x, _, rfl⟩ := List.mem_map.1 (show u ∈ kl.map (Value.int .u32) from hu); rfl) (by simp) (fun w2 h2 => ?_)
  have e : lay (List.replicate 64 (Value.int .u32 0)) (Value.agg (u32s kl).toArray).cells.toList 0 = u32s kl := lay_all _ _ rfl
  rw [e] at h2
  refine rcell_ldN (cells_of_row h2.head) rfl ?_
  exact ⟨rfl, h2.drop⟩
def cat (ss : List ByteArray) : List Int := (ss.map ints).flatten
theorem cat_take (ss : List ByteArray) (k : Nat) (h : k < ss.length) : cat (ss.take (k + 1)) = cat (ss.take k) ++ ints ss[k] := by
  unfold cat
  rw [List.take_succ_eq_append_getElem h, List.map_append, List.flatten_append]
  simp only [List.map_cons, List.map_nil, List.flatten_cons, List.flatten_nil, List.append_nil]
theorem cat_append (a b : List ByteArray) : cat (a ++ b) = cat a ++ cat b := by simp only [cat, List.map_append, List.flatten_append]
theorem cat_le (ss : List ByteArray) (k : Nat) : (cat (ss.take k)).length ≤ (cat ss).length := by
  conv => rhs; rw [← List.take_append_drop k ss, cat_append, List.length_append]
  omega
theorem cat_range (ss : List ByteArray) : ∀ x ∈ cat ss, 0 ≤ x ∧ x < 256 := by
  intro x hx
  obtain ⟨l, hl, hx⟩ := List.mem_flatten.1 hx
  obtain ⟨s, _, rfl⟩ := List.mem_map.1 hl
  exact ints_range s x hx
theorem lenB_range (n i : Nat) : 0 ≤ lenB n i ∧ lenB n i < 256 := by unfold lenB; omega
theorem padding_range (n : Nat) : ∀ x ∈ padding n, 0 ≤ x ∧ x < 256 := by
  intro x hx
  simp only [padding, List.mem_append, List.mem_cons, List.mem_replicate, List.mem_map] at hx
  rcases hx with (rfl | ⟨_, rfl⟩) | ⟨i, _, rfl⟩
  · omega
  · omega
  · exact lenB_range n i
theorem dig0 : Dig (h0, []) 0 (List.replicate 64 0) := by
  refine ⟨⟨?_, ?_, ?_, ?_, ?_, ?_, ?_, ?_⟩, by simp, ?_, rfl, by simp⟩
  all_goals first
    | (constructor <;> decide)
    | (intro c hc; rw [List.eq_of_mem_replicate hc]; omega)
/-- The tail behind i of its last eight bytes. -/
def tailK (n z i : Nat) : List Int := (128 :: List.replicate z 0) ++ fill (lenB n) (71 - z) i
theorem tailK_length (n z i : Nat) (hz : z ≤ 63) (hi : i ≤ 8) : (tailK n z i).length = 72 := by
  simp [tailK, fill_length (lenB n) (71 - z) i (by omega)]; omega
theorem tailK_set (n z i : Nat) (hz : z ≤ 63) (hi : i < 8) : (tailK n z i).set (z + 1 + i) (lenB n i) = tailK n z (i + 1) := by
  unfold tailK
  rw [List.set_append, if_neg (by simp), List.length_cons, List.length_replicate, show z + 1 + i - (z + 1) = i by omega, fill_set _ _ _ (by omega)]
theorem tailK_zero (n z : Nat) (hz : z ≤ 63) : (List.replicate 72 (0 : Int)).set 0 128 = tailK n z 0 := by
  unfold tailK fill
  rw [show 72 = (z + (71 - z)) + 1 by omega, List.replicate_succ, List.set_cons_zero, ← List.replicate_append_replicate]
  simp
theorem tailK_end (n : Nat) : (tailK n (63 - (n + 8) % 64) 8).take (63 - (n + 8) % 64 + 9) = padding n := by
  unfold tailK fill padding
  rw [← List.append_assoc, List.take_append_of_le_length (by simp), List.take_of_length_le (by simp)]

set_option maxRecDepth 100000 in
set_option maxHeartbeats 1000000 in
theorem sum_ok (A : Option Addr) (ss : List ByteArray) (c : Nat) (w : World) (hr : Rd w A (ss.map .string)) (hss : ss.length < 9223372036854775807) (hsz : (cat ss).length < 4611686018427387904) :
    Calls Try.prog 68 #[.slice A ss.length c] w fun e w' => e = .returned (hv (shaSum (cat ss))) ∧ St w [] w' := by
  refine C_sha_Sum ?_
  unfold F_sha_Sum
  refine mop_new (St.nil w) (fun go w1 h1 => ?_)
  refine mop_pur (build8 _ _ _ _ _ _ _ _) ?_
  refine mop_to (rounds_ok w1) ?_
  rintro e w2 ⟨rfl, h2⟩
  have h2 := h1.call0 h2
  refine mop_pur (v := .agg (stCells h0.list (List.replicate 64 0) 0).toArray) (fun w => by kernel_rfl) ?_
  refine mop_box h2 (fun b w3 h3 => ?_)
  have h3 : St w [⟨b, 155, stCells h0.list (List.replicate 64 0) 0, true⟩, ⟨go, 23, u8s (List.replicate 32 0), true⟩] w3 := h3
  clear h1 h2
  refine mop_c trivial ?_
  refine ⟨fun v w2 => ∃ (k : Nat) (bl : List Int), k ≤ ss.length ∧ v = .int .i64 k ∧ Dig (feedAll (h0, []) (cat (ss.take k))) (cat (ss.take k)).length bl ∧
      St w [⟨b, 155, stCells (feedAll (h0, []) (cat (ss.take k))).1.list bl ((cat (ss.take k)).length : Int), true⟩, ⟨go, 23, u8s (List.replicate 32 0), true⟩] w2, fun v _ => ss.length - (intOf v).toNat, ⟨0, _, by omega, rfl, dig0, h3⟩, ?_⟩
  clear h3
  rintro v u w4 ⟨k, bl, hk, rfl, hd, h4⟩
  refine mop_c trivial ?_
  refine mif_dec (fun hlt => ?_) (fun hge => ?_)
  · have hk' : k < ss.length := by omega
    have x0 : (ss.map Value.string)[k]? = some (.string ss[k]) := by simp [hk']
    obtain ⟨ab, ao, rfl, hab, hc⟩ := hr.at_ x0
    (repeat (first | (refine mop_c ?_ ?_; first | exact trivial | omega) | (refine dp_c ?_ ?_; first | exact trivial | omega)))
    refine mop_ld (j := ao + k) ((h4.old (p := ⟨ab, ao + k, none⟩) hab (by intro q hq hn; simp at hq; rcases hq with rfl | rfl <;> cases hn)).trans (hc k _ x0)) (by omega) ?_
    have hcl := cat_le ss (k + 1)
    rw [cat_take ss k hk', List.length_append, ints_length] at hcl
    refine mop_to (put_ok b _ _ bl ss[k] w4 h4.head hd (by omega)) ?_
    rintro e w5 ⟨rfl, bl', hd5, h5⟩
    have h6 := h4.call1 h5
    (repeat (first | (refine mop_c ?_ ?_; first | exact trivial | omega) | (refine dp_c ?_ ?_; first | exact trivial | omega)))
    rw [← feedAll_append, ← ints_length, ← List.length_append, ← cat_take ss k hk'] at hd5 h6
    exact ⟨⟨k + 1, bl', hk', rfl, hd5, h6⟩, by simp [intOf]; omega⟩
  · obtain rfl : k = ss.length := by omega
    rw [List.take_length] at hd h4
    obtain ⟨n, hn⟩ : ∃ n, n = (cat ss).length := ⟨_, rfl⟩
    have hsum : shaSum (cat ss) = outB (feedAll (feedAll (h0, []) (cat ss)) (padding n)).1 := by rw [shaSum, feedAll_append, hn]
    rw [hsum]
    rw [← hn] at hd h4 hsz
    generalize feedAll (h0, []) (cat ss) = x at hd h4
    have hl8 : x.1.list.length = 8 := rfl
    refine mop_new h4 (fun gt w5 h5 => ?_)
    (repeat (first | (refine mop_c ?_ ?_; first | exact trivial | omega) | (refine dp_c ?_ ?_; first | exact trivial | omega)))
    refine mop_st (j := 0) h5 rfl (by simp) rfl (fun w6 h6 => ?_)
    (repeat (first | (refine mop_c ?_ ?_; first | exact trivial | omega) | (refine dp_c ?_ ?_; first | exact trivial | omega)))
    refine mop_ld ((h6.cell 1 rfl 72).trans (st_n hl8 hd.len)) rfl ?_
    (repeat (first | (refine mop_c ?_ ?_; first | exact trivial | omega) | (refine dp_c ?_ ?_; first | exact trivial | omega)))
    have hz : (64 : Int) - ((n : Int) + 8) % 64 = ((63 - (n + 8) % 64 + 1 : Nat) : Int) := by omega
    rw [hz]
    have h6 : St w [⟨gt, 157, u8s (tailK n (63 - (n + 8) % 64) 0), true⟩, ⟨b, 155, stCells x.1.list bl (n : Int), true⟩, ⟨go, 23, u8s (List.replicate 32 0), true⟩] w6 := by
      rw [← tailK_zero n (63 - (n + 8) % 64) (by omega), ← set_u8s]
      exact h6
    have hend := tailK_end n
    obtain ⟨z, hzz⟩ : ∃ z, z = 63 - (n + 8) % 64 := ⟨_, rfl⟩
    rw [← hzz] at h6 hend ⊢
    have hz63 : z ≤ 63 := by omega
    clear hz hzz
    refine ⟨fun v w2 => ∃ i : Nat, i ≤ 8 ∧ v = .int .i64 i ∧ St w [⟨gt, 157, u8s (tailK n z i), true⟩, ⟨b, 155, stCells x.1.list bl (n : Int), true⟩, ⟨go, 23, u8s (List.replicate 32 0), true⟩] w2, fun v _ => 8 - (intOf v).toNat, ⟨0, by omega, rfl, h6⟩, ?_⟩
    clear h4 h5 h6
    rintro v u2 w7 ⟨i, hi, rfl, h7⟩
    refine mop_c trivial ?_
    refine mif_dec (fun hlt => ?_) (fun hge => ?_)
    · (repeat (first | (refine mop_c ?_ ?_; first | exact trivial | omega) | (refine dp_c ?_ ?_; first | exact trivial | omega)))
      refine mop_ld ((h7.cell 1 rfl 72).trans (st_n hl8 hd.len)) rfl ?_
      (repeat (first | (refine mop_c ?_ ?_; first | exact trivial | omega) | (refine dp_c ?_ ?_; first | exact trivial | omega)))
      refine mop_st (j := z + 1 + i) h7 (by omega) (by rw [u8s_length, tailK_length n z i hz63 (by omega)]; omega) rfl (fun w8 h8 => ?_)
      have h8 : St w [⟨gt, 157, u8s (tailK n z (i + 1)), true⟩, ⟨b, 155, stCells x.1.list bl (n : Int), true⟩, ⟨go, 23, u8s (List.replicate 32 0), true⟩] w8 := by
        rw [← tailK_set n z i hz63 (by omega), ← set_u8s]
        exact h8
      (repeat (first | (refine mop_c ?_ ?_; first | exact trivial | omega) | (refine dp_c ?_ ?_; first | exact trivial | omega)))
      exact ⟨⟨i + 1, by omega, rfl, h8⟩, by simp [intOf]; omega⟩
    · obtain rfl : i = 8 := by omega
      (repeat (first | (refine mop_c ?_ ?_; first | exact trivial | omega) | (refine dp_c ?_ ?_; first | exact trivial | omega)))
      have hto : (((z + 1 : Nat) : Int) + 8).toNat = z + 9 := by omega
      rw [hto]
      have htl := tailK_length n z 8 hz63 (by omega)
      refine mop_purW (pw_conv_bytes 86 9 5 gt 0 (z + 9) 72 (padding n) (by kernel_rfl) (by kernel_rfl) (by kernel_rfl) (by rw [← hend, List.length_take, htl]; omega) (fun i hi => ?_)) ?_
      · rw [h7.head.cell, ← hend, Nat.zero_add, u8s_at _ _ (by omega)]
        congr 2
        simp [List.getD, hi]
      have hpl : (padding n).length = z + 9 := by rw [← hend, List.length_take, htl]; omega
      have hps : (strOfNums (padding n)).size = z + 9 := by rw [← ints_length, ints_str _ (padding_range n), hpl]
      have h7 := h7.swap
      refine mop_to (put_ok b x n bl (strOfNums (padding n)) w7 h7.head hd (by omega)) ?_
      rintro e w8 ⟨rfl, bl', hd8, h8⟩
      rw [ints_str _ (padding_range n)] at hd8 h8
      have h9 := h7.call1 h8
      generalize feedAll x (padding n) = y at hd8 h9 ⊢
      clear h7 h8
      have hy8 : y.1.list.length = 8 := rfl
      refine mop_new h9 (fun gu w9 h10 => ?_)
      refine ⟨fun v w2 => ∃ i : Nat, i ≤ 32 ∧ v = .int .i64 i ∧ ∃ L, St w (⟨gu, 23, u8s (fill (outAt y.1.list) 32 i), true⟩ :: ⟨b, 155, stCells y.1.list bl' ((n + (strOfNums (padding n)).size : Nat) : Int), true⟩ :: ⟨gt, 157, L, true⟩ :: ⟨go, 23, u8s (List.replicate 32 0), true⟩ :: []) w2, fun v _ => 32 - (intOf v).toNat, ⟨0, by omega, rfl, _, h10⟩, ?_⟩
      clear h9 h10
      rintro v u3 w10 ⟨i, hi, rfl, L, h11⟩
      refine mop_c trivial ?_
      refine mif_dec (fun hlt => ?_) (fun hge => ?_)
      · (repeat (first | (refine mop_c ?_ ?_; first | exact trivial | omega) | (refine dp_c ?_ ?_; first | exact trivial | omega)))
        have hq : (0 + 0 + ((i : Int) / 4).toNat) = 0 + i / 4 := by omega
        refine mop_ld ((h11.cell 1 rfl (i / 4)).trans (st_h hy8 (i / 4) (by omega))) (by omega) ?_
        (repeat (first | (refine mop_c ?_ ?_; first | exact trivial | omega) | (refine dp_c ?_ ?_; first | exact trivial | omega)))
        refine mop_st (j := i) h11 (by omega) (by rw [u8s_length, fill_length _ _ _ hi]; omega) rfl (fun w11 h12 => ?_)
        have h12 : St w (⟨gu, 23, u8s (fill (outAt y.1.list) 32 (i + 1)), true⟩ :: ⟨b, 155, stCells y.1.list bl' ((n + (strOfNums (padding n)).size : Nat) : Int), true⟩ :: ⟨gt, 157, L, true⟩ :: ⟨go, 23, u8s (List.replicate 32 0), true⟩ :: []) w11 := by
          rw [← fill_set _ _ _ (by omega), ← set_u8s]
          have e : outAt y.1.list i = y.1.list.getD (i / 4) 0 / 2 ^ ((24 : Int) - 8 * ((i : Int) % 4)).toNat % 256 := by
            unfold outAt
            congr 3
            omega
          rw [e]
          exact h12
        (repeat (first | (refine mop_c ?_ ?_; first | exact trivial | omega) | (refine dp_c ?_ ?_; first | exact trivial | omega)))
        exact ⟨⟨i + 1, by omega, rfl, L, h12⟩, by simp [intOf]; omega⟩
      · obtain rfl : i = 32 := by omega
        have hf : fill (outAt y.1.list) 32 32 = outB y.1 := by simp [fill, outB]
        rw [hf] at h11
        have hol : (u8s (outB y.1)).length = 32 := by simp [outB, u8s]
        refine mop_ldN (cells_of_row h11.head) hol rfl ?_
        have h13 := h11.drop.drop.drop
        refine mop_storeN (q := true) (k := 32) (by kernel_rfl) h13 (by simpa [Value.cells] using hol) (by intro u hu; exact u8s_one _ u hu) (by simp [u8s]) (fun w12 h14 => ?_)
        have e : lay (u8s (List.replicate 32 0)) (Value.agg (u8s (outB y.1)).toArray).cells.toList 0 = u8s (outB y.1) := lay_all _ _ (by show (u8s (outB y.1)).length = _; rw [hol]; simp [u8s])
        rw [e] at h14
        refine rcell_ldN (cells_of_row h14.head) hol ?_
        exact ⟨rfl, h14.drop⟩
end Go.Proofs.Ytmjpbomonhjebaa
