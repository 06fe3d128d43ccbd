/- Part 4 of the proof. -/
import Derived.Test.YtopcnkejobomaaaPc3
import Derived.OpenShut
import Derived.MapKept
namespace Go.Proofs.Ytopcnkejobomaaa
open Go.RowKit
theorem bits_or_comm (a b : Int) : bits .or .u32 a b = bits .or .u32 b a := by
  show IntKind.u32.wrap ((BitVec.ofInt 32 a ||| BitVec.ofInt 32 b).toNat : Int) = IntKind.u32.wrap ((BitVec.ofInt 32 b ||| BitVec.ofInt 32 a).toNat : Int)
  rw [BitVec.or_comm]
theorem wrap_u32_bd (a : Int) : 0 ≤ IntKind.u32.wrap a ∧ IntKind.u32.wrap a < 4294967296 := by
  have : IntKind.u32.wrap a = a % 4294967296 := by simp [IntKind.wrap, IntKind.bits, IntKind.signed]
  rw [this]; omega
def Wd (x : Int) : Prop := 0 ≤ x ∧ x < 4294967296
theorem wd_or (a b : Int) : Wd (bits .or .u32 a b) := wrap_u32_bd _
theorem wd_mod (a : Int) : Wd (a % 4294967296) := ⟨by omega, by omega⟩
def rotr (x : Int) (k : Nat) : Int := bits .or .u32 (x / 2 ^ k) (x * 2 ^ (32 - k) % 4294967296)
def word4 (a b c d : Int) : Int := bits .or .u32 (bits .or .u32 (bits .or .u32 (a * 16777216 % 4294967296) (b * 65536 % 4294967296)) (c * 256 % 4294967296)) d
def sig0 (x : Int) : Int := bits .xor .u32 (bits .xor .u32 (rotr x 7) (rotr x 18)) (x / 8)
def sig1 (x : Int) : Int := bits .xor .u32 (bits .xor .u32 (rotr x 17) (rotr x 19)) (x / 1024)
def nextw (a b x y : Int) : Int := (((a + b) % 4294967296 + sig0 x) % 4294967296 + sig1 y) % 4294967296
def wl (bs : List Int) : Nat → List Int
  | 0 => []
  | i + 1 => wl bs i ++ [if i < 16 then word4 (bs.getD (4 * i) 0) (bs.getD (4 * i + 1) 0) (bs.getD (4 * i + 2) 0) (bs.getD (4 * i + 3) 0)
      else nextw ((wl bs i).getD (i - 16) 0) ((wl bs i).getD (i - 7) 0) ((wl bs i).getD (i - 15) 0) ((wl bs i).getD (i - 2) 0)]
structure S8 where
  a : Int
  b : Int
  c : Int
  d : Int
  e : Int
  f : Int
  g : Int
  h : Int
  deriving DecidableEq
def S8.t1 (s : S8) (k w : Int) : Int :=
  ((((s.h + bits .xor .u32 (bits .xor .u32 (rotr s.e 6) (rotr s.e 11)) (rotr s.e 25)) % 4294967296 + bits .xor .u32 (bits .and .u32 s.e s.f) (bits .and .u32 (bits .xor .u32 4294967295 s.e) s.g)) % 4294967296 + k) % 4294967296 + w) % 4294967296
def S8.t2 (s : S8) : Int :=
  (bits .xor .u32 (bits .xor .u32 (rotr s.a 2) (rotr s.a 13)) (rotr s.a 22) + bits .xor .u32 (bits .xor .u32 (bits .and .u32 s.a s.b) (bits .and .u32 s.a s.c)) (bits .and .u32 s.b s.c)) % 4294967296
def S8.rnd (s : S8) (k w : Int) : S8 := ⟨(s.t1 k w + s.t2) % 4294967296, s.a, s.b, s.c, (s.d + s.t1 k w) % 4294967296, s.e, s.f, s.g⟩
def kl : List Int := [1116352408, 1899447441, 3049323471, 3921009573, 961987163, 1508970993, 2453635748, 2870763221, 3624381080, 310598401, 607225278, 1426881987, 1925078388, 2162078206, 2614888103, 3248222580, 3835390401, 4022224774, 264347078, 604807628, 770255983, 1249150122, 1555081692, 1996064986, 2554220882, 2821834349, 2952996808, 3210313671, 3336571891, 3584528711, 113926993, 338241895, 666307205, 773529912, 1294757372, 1396182291, 1695183700, 1986661051, 2177026350, 2456956037, 2730485921, 2820302411, 3259730800, 3345764771, 3516065817, 3600352804, 4094571909, 275423344, 430227734, 506948616, 659060556, 883997877, 958139571, 1322822218, 1537002063, 1747873779, 1955562222, 2024104815, 2227730452, 2361852424, 2428436474, 2756734187, 3204031479, 3329325298]
def rl (ws : List Int) : Nat → S8 → S8
  | 0, s => s
  | i + 1, s => (rl ws i s).rnd (kl.getD i 0) (ws.getD i 0)
def S8.add (s t : S8) : S8 := ⟨(s.a + t.a) % 4294967296, (s.b + t.b) % 4294967296, (s.c + t.c) % 4294967296, (s.d + t.d) % 4294967296, (s.e + t.e) % 4294967296, (s.f + t.f) % 4294967296, (s.g + t.g) % 4294967296, (s.h + t.h) % 4294967296⟩
def compress (s : S8) (bs : List Int) : S8 := s.add (rl (wl bs 64) 64 s)
def h0 : S8 := ⟨1779033703, 3144134277, 1013904242, 2773480762, 1359893119, 2600822924, 528734635, 1541459225⟩
def feed (x : S8 × List Int) (b : Int) : S8 × List Int := if x.2.length = 63 then (compress x.1 (x.2 ++ [b]), []) else (x.1, x.2 ++ [b])
end Go.Proofs.Ytopcnkejobomaaa
namespace Go.Proofs.Ytopcnkejobomaaa
@[simp] theorem kd_lit (n : Nat) : (OfNat.ofNat n : Kd) = Kd.ty n := rfl
theorem rot_k (x : Int) (k : Int) (c : Nat) (w : World) (h : Wd x) (hc : 0 < c ∧ c < 32) (hk : bits .and .u64 (k % 18446744073709551616) 31 = ((32 - c : Nat) : Int)) :
    Calls Try.prog 151 #[.int .u32 x, .int .i64 k] w fun e w' => e = .returned (.int .u32 (rotr x c)) ∧ w = w' := by
  obtain ⟨h0, h1⟩ := h
  refine C_math_bits_RotateLeft32 ?_
  unfold F_math_bits_RotateLeft32
  refine mop_c trivial ?_
  refine mop_c trivial ?_
  rw [hk]
  (repeat (first | (refine mop_c ?_ ?_; first | exact trivial | omega) | (refine dp_c ?_ ?_; first | exact trivial | omega)))
  refine ⟨?_, rfl⟩
  have e1 : ((32 - c : Nat) : Int).toNat = 32 - c := by omega
  have e2 : ((32 - ((32 - c : Nat) : Int)) % 18446744073709551616).toNat = c := by omega
  rw [e1, e2, bits_or_comm]
  rfl
theorem turned_k (x : Int) (c : Nat) (w : World) (h : Wd x) (hc : 0 < c ∧ c < 32) :
    Calls Try.prog 101 #[.int .u32 x, .int .u64 (c : Int)] w fun e w' => e = .returned (.int .u32 (rotr x c)) ∧ w = w' := by
  obtain ⟨h0, h1⟩ := h
  refine C_bevyref02_turned ?_
  unfold F_bevyref02_turned
  (repeat (first | (refine mop_c ?_ ?_; first | exact trivial | omega) | (refine dp_c ?_ ?_; first | exact trivial | omega)))
  refine ⟨?_, rfl⟩
  have e1 : ((c : Nat) : Int).toNat = c := by omega
  have e2 : ((32 - (c : Int)) % 18446744073709551616).toNat = 32 - c := by omega
  rw [e1, e2]
  rfl
end Go.Proofs.Ytopcnkejobomaaa
namespace Go.Proofs.Ytopcnkejobomaaa
open Go.RowKit
theorem wl_len (bs : List Int) : ∀ i, (wl bs i).length = i
  | 0 => rfl
  | i + 1 => by rw [wl, List.length_append, wl_len bs i]; rfl
theorem wl_old (bs : List Int) (i j : Nat) (h : j < i) : (wl bs (i + 1)).getD j 0 = (wl bs i).getD j 0 := by
  rw [wl, List.getD_eq_getElem?_getD, List.getElem?_append_left (by rw [wl_len]; exact h)]
  rfl
theorem wl_new (bs : List Int) (i : Nat) : (wl bs (i + 1)).getD i 0 = if i < 16 then word4 (bs.getD (4 * i) 0) (bs.getD (4 * i + 1) 0) (bs.getD (4 * i + 2) 0) (bs.getD (4 * i + 3) 0)
      else nextw ((wl bs i).getD (i - 16) 0) ((wl bs i).getD (i - 7) 0) ((wl bs i).getD (i - 15) 0) ((wl bs i).getD (i - 2) 0) := by
  conv => lhs; rw [wl]
  rw [List.getD_eq_getElem?_getD, List.getElem?_append_right (by rw [wl_len]; exact Nat.le_refl _), wl_len, Nat.sub_self]
  rfl
theorem wl_wd (bs : List Int) : ∀ i j, Wd ((wl bs i).getD j 0)
  | 0, j => by simp [wl, Wd]
  | i + 1, j => by
    rcases Nat.lt_trichotomy j i with h | h | h
    · rw [wl_old bs i j h]; exact wl_wd bs i j
    · subst h
      rw [wl_new]
      split
      · exact wd_or _ _
      · exact wd_mod _
    · rw [List.getD_eq_getElem?_getD, List.getElem?_eq_none (by rw [wl_len]; omega)]
      simp [Wd]
def stCells (hs bl : List Int) (n : Int) : List Value := u32s hs ++ (u8s bl ++ (Value.int .i64 n :: u32s kl))
theorem kl_len : kl.length = 64 := by decide
section
variable {hs bl : List Int} {n : Int}
theorem st_len (hh : hs.length = 8) (hb : bl.length = 64) : (stCells hs bl n).length = 137 := by
  simp [stCells, u32s, u8s, hh, hb, kl_len]
theorem st_h (hh : hs.length = 8) (i : Nat) (hi : i < 8) : (stCells hs bl n)[i]? = some (.int .u32 (hs.getD i 0)) := by
  rw [stCells, List.getElem?_append_left (by simp [u32s]; omega), u32s_at _ _ (by omega)]
theorem st_b (hh : hs.length = 8) (hb : bl.length = 64) (i : Nat) (hi : i < 64) : (stCells hs bl n)[8 + i]? = some (.int .u8 (bl.getD i 0)) := by
  rw [stCells, List.getElem?_append_right (by simp [u32s]; omega), List.getElem?_append_left (by simp [u32s, u8s]; omega)]
  rw [show 8 + i - (u32s hs).length = i by simp [u32s]; omega, u8s_at _ _ (by omega)]
theorem st_n (hh : hs.length = 8) (hb : bl.length = 64) : (stCells hs bl n)[72]? = some (.int .i64 n) := by
  rw [stCells, List.getElem?_append_right (by simp [u32s]; omega), List.getElem?_append_right (by simp [u32s, u8s]; omega)]
  rw [show 72 - (u32s hs).length - (u8s bl).length = 0 by simp [u32s, u8s]; omega]
  rfl
theorem st_k (hh : hs.length = 8) (hb : bl.length = 64) (i : Nat) (hi : i < 64) : (stCells hs bl n)[73 + i]? = some (.int .u32 (kl.getD i 0)) := by
  rw [stCells, List.getElem?_append_right (by simp [u32s]; omega), List.getElem?_append_right (by simp [u32s, u8s]; omega)]
  rw [show 73 + i - (u32s hs).length - (u8s bl).length = i + 1 by simp [u32s, u8s]; omega, List.getElem?_cons_succ, u32s_at _ _ (by rw [kl_len]; exact hi)]
theorem st_set_h (hh : hs.length = 8) (i : Nat) (hi : i < 8) (v : Int) : (stCells hs bl n).set i (.int .u32 v) = stCells (hs.set i v) bl n := by
  rw [stCells, stCells, List.set_append, if_pos (by simp [u32s]; omega)]
  simp [u32s, List.map_set]
theorem st_set_n (hh : hs.length = 8) (hb : bl.length = 64) (v : Int) : (stCells hs bl n).set 72 (.int .i64 v) = stCells hs bl v := by
  rw [stCells, stCells, List.set_append, if_neg (by simp [u32s]; omega), List.set_append, if_neg (by simp [u32s, u8s]; omega)]
  rw [show 72 - (u32s hs).length - (u8s bl).length = 0 by simp [u32s, u8s]; omega]
  rfl
end
theorem getD_bd (l : List Int) (i : Nat) (h : ∀ x ∈ l, 0 ≤ x ∧ x < 256) : 0 ≤ l.getD i 0 ∧ l.getD i 0 < 256 := by
  rw [List.getD_eq_getElem?_getD]
  cases hx : l[i]? with
  | none => simp
  | some x => exact h x (List.mem_of_getElem? hx)
theorem getD_wd (l : List Int) (i : Nat) (h : ∀ x ∈ l, Wd x) : Wd (l.getD i 0) := by
  rw [List.getD_eq_getElem?_getD]
  cases hx : l[i]? with
  | none => simp [Wd]
  | some x => exact h x (List.mem_of_getElem? hx)
def wk (bl : List Int) (k : Nat) : List Int := wl bl k ++ List.replicate (64 - k) 0
theorem wk_len (bl : List Int) (k : Nat) (h : k ≤ 64) : (wk bl k).length = 64 := by simp [wk, wl_len]; omega
theorem wk_at (bl : List Int) (k j : Nat) (h : j < k) : (u32s (wk bl k))[j]? = some (.int .u32 ((wl bl k).getD j 0)) := by
  rw [u32s_at _ _ (by simp [wk, wl_len]; omega), wk]
  congr 2
  rw [List.getD_eq_getElem?_getD, List.getElem?_append_left (by rw [wl_len]; exact h)]
  rfl
theorem wk_set (bl : List Int) (k : Nat) (h : k < 64) (v : Int) (hv : (wl bl (k + 1)).getD k 0 = v) : (u32s (wk bl k)).set k (.int .u32 v) = u32s (wk bl (k + 1)) := by
  have e : wl bl (k + 1) = wl bl k ++ [v] := by
    rw [wl]
    rw [wl_new] at hv
    rw [hv]
  unfold u32s wk
  rw [← List.map_set, List.set_append, if_neg (by rw [wl_len]; omega), wl_len, Nat.sub_self, e, List.append_assoc]
  congr 2
  rw [show 64 - k = (64 - (k + 1)) + 1 by omega, List.replicate_succ]
  rfl
def s8 (hs : List Int) : S8 := ⟨hs.getD 0 0, hs.getD 1 0, hs.getD 2 0, hs.getD 3 0, hs.getD 4 0, hs.getD 5 0, hs.getD 6 0, hs.getD 7 0⟩
def S8.list (s : S8) : List Int := [s.a, s.b, s.c, s.d, s.e, s.f, s.g, s.h]
structure S8.Ok (s : S8) : Prop where
  a : Wd s.a
  b : Wd s.b
  c : Wd s.c
  d : Wd s.d
  e : Wd s.e
  f : Wd s.f
  g : Wd s.g
  h : Wd s.h
theorem rl_ok (ws : List Int) {s : S8} (h : s.Ok) : ∀ i, (rl ws i s).Ok
  | 0 => h
  | i + 1 => by
    have h := rl_ok ws h i
    exact ⟨wd_mod _, h.a, h.b, h.c, wd_mod _, h.e, h.f, h.g⟩
def addK (hs ts : List Int) : Nat → List Int
  | 0 => hs
  | i + 1 => (addK hs ts i).set i ((hs.getD i 0 + ts.getD i 0) % 4294967296)
theorem addK_len (hs ts : List Int) : ∀ i, (addK hs ts i).length = hs.length
  | 0 => rfl
  | i + 1 => by rw [addK, List.length_set, addK_len hs ts i]
theorem addK_at (hs ts : List Int) : ∀ i j, i ≤ j → (addK hs ts i).getD j 0 = hs.getD j 0
  | 0, j, _ => rfl
  | i + 1, j, h => by
    rw [addK, List.getD_eq_getElem?_getD, List.getElem?_set_ne (by omega), ← List.getD_eq_getElem?_getD]
    exact addK_at hs ts i j (by omega)
theorem addK_end (hs : List Int) (s : S8) (hh : hs.length = 8) : addK hs s.list 8 = ((s8 hs).add s).list := by
  match hs, hh with
  | [a, b, c, d, e, f, g, h], _ => rfl
theorem build8 (a b c d e f g h : Int) : Pur Try.prog (o_build 140 [(0, .int .u32 a), (1, .int .u32 b), (2, .int .u32 c), (3, .int .u32 d), (4, .int .u32 e), (5, .int .u32 f), (6, .int .u32 g), (7, .int .u32 h)])
  (.agg (u32s [a, b, c, d, e, f, g, h]).toArray) := fun w => by kernel_rfl
set_option maxRecDepth 100000 in
set_option maxHeartbeats 2000000 in
theorem turn_ok (b : Nat) (hs bl : List Int) (n : Int) (w : World) (hb : Blf w b 145 (stCells hs bl n)) (hh : hs.length = 8) (hbl : bl.length = 64) (hby : ∀ x ∈ bl, 0 ≤ x ∧ x < 256) (hhw : ∀ x ∈ hs, Wd x) :
    Calls Try.prog 127 #[.pointer (some ⟨b, 0, none⟩)] w fun e w' => e = .returned (.tuple #[]) ∧ St w [⟨b, 145, stCells (compress (s8 hs) bl).list bl n, false⟩] w' := by
  refine C_sha_state_turn ?_
  unfold F_sha_state_turn
  refine mop_new (St.oneF hb) (fun g w1 h1 => ?_)
  refine ⟨fun x w2 => ∃ k : Nat, k ≤ 16 ∧ x = .int .i64 k ∧ St w [⟨g, 141, u32s (wk bl k), true⟩, ⟨b, 145, stCells hs bl n, false⟩] w2, fun x _ => 16 - (intOf x).toNat, ⟨0, by omega, rfl, h1⟩, ?_⟩
  rintro x21 u w2 ⟨k, hk, rfl, h2⟩
  refine mop_c trivial ?_
  refine mif_dec (fun hlt => ?_) (fun hge => ?_)
  · have q0 := getD_bd bl (4 * k) hby
    have q1 := getD_bd bl (4 * k + 1) hby
    have q2 := getD_bd bl (4 * k + 2) hby
    have q3 := getD_bd bl (4 * k + 3) hby
    (repeat (first | (refine mop_c ?_ ?_; first | exact trivial | omega) | (refine dp_c ?_ ?_; first | exact trivial | omega)))
    refine dq_ld ((h2.cell 1 rfl (8 + 4 * k)).trans (st_b hh hbl (4 * k) (by omega))) (by omega) ?_
    (repeat (first | (refine mop_c ?_ ?_; first | exact trivial | omega) | (refine dp_c ?_ ?_; first | exact trivial | omega)))
    refine dq_ld ((h2.cell 1 rfl (8 + (4 * k + 1))).trans (st_b hh hbl (4 * k + 1) (by omega))) (by omega) ?_
    (repeat (first | (refine mop_c ?_ ?_; first | exact trivial | omega) | (refine dp_c ?_ ?_; first | exact trivial | omega)))
    refine dq_ld ((h2.cell 1 rfl (8 + (4 * k + 2))).trans (st_b hh hbl (4 * k + 2) (by omega))) (by omega) ?_
    (repeat (first | (refine mop_c ?_ ?_; first | exact trivial | omega) | (refine dp_c ?_ ?_; first | exact trivial | omega)))
    refine dq_ld ((h2.cell 1 rfl (8 + (4 * k + 3))).trans (st_b hh hbl (4 * k + 3) (by omega))) (by omega) ?_
    (repeat (first | (refine mop_c ?_ ?_; first | exact trivial | omega) | (refine dp_c ?_ ?_; first | exact trivial | omega)))
    refine df_st (j := k) h2 (by omega) (by simp [u32s, wk_len bl k (by omega)]; omega) rfl (fun w3 h3 => ?_)
    refine dend_intro fun w4 hd => ?_
    have h4 := h3.drawn hd
    (repeat (first | (refine mop_c ?_ ?_; first | exact trivial | omega) | (refine dp_c ?_ ?_; first | exact trivial | omega)))
    refine ⟨⟨k + 1, by omega, rfl, ?_⟩, by simp [intOf]; omega⟩
    rw [wk_set bl k (by omega)] at h4
    · exact h4
    · rw [wl_new, if_pos (by omega)]
      rfl
  · obtain rfl : k = 16 := by omega
    refine ⟨fun x w2 => ∃ k : Nat, 16 ≤ k ∧ k ≤ 64 ∧ x = .int .i64 k ∧ St w [⟨g, 141, u32s (wk bl k), true⟩, ⟨b, 145, stCells hs bl n, false⟩] w2, fun x _ => 64 - (intOf x).toNat, ⟨16, by omega, by omega, rfl, h2⟩, ?_⟩
    clear h1 h2
    rintro x5 u2 w3 ⟨k, hk0, hk, rfl, h3⟩
    refine mop_c trivial ?_
    refine mif_dec (fun hlt => ?_) (fun hge => ?_)
    · have d15 := wl_wd bl k (k - 15)
      have d2 := wl_wd bl k (k - 2)
      (repeat (first | (refine mop_c ?_ ?_; first | exact trivial | omega) | (refine dp_c ?_ ?_; first | exact trivial | omega)))
      refine dq_ld ((h3.cell 0 rfl (k - 15)).trans (wk_at bl k (k - 15) (by omega))) (by omega) ?_
      (repeat (first | (refine mop_c ?_ ?_; first | exact trivial | omega) | (refine dp_c ?_ ?_; first | exact trivial | omega)))
      refine dq_ld ((h3.cell 0 rfl (k - 2)).trans (wk_at bl k (k - 2) (by omega))) (by omega) ?_
      refine dend_intro fun w4 hd => ?_
      have h4 := h3.drawn hd
      (repeat (first | (refine mop_c ?_ ?_; first | exact trivial | omega) | (refine dp_c ?_ ?_; first | exact trivial | omega)))
      refine dq_ld ((h4.cell 0 rfl (k - 16)).trans (wk_at bl k (k - 16) (by omega))) (by omega) ?_
      (repeat (first | (refine mop_c ?_ ?_; first | exact trivial | omega) | (refine dp_c ?_ ?_; first | exact trivial | omega)))
      refine dq_ld ((h4.cell 0 rfl (k - 7)).trans (wk_at bl k (k - 7) (by omega))) (by omega) ?_
      (repeat (first | (refine mop_c ?_ ?_; first | exact trivial | omega) | (refine dp_c ?_ ?_; first | exact trivial | omega)))
      refine df_eq (fun w => rot_k _ (-7) 7 w d15 (by decide) (by decide)) fun w5 hd5 => ?_
      refine df_eq (fun w => rot_k _ (-18) 18 w d15 (by decide) (by decide)) fun w6 hd6 => ?_
      (repeat (first | (refine mop_c ?_ ?_; first | exact trivial | omega) | (refine dp_c ?_ ?_; first | exact trivial | omega)))
      refine df_eq (fun w => rot_k _ (-17) 17 w d2 (by decide) (by decide)) fun w7 hd7 => ?_
      refine df_eq (fun w => rot_k _ (-19) 19 w d2 (by decide) (by decide)) fun w8 hd8 => ?_
      (repeat (first | (refine mop_c ?_ ?_; first | exact trivial | omega) | (refine dp_c ?_ ?_; first | exact trivial | omega)))
      have h8 := h4.drawn (((hd5.trans hd6).trans hd7).trans hd8)
      refine df_st (j := k) h8 (by omega) (by simp [u32s, wk_len bl k hk]; omega) rfl (fun w9 h9 => ?_)
      refine dend_intro fun w10 hd10 => ?_
      have h10 := h9.drawn hd10
      (repeat (first | (refine mop_c ?_ ?_; first | exact trivial | omega) | (refine dp_c ?_ ?_; first | exact trivial | omega)))
      refine ⟨⟨k + 1, by omega, by omega, rfl, ?_⟩, by simp [intOf]; omega⟩
      rw [wk_set bl k (by omega)] at h10
      · exact h10
      · rw [wl_new, if_neg (by omega)]
        rfl
    · obtain rfl : k = 64 := by omega
      have hw : wk bl 64 = wl bl 64 := by simp [wk]
      have hWl : (wl bl 64).length = 64 := wl_len bl 64
      have hcomp : compress (s8 hs) bl = (s8 hs).add (rl (wl bl 64) 64 (s8 hs)) := rfl
      rw [hw] at h3
      rw [hcomp]
      clear hw hcomp
      generalize wl bl 64 = W at h3 hWl ⊢
      (repeat (first | (refine mop_c ?_ ?_; first | exact trivial | omega) | (refine dp_c ?_ ?_; first | exact trivial | omega)))
      refine dq_ld ((h3.cell 1 rfl 0).trans (st_h hh 0 (by omega))) rfl ?_
      (repeat (first | (refine mop_c ?_ ?_; first | exact trivial | omega) | (refine dp_c ?_ ?_; first | exact trivial | omega)))
      refine dq_ld ((h3.cell 1 rfl 1).trans (st_h hh 1 (by omega))) rfl ?_
      (repeat (first | (refine mop_c ?_ ?_; first | exact trivial | omega) | (refine dp_c ?_ ?_; first | exact trivial | omega)))
      refine dq_ld ((h3.cell 1 rfl 2).trans (st_h hh 2 (by omega))) rfl ?_
      (repeat (first | (refine mop_c ?_ ?_; first | exact trivial | omega) | (refine dp_c ?_ ?_; first | exact trivial | omega)))
      refine dq_ld ((h3.cell 1 rfl 3).trans (st_h hh 3 (by omega))) rfl ?_
      (repeat (first | (refine mop_c ?_ ?_; first | exact trivial | omega) | (refine dp_c ?_ ?_; first | exact trivial | omega)))
      refine dq_ld ((h3.cell 1 rfl 4).trans (st_h hh 4 (by omega))) rfl ?_
      (repeat (first | (refine mop_c ?_ ?_; first | exact trivial | omega) | (refine dp_c ?_ ?_; first | exact trivial | omega)))
      refine dq_ld ((h3.cell 1 rfl 5).trans (st_h hh 5 (by omega))) rfl ?_
      (repeat (first | (refine mop_c ?_ ?_; first | exact trivial | omega) | (refine dp_c ?_ ?_; first | exact trivial | omega)))
      refine dq_ld ((h3.cell 1 rfl 6).trans (st_h hh 6 (by omega))) rfl ?_
      (repeat (first | (refine mop_c ?_ ?_; first | exact trivial | omega) | (refine dp_c ?_ ?_; first | exact trivial | omega)))
      refine dq_ld ((h3.cell 1 rfl 7).trans (st_h hh 7 (by omega))) rfl ?_
      refine dend_intro fun w4 hd => ?_
      have h4 := h3.drawn hd
      clear h3
      have hok : (s8 hs).Ok := ⟨getD_wd _ _ hhw, getD_wd _ _ hhw, getD_wd _ _ hhw, getD_wd _ _ hhw, getD_wd _ _ hhw, getD_wd _ _ hhw, getD_wd _ _ hhw, getD_wd _ _ hhw⟩
      refine ⟨fun xa xb xc xd xe xf xg xh x w2 => ∃ i : Nat, i ≤ 64 ∧ x = .int .i64 i ∧ xa = .int .u32 (rl W i (s8 hs)).a ∧ xb = .int .u32 (rl W i (s8 hs)).b ∧ xc = .int .u32 (rl W i (s8 hs)).c ∧ xd = .int .u32 (rl W i (s8 hs)).d ∧
          xe = .int .u32 (rl W i (s8 hs)).e ∧ xf = .int .u32 (rl W i (s8 hs)).f ∧ xg = .int .u32 (rl W i (s8 hs)).g ∧ xh = .int .u32 (rl W i (s8 hs)).h ∧
          St w [⟨g, 141, u32s W, true⟩, ⟨b, 145, stCells hs bl n, false⟩] w2, fun _ _ _ _ _ _ _ _ x _ => 64 - (intOf x).toNat, ⟨0, by omega, rfl, rfl, rfl, rfl, rfl, rfl, rfl, rfl, rfl, h4⟩, ?_⟩
      clear h4 hd
      rintro xa xb xc xd xe xf xg xh x u3 w5 ⟨i, hi, rfl, rfl, rfl, rfl, rfl, rfl, rfl, rfl, rfl, h5⟩
      have hr := rl_ok W hok i
      have hrs : rl W (i + 1) (s8 hs) = (rl W i (s8 hs)).rnd (kl.getD i 0) (W.getD i 0) := rfl
      obtain ⟨s', hs'⟩ : ∃ s', s' = rl W (i + 1) (s8 hs) := ⟨_, rfl⟩
      obtain ⟨s, hs64⟩ : ∃ s, rl W i (s8 hs) = s := ⟨_, rfl⟩
      rw [← hs'] at hrs
      rw [hs64] at hr hrs
      rw [hs64]
      refine mop_c trivial ?_
      refine mif_dec (fun hlt => ?_) (fun hge => ?_)
      · refine df_eq (fun w => rot_k _ (-6) 6 w hr.e (by decide) (by decide)) fun w6 hd6 => ?_
        refine df_eq (fun w => rot_k _ (-11) 11 w hr.e (by decide) (by decide)) fun w7 hd7 => ?_
        (repeat (first | (refine mop_c ?_ ?_; first | exact trivial | omega) | (refine dp_c ?_ ?_; first | exact trivial | omega)))
        refine df_eq (fun w => rot_k _ (-25) 25 w hr.e (by decide) (by decide)) fun w8 hd8 => ?_
        (repeat (first | (refine mop_c ?_ ?_; first | exact trivial | omega) | (refine dp_c ?_ ?_; first | exact trivial | omega)))
        refine dq_ld ((h5.cell 1 rfl (73 + i)).trans (st_k hh hbl i (by omega))) (by omega) ?_
        (repeat (first | (refine mop_c ?_ ?_; first | exact trivial | omega) | (refine dp_c ?_ ?_; first | exact trivial | omega)))
        refine dq_ld ((h5.cell 0 rfl i).trans (u32s_at W i (by omega))) (by omega) ?_
        (repeat (first | (refine mop_c ?_ ?_; first | exact trivial | omega) | (refine dp_c ?_ ?_; first | exact trivial | omega)))
        refine dend_intro fun w9 hd9 => ?_
        have h9 := h5.drawn (((hd6.trans hd7).trans hd8).trans hd9)
        refine mop_eq (rot_k _ (-2) 2 _ hr.a (by decide) (by decide)) ?_
        refine mop_eq (rot_k _ (-13) 13 _ hr.a (by decide) (by decide)) ?_
        (repeat (first | (refine mop_c ?_ ?_; first | exact trivial | omega) | (refine dp_c ?_ ?_; first | exact trivial | omega)))
        refine mop_eq (rot_k _ (-22) 22 _ hr.a (by decide) (by decide)) ?_
        (repeat (first | (refine mop_c ?_ ?_; first | exact trivial | omega) | (refine dp_c ?_ ?_; first | exact trivial | omega)))
        refine ⟨⟨i + 1, by omega, rfl, ?_, ?_, ?_, ?_, ?_, ?_, ?_, ?_, h9⟩, by simp [intOf]; omega⟩
        all_goals (rw [← hs', hrs]; rfl)
      · obtain rfl : i = 64 := by omega
        refine mop_pur (build8 _ _ _ _ _ _ _ _) ?_
        have hrs : rl W 64 (s8 hs) = s := hs64
        refine ⟨fun x w2 => ∃ i : Nat, i ≤ 8 ∧ x = .int .i64 i ∧ St w [⟨b, 145, stCells (addK hs s.list i) bl n, false⟩, ⟨g, 141, u32s W, true⟩] w2, fun x _ => 8 - (intOf x).toNat, ⟨0, by omega, rfl, h5.swap⟩, ?_⟩
        clear h5
        rintro x u4 w6 ⟨i, hi, rfl, h6⟩
        refine mop_c trivial ?_
        refine mif_dec (fun hlt => ?_) (fun hge => ?_)
        · refine mop_pur (p_index_array _ 139 8 _ _ _ (.int .u32 (s.list.getD i 0)) (by kernel_rfl) (by kernel_rfl) (by omega) (by omega) ?_) ?_
          · have := u32s_at s.list i (by simp [S8.list]; omega)
            have e : ((i : Nat) : Int).toNat = i := by omega
            rw [e, List.getElem?_toArray]
            exact this
          have hal := addK_len hs s.list i
          (repeat (first | (refine mop_c ?_ ?_; first | exact trivial | omega) | (refine dp_c ?_ ?_; first | exact trivial | omega)))
          refine dq_ld ((h6.cell 0 rfl i).trans (st_h (by omega) i (by omega))) (by omega) ?_
          (repeat (first | (refine mop_c ?_ ?_; first | exact trivial | omega) | (refine dp_c ?_ ?_; first | exact trivial | omega)))
          refine df_st (j := i) h6 (by omega) (by rw [st_len (by omega) hbl]; omega) rfl (fun w7 h7 => ?_)
          refine dend_intro fun w8 hd8 => ?_
          have h8 := h7.drawn hd8
          (repeat (first | (refine mop_c ?_ ?_; first | exact trivial | omega) | (refine dp_c ?_ ?_; first | exact trivial | omega)))
          refine ⟨⟨i + 1, by omega, rfl, ?_⟩, by simp [intOf]; omega⟩
          rw [st_set_h (by omega) i (by omega), addK_at hs s.list i i (Nat.le_refl i)] at h8
          exact h8
        · obtain rfl : i = 8 := by omega
          refine ⟨rfl, ?_⟩
          rw [hrs, ← addK_end hs s hh]
          exact h6.swap.drop
end Go.Proofs.Ytopcnkejobomaaa
namespace Go.Proofs.Ytopcnkejobomaaa
open Go.RowKit
def feedAll (x : S8 × List Int) (bs : List Int) : S8 × List Int := bs.foldl feed x
theorem feedAll_append (x : S8 × List Int) (a b : List Int) : feedAll x (a ++ b) = feedAll (feedAll x a) b := by simp [feedAll]
theorem feedAll_short (s : S8) : ∀ (bs p : List Int), p.length + bs.length < 64 → feedAll (s, p) bs = (s, p ++ bs)
  | [], p, _ => by simp [feedAll]
  | b :: bs, p, h => by
    have h1 : feed (s, p) b = (s, p ++ [b]) := by
      unfold feed
      rw [if_neg (by simp at h ⊢; omega)]
    show feedAll (feed (s, p) b) bs = _
    rw [h1, feedAll_short s bs (p ++ [b]) (by simp at h ⊢; omega)]
    simp
theorem feedAll_full (s : S8) (bs p : List Int) (hb : 0 < bs.length) (h : p.length + bs.length = 64) : feedAll (s, p) bs = (compress s (p ++ bs), []) := by
  obtain ⟨cs, c, rfl⟩ : ∃ cs c, bs = cs ++ [c] := ⟨bs.dropLast, bs.getLast (by intro e; simp [e] at hb), (List.dropLast_concat_getLast _).symm⟩
  rw [feedAll_append, feedAll_short s cs p (by simp at h; omega)]
  show feed (s, p ++ cs) c = _
  unfold feed
  rw [if_pos (by simp at h ⊢; omega)]
  simp
theorem compress_ok {s : S8} (bs : List Int) : (compress s bs).Ok := ⟨wd_mod _, wd_mod _, wd_mod _, wd_mod _, wd_mod _, wd_mod _, wd_mod _, wd_mod _⟩
structure Dig (x : S8 × List Int) (n : Nat) (bl : List Int) : Prop where
  ok : x.1.Ok
  len : bl.length = 64
  by_ : ∀ c ∈ bl, 0 ≤ c ∧ c < 256
  pend : x.2.length = n % 64
  has : bl.take x.2.length = x.2
theorem s8_list (s : S8) : s8 s.list = s := rfl
theorem list_wd {s : S8} (h : s.Ok) : ∀ x ∈ s.list, Wd x := by
  intro x hx
  simp only [S8.list, List.mem_cons, List.not_mem_nil, or_false] at hx
  rcases hx with rfl | rfl | rfl | rfl | rfl | rfl | rfl | rfl
  · exact h.a
  · exact h.b
  · exact h.c
  · exact h.d
  · exact h.e
  · exact h.f
  · exact h.g
  · exact h.h
def blCopy (bl bs : List Int) (i : Nat) : List Int := bl.take i ++ bs ++ bl.drop (i + bs.length)
theorem st_lay (hs bl bs : List Int) (n : Int) (i : Nat) (hh : hs.length = 8) (hb : bl.length = 64) (hi : i + bs.length ≤ 64) : lay (stCells hs bl n) (u8s bs) (8 + i) = stCells hs (blCopy bl bs i) n := by
  have e8 : (u32s hs).length = 8 := by simp [u32s, hh]
  have ebs : (u8s bs).length = bs.length := by simp [u8s]
  unfold lay stCells
  rw [List.take_append, List.take_of_length_le (by omega), List.drop_append, List.drop_eq_nil_of_le (by omega), e8, ebs]
  rw [show 8 + i - 8 = i by omega, show 8 + i + bs.length - 8 = i + bs.length by omega]
  rw [List.take_append_of_le_length (by simp [u8s]; omega), List.drop_append_of_le_length (by simp [u8s]; omega)]
  simp [u8s, blCopy]
theorem put_step {x : S8 × List Int} {n : Nat} {bl bs : List Int} (h : Dig x n bl) (hbs : ∀ c ∈ bs, 0 ≤ c ∧ c < 256) (hl : n % 64 + bs.length ≤ 64) (h0 : 0 < bs.length) :
    let bl' := blCopy bl bs (n % 64)
    (∀ c ∈ bl', 0 ≤ c ∧ c < 256) ∧ bl'.length = 64 ∧ (n % 64 + bs.length < 64 → Dig (feedAll x bs) (n + bs.length) bl' ∧ (feedAll x bs).1 = x.1) ∧ (n % 64 + bs.length = 64 → (feedAll x bs).1 = compress x.1 bl' ∧ Dig (feedAll x bs) (n + bs.length) bl') := by
  obtain ⟨s, p⟩ := x
  obtain ⟨hok, hlen, hby, hp, hhas⟩ := h
  simp only [] at hp hhas hok
  have hpn : p.length ≤ 64 := by omega
  have hb1 : ∀ c ∈ blCopy bl bs (n % 64), 0 ≤ c ∧ c < 256 := fun c hc => by
    simp only [blCopy, List.mem_append] at hc
    rcases hc with (hc | hc) | hc
    · exact hby c (List.mem_of_mem_take hc)
    · exact hbs c hc
    · exact hby c (List.mem_of_mem_drop hc)
  have hb2 : (blCopy bl bs (n % 64)).length = 64 := by simp [blCopy, hlen]; omega
  have hpre : (blCopy bl bs (n % 64)).take (p.length + bs.length) = p ++ bs := by
    unfold blCopy
    rw [hp] at hhas
    rw [hhas, hp, List.take_append_of_le_length (by simp [hp]), List.take_of_length_le (by simp [hp])]
  refine ⟨hb1, hb2, fun hlt => ?_, fun heq => ?_⟩
  · have e := feedAll_short s bs p (by omega)
    rw [e]
    exact ⟨⟨hok, hb2, hb1, by simp [hp]; omega, by simpa using hpre⟩, rfl⟩
  · have e := feedAll_full s bs p h0 (by omega)
    rw [e]
    have hall : blCopy bl bs (n % 64) = p ++ bs := by
      rw [← hpre, List.take_of_length_le (by omega)]
    refine ⟨by rw [hall], compress_ok _, hb2, hb1, ?_, rfl⟩
    simp
    omega
def strLen : Value → Nat
  | .string s => s.size
  | _ => 0
theorem ints_extract (s : ByteArray) (i j : Nat) : ints (s.extract i j) = ((ints s).take j).drop i := by
  simp [ints, List.map_drop, List.map_take]
  rw [List.drop_take]
theorem extract_extract (s : ByteArray) (k m : Nat) (h : k + m ≤ s.size) : (s.extract k s.size).extract m (s.size - k) = s.extract (k + m) s.size := by
  rw [← str_ints ((s.extract k s.size).extract m (s.size - k)), ← str_ints (s.extract (k + m) s.size), ints_extract, ints_extract, ints_extract]
  congr 1
  have hl := ints_length s
  have e : (ints s).take s.size = ints s := List.take_of_length_le (by omega)
  rw [e, List.take_of_length_le (by rw [List.length_drop]; omega), List.drop_drop]
set_option maxRecDepth 100000 in
theorem put_ok (b : Nat) (x : S8 × List Int) (n : Nat) (bl : List Int) (t : ByteArray) (w : World) (hb : Blf w b 145 (stCells x.1.list bl n)) (hd : Dig x n bl) (hn : n + t.size < 9223372036854775808) :
    Calls Try.prog 94 #[.pointer (some ⟨b, 0, none⟩), .string t] w fun e w' => e = .returned (.tuple #[]) ∧ ∃ bl', Dig (feedAll x (ints t)) (n + t.size) bl' ∧ St w [⟨b, 145, stCells (feedAll x (ints t)).1.list bl' ((n + t.size : Nat) : Int), false⟩] w' := by
  refine C_sha_state_put ?_
  unfold F_sha_state_put
  refine ⟨fun v w2 => ∃ (k : Nat) (bl' : List Int), k ≤ t.size ∧ v = .string (t.extract k t.size) ∧ Dig (feedAll x ((ints t).take k)) (n + k) bl' ∧ St w [⟨b, 145, stCells (feedAll x ((ints t).take k)).1.list bl' ((n + k : Nat) : Int), false⟩] w2, fun v _ => strLen v, ⟨0, bl, by omega, by simp, by simpa [feedAll] using hd, by simp [feedAll]; exact St.oneF hb⟩, ?_⟩
  rintro v u w1 ⟨k, bl', hk, rfl, hd1, h1⟩
  have hsz : (t.extract k t.size).size = t.size - k := by simp
  refine mop_c trivial ?_
  rw [hsz]
  refine mop_c trivial ?_
  refine mif_dec (fun hlt => ?_) (fun hge => ?_)
  · have hll : 0 < t.size - k := by omega
    (repeat (first | (refine mop_c ?_ ?_; first | exact trivial | omega) | (refine dp_c ?_ ?_; first | exact trivial | omega)))
    have hlist : (feedAll x ((ints t).take k)).1.list.length = 8 := rfl
    refine dq_ld ((h1.cell 0 rfl 72).trans (st_n hlist hd1.len)) rfl ?_
    (repeat (first | (refine mop_c ?_ ?_; first | exact trivial | omega) | (refine dp_c ?_ ?_; first | exact trivial | omega)))
    refine df_mop fun w2 hd2 => ?_
    have hi : ((((n + k : Nat) : Int)) % 64).toNat = (n + k) % 64 := by omega
    rw [hi]
    obtain ⟨w3, hr, h3⟩ := run_copy_string (P := Try.prog) (o := 0 + 8 + (n + k) % 64) (m := 64 - (n + k) % 64) (c := 64 - (n + k) % 64) (s := t.extract k t.size) (dT := 106) (sT := 9) (ty := 3) (e := 5) (ks := [false, false]) (h1.drawn hd2) (by kernel_rfl) (by kernel_rfl) (by rw [st_len hlist hd1.len]; omega)
    refine mop_run hr ⟨(fun e => by cases e), ?_⟩
    have hm : min (t.extract k t.size).size (64 - (n + k) % 64) = min (t.size - k) (64 - (n + k) % 64) := by rw [hsz]
    rw [hm] at h3 ⊢
    obtain ⟨m, hmm⟩ : ∃ m, m = min (t.size - k) (64 - (n + k) % 64) := ⟨_, rfl⟩
    rw [← hmm] at h3 ⊢
    have hbl : ((ints (t.extract k t.size)).take m).length = m := by rw [List.length_take, ints_length, hsz]; omega
    have hbr : ∀ c ∈ (ints (t.extract k t.size)).take m, 0 ≤ c ∧ c < 256 := fun c hc => ints_range _ c (List.mem_of_mem_take hc)
    rw [show 0 + 8 + (n + k) % 64 = 8 + (n + k) % 64 by omega, st_lay _ _ _ _ _ hlist hd1.len (by rw [hbl]; omega)] at h3
    have hstep := put_step hd1 hbr (by rw [hbl]; omega) (by rw [hbl]; omega)
    have hfeed : feedAll (feedAll x ((ints t).take k)) ((ints (t.extract k t.size)).take m) = feedAll x ((ints t).take (k + m)) := by
      have e : (ints t).take t.size = ints t := List.take_of_length_le (by rw [ints_length]; omega)
      rw [← feedAll_append, ints_extract, e, ← List.take_add]
    rw [hfeed, hbl] at hstep
    have hext := extract_extract t k m (by omega)
    generalize blCopy bl' ((ints (t.extract k t.size)).take m) ((n + k) % 64) = bl2 at h3 hstep
    obtain ⟨hby2, hlen2, hs1, hs2⟩ := hstep
    refine dend_intro fun w4 hd4 => ?_
    have h4 := h3.drawn hd4
    clear h1 h3 hr hfeed
    refine mop_c (by rw [hsz]; omega) ?_
    rw [hsz, Int.toNat_natCast, hext]
    (repeat (first | (refine mop_c ?_ ?_; first | exact trivial | omega) | (refine dp_c ?_ ?_; first | exact trivial | omega)))
    refine mop_ld ((h4.cell 0 rfl 72).trans (st_n hlist hlen2)) rfl ?_
    (repeat (first | (refine mop_c ?_ ?_; first | exact trivial | omega) | (refine dp_c ?_ ?_; first | exact trivial | omega)))
    refine mop_st (j := 72) h4 rfl (by rw [st_len hlist hlen2]; omega) rfl (fun w5 h5 => ?_)
    rw [st_set_n hlist hlen2] at h5
    (repeat (first | (refine mop_c ?_ ?_; first | exact trivial | omega) | (refine dp_c ?_ ?_; first | exact trivial | omega)))
    refine mop_ld ((h5.cell 0 rfl 72).trans (st_n hlist hlen2)) rfl ?_
    (repeat (first | (refine mop_c ?_ ?_; first | exact trivial | omega) | (refine dp_c ?_ ?_; first | exact trivial | omega)))
    have hsz2 : (t.extract (k + m) t.size).size = t.size - (k + m) := by simp
    have hnk : ((n + k : Nat) : Int) + (m : Int) = ((n + (k + m) : Nat) : Int) := by omega
    rw [hnk] at h5 ⊢
    refine mif_dec (fun hz => ?_) (fun hnz => ?_)
    · obtain ⟨hs3, hs4⟩ := hs2 (by omega)
      refine mop_to (turn_ok b _ bl2 _ w5 h5.head hlist hlen2 hby2 (list_wd hd1.ok)) ?_
      rintro e w6 ⟨rfl, h6⟩
      have h7 := h5.call1 h6
      rw [s8_list, ← hs3] at h7
      exact ⟨⟨k + m, bl2, by omega, rfl, by rw [← Nat.add_assoc]; exact hs4, h7⟩, by simp only [strLen, hsz, hsz2]; omega⟩
    · obtain ⟨hs3, hs4⟩ := hs1 (by omega)
      rw [← hs4] at h5
      exact ⟨⟨k + m, bl2, by omega, rfl, by rw [← Nat.add_assoc]; exact hs3, h5⟩, by simp only [strLen, hsz, hsz2]; omega⟩
  · obtain rfl : k = t.size := by omega
    have e : (ints t).take t.size = ints t := List.take_of_length_le (by rw [ints_length]; omega)
    rw [e] at hd1 h1
    exact ⟨rfl, bl', hd1, h1⟩
end Go.Proofs.Ytopcnkejobomaaa
namespace Go.Proofs.Ytopcnkejobomaaa
open Go.RowKit
def lenB (n : Nat) (i : Nat) : Int := ((n : Int) % 18446744073709551616 * 8 % 18446744073709551616) / 2 ^ (56 - 8 * (i : Int)).toNat % 256
def padding (n : Nat) : List Int := (128 :: List.replicate (63 - (n + 8) % 64) 0) ++ (List.range 8).map (lenB n)
def outAt (l : List Int) (i : Nat) : Int := l.getD (i / 4) 0 / 2 ^ (24 - 8 * (i % 4)) % 256
def outB (s : S8) : List Int := (List.range 32).map (outAt s.list)
def shaSum (bs : List Int) : List Int := outB (feedAll (h0, []) (bs ++ padding bs.length)).1
theorem shaSum_length (bs : List Int) : (shaSum bs).length = 32 := by simp [shaSum, outB]
theorem outB_range (s : S8) : ∀ x ∈ outB s, 0 ≤ x ∧ x < 256 := by
  intro x hx
  obtain ⟨i, _, rfl⟩ := List.mem_map.1 hx
  unfold outAt
  omega
theorem shaSum_range (bs : List Int) : ∀ x ∈ shaSum bs, 0 ≤ x ∧ x < 256 := outB_range _
def fill (f : Nat → Int) (n i : Nat) : List Int := (List.range i).map f ++ List.replicate (n - i) 0
theorem fill_length (f : Nat → Int) (n i : Nat) (h : i ≤ n) : (fill f n i).length = n := by simp [fill]; omega
theorem fill_set (f : Nat → Int) (n i : Nat) (h : i < n) : (fill f n i).set i (f i) = fill f n (i + 1) := by
  unfold fill
  rw [List.set_append, if_neg (by simp), List.length_map, List.length_range, Nat.sub_self, List.range_succ, List.map_append, List.append_assoc]
  congr 1
  rw [show n - i = (n - (i + 1)) + 1 by omega, List.replicate_succ]
  rfl
theorem set_u8s (l : List Int) (i : Nat) (v : Int) : (u8s l).set i (.int .u8 v) = u8s (l.set i v) := by simp [u8s, List.map_set]
theorem u8s_length (l : List Int) : (u8s l).length = l.length := by simp [u8s]
def hv (l : List Int) : Value := .agg (u8s l).toArray
theorem cells_of_row {w : World} {b : Nat} {t : TypeId} {cs : List Value} (h : Blf w b t cs) : ∀ k v, cs[k]? = some v → w.cell? ⟨b, 0 + k, none⟩ = some v := fun k v hk => by
  rw [Nat.zero_add, h.cell]; exact hk
theorem lay_all (cs vs : List Value) (h : vs.length = cs.length) : lay cs vs 0 = vs := by
  unfold lay
  rw [List.take_zero, List.nil_append, List.drop_eq_nil_of_le (by omega), List.append_nil]
set_option maxRecDepth 100000 in
theorem rounds_ok (w : World) : Calls Try.prog 93 #[] w fun e w' => e = .returned (.agg (u32s kl).toArray) ∧ St w [] w' := by
  refine C_sha_rounds ?_
  unfold F_sha_rounds
  refine mop_new (St.nil w) (fun g w1 h1 => ?_)
  refine mop_pur (v := .agg (u32s kl).toArray) (fun w => by kernel_rfl) ?_
  refine mop_storeN (q := true) (k := 64) (by kernel_rfl) h1 rfl (by intro u hu; obtain ⟨x, _, rfl⟩ := List.mem_map.1 (show u ∈ kl.map (Value.int .u32) from hu); rfl) (by simp) (fun w2 h2 => ?_)
  have e : lay (List.replicate 64 (Value.int .u32 0)) (Value.agg (u32s kl).toArray).cells.toList 0 = u32s kl := lay_all _ _ rfl
  rw [e] at h2
  refine rcell_ldN (cells_of_row h2.head) rfl ?_
  exact ⟨rfl, h2.drop⟩
def cat (ss : List ByteArray) : List Int := (ss.map ints).flatten
theorem cat_take (ss : List ByteArray) (k : Nat) (h : k < ss.length) : cat (ss.take (k + 1)) = cat (ss.take k) ++ ints ss[k] := by
  unfold cat
  rw [List.take_succ_eq_append_getElem h, List.map_append, List.flatten_append]
  simp only [List.map_cons, List.map_nil, List.flatten_cons, List.flatten_nil, List.append_nil]
theorem cat_append (a b : List ByteArray) : cat (a ++ b) = cat a ++ cat b := by simp only [cat, List.map_append, List.flatten_append]
theorem cat_le (ss : List ByteArray) (k : Nat) : (cat (ss.take k)).length ≤ (cat ss).length := by
  conv => rhs; rw [← List.take_append_drop k ss, cat_append, List.length_append]
  omega
theorem lenB_range (n i : Nat) : 0 ≤ lenB n i ∧ lenB n i < 256 := by unfold lenB; omega
theorem padding_range (n : Nat) : ∀ x ∈ padding n, 0 ≤ x ∧ x < 256 := by
  intro x hx
  simp only [padding, List.mem_append, List.mem_cons, List.mem_replicate, List.mem_map] at hx
  rcases hx with (rfl | ⟨_, rfl⟩) | ⟨i, _, rfl⟩
  · omega
  · omega
  · exact lenB_range n i
theorem dig0 : Dig (h0, []) 0 (List.replicate 64 0) := by
  refine ⟨⟨?_, ?_, ?_, ?_, ?_, ?_, ?_, ?_⟩, by simp, ?_, rfl, by simp⟩
  all_goals first
    | (constructor <;> decide)
    | (intro c hc; rw [List.eq_of_mem_replicate hc]; omega)
def tailK (n z i : Nat) : List Int := (128 :: List.replicate z 0) ++ fill (lenB n) (71 - z) i
theorem tailK_length (n z i : Nat) (hz : z ≤ 63) (hi : i ≤ 8) : (tailK n z i).length = 72 := by
  simp [tailK, fill_length (lenB n) (71 - z) i (by omega)]; omega
theorem tailK_set (n z i : Nat) (hz : z ≤ 63) (hi : i < 8) : (tailK n z i).set (z + 1 + i) (lenB n i) = tailK n z (i + 1) := by
  unfold tailK
  rw [List.set_append, if_neg (by simp), List.length_cons, List.length_replicate, show z + 1 + i - (z + 1) = i by omega, fill_set _ _ _ (by omega)]
theorem tailK_zero (n z : Nat) (hz : z ≤ 63) : (List.replicate 72 (0 : Int)).set 0 128 = tailK n z 0 := by
  unfold tailK fill
  rw [show 72 = (z + (71 - z)) + 1 by omega, List.replicate_succ, List.set_cons_zero, ← List.replicate_append_replicate]
  simp
theorem tailK_end (n : Nat) : (tailK n (63 - (n + 8) % 64) 8).take (63 - (n + 8) % 64 + 9) = padding n := by
  unfold tailK fill padding
  rw [← List.append_assoc, List.take_append_of_le_length (by simp), List.take_of_length_le (by simp)]
set_option maxRecDepth 100000 in
set_option maxHeartbeats 1000000 in
theorem sum_ok (A : Option Addr) (ss : List ByteArray) (c : Nat) (w : World) (hr : Rd w A (ss.map .string)) (hss : ss.length < 9223372036854775807) (hsz : (cat ss).length < 4611686018427387904) :
    Calls Try.prog 53 #[.slice A ss.length c] w fun e w' => e = .returned (hv (shaSum (cat ss))) ∧ St w [] w' := by
  refine C_sha_Sum ?_
  unfold F_sha_Sum
  refine mop_new (St.nil w) (fun go w1 h1 => ?_)
  refine mop_pur (build8 _ _ _ _ _ _ _ _) ?_
  refine mop_to (rounds_ok w1) ?_
  rintro e w2 ⟨rfl, h2⟩
  have h2 := h1.call0 h2
  refine mop_pur (v := .agg (stCells h0.list (List.replicate 64 0) 0).toArray) (fun w => by kernel_rfl) ?_
  refine mop_box h2 (fun b w3 h3 => ?_)
  have h3 : St w [⟨b, 145, stCells h0.list (List.replicate 64 0) 0, true⟩, ⟨go, 34, u8s (List.replicate 32 0), true⟩] w3 := h3
  clear h1 h2
  refine mop_c trivial ?_
  refine ⟨fun v w2 => ∃ (k : Nat) (bl : List Int), k ≤ ss.length ∧ v = .int .i64 k ∧ Dig (feedAll (h0, []) (cat (ss.take k))) (cat (ss.take k)).length bl ∧
      St w [⟨b, 145, stCells (feedAll (h0, []) (cat (ss.take k))).1.list bl ((cat (ss.take k)).length : Int), true⟩, ⟨go, 34, u8s (List.replicate 32 0), true⟩] w2, fun v _ => ss.length - (intOf v).toNat, ⟨0, _, by omega, rfl, dig0, h3⟩, ?_⟩
  clear h3
  rintro v u w4 ⟨k, bl, hk, rfl, hd, h4⟩
  refine mop_c trivial ?_
  refine mif_dec (fun hlt => ?_) (fun hge => ?_)
  · have hk' : k < ss.length := by omega
    have x0 : (ss.map Value.string)[k]? = some (.string ss[k]) := by simp [hk']
    obtain ⟨ab, ao, rfl, hab, hc⟩ := hr.at_ x0
    (repeat (first | (refine mop_c ?_ ?_; first | exact trivial | omega) | (refine dp_c ?_ ?_; first | exact trivial | omega)))
    refine mop_ld (j := ao + k) ((h4.old (p := ⟨ab, ao + k, none⟩) hab (by intro q hq hn; simp at hq; rcases hq with rfl | rfl <;> cases hn)).trans (hc k _ x0)) (by omega) ?_
    have hcl := cat_le ss (k + 1)
    rw [cat_take ss k hk', List.length_append, ints_length] at hcl
    refine mop_to (put_ok b _ _ bl ss[k] w4 h4.head hd (by omega)) ?_
    rintro e w5 ⟨rfl, bl', hd5, h5⟩
    have h6 := h4.call1 h5
    (repeat (first | (refine mop_c ?_ ?_; first | exact trivial | omega) | (refine dp_c ?_ ?_; first | exact trivial | omega)))
    rw [← feedAll_append, ← ints_length, ← List.length_append, ← cat_take ss k hk'] at hd5 h6
    exact ⟨⟨k + 1, bl', hk', rfl, hd5, h6⟩, by simp [intOf]; omega⟩
  · obtain rfl : k = ss.length := by omega
    rw [List.take_length] at hd h4
    obtain ⟨n, hn⟩ : ∃ n, n = (cat ss).length := ⟨_, rfl⟩
    have hsum : shaSum (cat ss) = outB (feedAll (feedAll (h0, []) (cat ss)) (padding n)).1 := by rw [shaSum, feedAll_append, hn]
    rw [hsum]
    rw [← hn] at hd h4 hsz
    generalize feedAll (h0, []) (cat ss) = x at hd h4
    have hl8 : x.1.list.length = 8 := rfl
    refine mop_new h4 (fun gt w5 h5 => ?_)
    (repeat (first | (refine mop_c ?_ ?_; first | exact trivial | omega) | (refine dp_c ?_ ?_; first | exact trivial | omega)))
    refine mop_st (j := 0) h5 rfl (by simp) rfl (fun w6 h6 => ?_)
    (repeat (first | (refine mop_c ?_ ?_; first | exact trivial | omega) | (refine dp_c ?_ ?_; first | exact trivial | omega)))
    refine mop_ld ((h6.cell 1 rfl 72).trans (st_n hl8 hd.len)) rfl ?_
    (repeat (first | (refine mop_c ?_ ?_; first | exact trivial | omega) | (refine dp_c ?_ ?_; first | exact trivial | omega)))
    have hz : (64 : Int) - ((n : Int) + 8) % 64 = ((63 - (n + 8) % 64 + 1 : Nat) : Int) := by omega
    rw [hz]
    have h6 : St w [⟨gt, 147, u8s (tailK n (63 - (n + 8) % 64) 0), true⟩, ⟨b, 145, stCells x.1.list bl (n : Int), true⟩, ⟨go, 34, u8s (List.replicate 32 0), true⟩] w6 := by
      rw [← tailK_zero n (63 - (n + 8) % 64) (by omega), ← set_u8s]
      exact h6
    have hend := tailK_end n
    obtain ⟨z, hzz⟩ : ∃ z, z = 63 - (n + 8) % 64 := ⟨_, rfl⟩
    rw [← hzz] at h6 hend ⊢
    have hz63 : z ≤ 63 := by omega
    clear hz hzz
    refine ⟨fun v w2 => ∃ i : Nat, i ≤ 8 ∧ v = .int .i64 i ∧ St w [⟨gt, 147, u8s (tailK n z i), true⟩, ⟨b, 145, stCells x.1.list bl (n : Int), true⟩, ⟨go, 34, u8s (List.replicate 32 0), true⟩] w2, fun v _ => 8 - (intOf v).toNat, ⟨0, by omega, rfl, h6⟩, ?_⟩
    clear h4 h5 h6
    rintro v u2 w7 ⟨i, hi, rfl, h7⟩
    refine mop_c trivial ?_
    refine mif_dec (fun hlt => ?_) (fun hge => ?_)
    · (repeat (first | (refine mop_c ?_ ?_; first | exact trivial | omega) | (refine dp_c ?_ ?_; first | exact trivial | omega)))
      refine mop_ld ((h7.cell 1 rfl 72).trans (st_n hl8 hd.len)) rfl ?_
      (repeat (first | (refine mop_c ?_ ?_; first | exact trivial | omega) | (refine dp_c ?_ ?_; first | exact trivial | omega)))
      refine mop_st (j := z + 1 + i) h7 (by omega) (by rw [u8s_length, tailK_length n z i hz63 (by omega)]; omega) rfl (fun w8 h8 => ?_)
      have h8 : St w [⟨gt, 147, u8s (tailK n z (i + 1)), true⟩, ⟨b, 145, stCells x.1.list bl (n : Int), true⟩, ⟨go, 34, u8s (List.replicate 32 0), true⟩] w8 := by
        rw [← tailK_set n z i hz63 (by omega), ← set_u8s]
        exact h8
      (repeat (first | (refine mop_c ?_ ?_; first | exact trivial | omega) | (refine dp_c ?_ ?_; first | exact trivial | omega)))
      exact ⟨⟨i + 1, by omega, rfl, h8⟩, by simp [intOf]; omega⟩
    · obtain rfl : i = 8 := by omega
      (repeat (first | (refine mop_c ?_ ?_; first | exact trivial | omega) | (refine dp_c ?_ ?_; first | exact trivial | omega)))
      have hto : (((z + 1 : Nat) : Int) + 8).toNat = z + 9 := by omega
      rw [hto]
      have htl := tailK_length n z 8 hz63 (by omega)
      refine mop_purW (pw_conv_bytes 106 9 5 gt 0 (z + 9) 72 (padding n) (by kernel_rfl) (by kernel_rfl) (by kernel_rfl) (by rw [← hend, List.length_take, htl]; omega) (fun i hi => ?_)) ?_
      · rw [h7.head.cell, ← hend, Nat.zero_add, u8s_at _ _ (by omega)]
        congr 2
        simp [List.getD, hi]
      have hpl : (padding n).length = z + 9 := by rw [← hend, List.length_take, htl]; omega
      have hps : (strOfNums (padding n)).size = z + 9 := by rw [← ints_length, ints_str _ (padding_range n), hpl]
      have h7 := h7.swap
      refine mop_to (put_ok b x n bl (strOfNums (padding n)) w7 h7.head hd (by omega)) ?_
      rintro e w8 ⟨rfl, bl', hd8, h8⟩
      rw [ints_str _ (padding_range n)] at hd8 h8
      have h9 := h7.call1 h8
      generalize feedAll x (padding n) = y at hd8 h9 ⊢
      clear h7 h8
      have hy8 : y.1.list.length = 8 := rfl
      refine mop_new h9 (fun gu w9 h10 => ?_)
      refine ⟨fun v w2 => ∃ i : Nat, i ≤ 32 ∧ v = .int .i64 i ∧ ∃ L, St w (⟨gu, 34, u8s (fill (outAt y.1.list) 32 i), true⟩ :: ⟨b, 145, stCells y.1.list bl' ((n + (strOfNums (padding n)).size : Nat) : Int), true⟩ :: ⟨gt, 147, L, true⟩ :: ⟨go, 34, u8s (List.replicate 32 0), true⟩ :: []) w2, fun v _ => 32 - (intOf v).toNat, ⟨0, by omega, rfl, _, h10⟩, ?_⟩
      clear h9 h10
      rintro v u3 w10 ⟨i, hi, rfl, L, h11⟩
      refine mop_c trivial ?_
      refine mif_dec (fun hlt => ?_) (fun hge => ?_)
      · (repeat (first | (refine mop_c ?_ ?_; first | exact trivial | omega) | (refine dp_c ?_ ?_; first | exact trivial | omega)))
        have hq : (0 + 0 + ((i : Int) / 4).toNat) = 0 + i / 4 := by omega
        refine mop_ld ((h11.cell 1 rfl (i / 4)).trans (st_h hy8 (i / 4) (by omega))) (by omega) ?_
        (repeat (first | (refine mop_c ?_ ?_; first | exact trivial | omega) | (refine dp_c ?_ ?_; first | exact trivial | omega)))
        refine mop_st (j := i) h11 (by omega) (by rw [u8s_length, fill_length _ _ _ hi]; omega) rfl (fun w11 h12 => ?_)
        have h12 : St w (⟨gu, 34, u8s (fill (outAt y.1.list) 32 (i + 1)), true⟩ :: ⟨b, 145, stCells y.1.list bl' ((n + (strOfNums (padding n)).size : Nat) : Int), true⟩ :: ⟨gt, 147, L, true⟩ :: ⟨go, 34, u8s (List.replicate 32 0), true⟩ :: []) w11 := by
          rw [← fill_set _ _ _ (by omega), ← set_u8s]
          have e : outAt y.1.list i = y.1.list.getD (i / 4) 0 / 2 ^ ((24 : Int) - 8 * ((i : Int) % 4)).toNat % 256 := by
            unfold outAt
            congr 3
            omega
          rw [e]
          exact h12
        (repeat (first | (refine mop_c ?_ ?_; first | exact trivial | omega) | (refine dp_c ?_ ?_; first | exact trivial | omega)))
        exact ⟨⟨i + 1, by omega, rfl, L, h12⟩, by simp [intOf]; omega⟩
      · obtain rfl : i = 32 := by omega
        have hf : fill (outAt y.1.list) 32 32 = outB y.1 := by simp [fill, outB]
        rw [hf] at h11
        have hol : (u8s (outB y.1)).length = 32 := by simp [outB, u8s]
        refine mop_ldN (cells_of_row h11.head) hol rfl ?_
        have h13 := h11.drop.drop.drop
        refine mop_storeN (q := true) (k := 32) (by kernel_rfl) h13 (by simpa [Value.cells] using hol) (by intro u hu; exact u8s_one _ u hu) (by simp [u8s]) (fun w12 h14 => ?_)
        have e : lay (u8s (List.replicate 32 0)) (Value.agg (u8s (outB y.1)).toArray).cells.toList 0 = u8s (outB y.1) := lay_all _ _ (by show (u8s (outB y.1)).length = _; rw [hol]; simp [u8s])
        rw [e] at h14
        refine rcell_ldN (cells_of_row h14.head) hol ?_
        exact ⟨rfl, h14.drop⟩
end Go.Proofs.Ytopcnkejobomaaa
namespace Go.Proofs.Ytopcnkejobomaaa
open Go.RowKit
theorem word_ok (g o n c : Nat) (i : Nat) (a0 a1 a2 a3 : Int) (w : World) (hn : i + 4 ≤ n) (hi : i < 4611686018427387904)
    (h0 : w.cell? ⟨g, o + i, none⟩ = some (.int .u8 a0)) (h1 : w.cell? ⟨g, o + (i + 1), none⟩ = some (.int .u8 a1)) (h2 : w.cell? ⟨g, o + (i + 2), none⟩ = some (.int .u8 a2)) (h3 : w.cell? ⟨g, o + (i + 3), none⟩ = some (.int .u8 a3))
    (b0 : 0 ≤ a0 ∧ a0 < 256) (b1 : 0 ≤ a1 ∧ a1 < 256) (b2 : 0 ≤ a2 ∧ a2 < 256) (b3 : 0 ≤ a3 ∧ a3 < 256) :
    Calls Try.prog 100 #[.slice (some ⟨g, o, none⟩) n c, .int .i64 (i : Int)] w fun e w' => e = .returned (.int .u32 (word4 a0 a1 a2 a3)) ∧ Drawn w w' := by
  refine C_bevyref02_word ?_
  unfold F_bevyref02_word
  (repeat (first | (refine mop_c ?_ ?_; first | exact trivial | omega) | (refine dp_c ?_ ?_; first | exact trivial | omega)))
  refine dq_ld h0 (by omega) ?_
  (repeat (first | (refine mop_c ?_ ?_; first | exact trivial | omega) | (refine dp_c ?_ ?_; first | exact trivial | omega)))
  refine dq_ld h1 (by omega) ?_
  (repeat (first | (refine mop_c ?_ ?_; first | exact trivial | omega) | (refine dp_c ?_ ?_; first | exact trivial | omega)))
  refine dq_ld h2 (by omega) ?_
  (repeat (first | (refine mop_c ?_ ?_; first | exact trivial | omega) | (refine dp_c ?_ ?_; first | exact trivial | omega)))
  refine dq_ld h3 (by omega) ?_
  (repeat (first | (refine mop_c ?_ ?_; first | exact trivial | omega) | (refine dp_c ?_ ?_; first | exact trivial | omega)))
  refine dend_intro fun w1 hd => ?_
  exact ⟨rfl, hd⟩
def blocks (M : List Int) : Nat → S8
  | 0 => h0
  | j + 1 => compress (blocks M j) ((M.drop (64 * j)).take 64)
theorem blocks_feed (M : List Int) : ∀ j, 64 * j ≤ M.length → feedAll (h0, []) (M.take (64 * j)) = (blocks M j, [])
  | 0, _ => rfl
  | j + 1, h => by
    rw [show 64 * (j + 1) = 64 * j + 64 by omega, List.take_add, feedAll_append, blocks_feed M j (by omega)]
    rw [feedAll_full _ _ _ (by simp; omega) (by simp; omega)]
    rfl
theorem blocks_ok (M : List Int) : ∀ j, (blocks M j).Ok
  | 0 => dig0.ok
  | _ + 1 => compress_ok _
theorem block_at (M : List Int) (j i : Nat) (hi : i < 64) : ((M.drop (64 * j)).take 64).getD i 0 = M.getD (64 * j + i) 0 := by
  simp [List.getD, hi]
theorem buildb (v : Int) (w : World) : (o_buildSlice 106 1 [(0, .int .u8 v)]).run Try.prog w = .ok (.value (.slice (some ⟨w.heap.size, 0, none⟩) 1 1)) (w.alloc (.cells (Value.int .u8 v).cells.toList.toArray 5)) := by kernel_rfl
theorem row_at (M : List Int) (sp : List Value) (i : Nat) (h : i < M.length) : (u8s M ++ sp)[i]? = some (.int .u8 (M.getD i 0)) := by
  rw [List.getElem?_append_left (by rw [u8s_length]; exact h), u8s_at M i h]
def slen : Value → Nat
  | .slice _ n _ => n
  | _ => 0
theorem u8s_append (a b : List Int) : u8s (a ++ b) = u8s a ++ u8s b := by simp [u8s]
theorem u32s_one (l : List Int) : ∀ u ∈ u32s l, u.oneCell' = true := by
  intro u hu
  obtain ⟨x, _, rfl⟩ := List.mem_map.1 hu
  rfl
theorem u32s_length (l : List Int) : (u32s l).length = l.length := by simp [u32s]
theorem set_u32s (l : List Int) (i : Nat) (v : Int) : (u32s l).set i (.int .u32 v) = u32s (l.set i v) := by simp [u32s, List.map_set]
set_option maxRecDepth 100000 in
set_option maxHeartbeats 2000000 in
theorem refsum_ok (s : ByteArray) (w : World) (hsz : s.size < 1099511627776) : Calls Try.prog 56 #[.string s] w fun e w' => e = .returned (hv (shaSum (ints s))) ∧ St w [] w' := by
  refine C_bevyref02_Sum ?_
  unfold F_bevyref02_Sum
  refine mop_new (St.nil w) (fun go w1 h1 => ?_)
  refine mop_pur (v := .agg (u32s kl).toArray) (fun w => by kernel_rfl) ?_
  refine mop_new h1 (fun gk w2 h2 => ?_)
  refine mop_storeN (q := true) (k := 64) (by kernel_rfl) h2 rfl (u32s_one kl) (by simp) (fun w3 h3 => ?_)
  have e1 : lay (List.replicate 64 (Value.int .u32 0)) (Value.agg (u32s kl).toArray).cells.toList 0 = u32s kl := lay_all _ _ rfl
  rw [e1] at h3
  clear h1 h2
  obtain ⟨A, cap, w4, hr4, h4⟩ := run_bytes_of_text (P := Try.prog) 9 106 5 s (by kernel_rfl) (by kernel_rfl) (by kernel_rfl) (by unfold maxLen; omega) h3
  refine mop_run hr4 ?_
  refine mop_push h4 rfl (by intro u hu; cases hu with | head => rfl | tail _ hu => cases hu) (buildb _ _) (by unfold maxLen; omega) (by omega) (fun A1 cap1 w5 h5 => ?_)
  obtain ⟨n, hn⟩ : ∃ n, n = s.size := ⟨_, rfl⟩
  have hil : (ints s).length = n := by rw [ints_length, hn]
  rw [← hn] at h5 hsz ⊢
  refine ⟨fun v w2 => ∃ (z cap : Nat) (A : Option Addr), z ≤ 63 - (n + 8) % 64 ∧ v = .slice A (n + 1 + z) cap ∧ RowSt w 5 1 [⟨gk, 141, u32s kl, true⟩, ⟨go, 33, List.replicate 32 (.int .u8 0), true⟩] A (n + 1 + z) cap (u8s (ints s ++ (128 :: List.replicate z 0))) w2, fun v _ => n + 100 - slen v, ⟨0, _, _, by omega, rfl, by rw [u8s_append]; exact h5⟩, ?_⟩
  clear h3 h4 h5 hr4
  rintro v u w6 ⟨z, cap, A, hz, rfl, h6⟩
  (repeat (first | (refine mop_c ?_ ?_; first | exact trivial | omega) | (refine dp_c ?_ ?_; first | exact trivial | omega)))
  refine mif_dec (fun hne => ?_) (fun heq => ?_)
  · refine mop_push h6 rfl (by intro u hu; cases hu with | head => rfl | tail _ hu => cases hu) (buildb _ _) (by unfold maxLen; omega) (by omega) (fun A1 cap1 w7 h7 => ?_)
    refine ⟨⟨z + 1, cap1, A1, by omega, rfl, ?_⟩, by simp [slen]; omega⟩
    have e : ints s ++ (128 :: List.replicate (z + 1) 0) = (ints s ++ (128 :: List.replicate z 0)) ++ [0] := by
      rw [List.append_assoc, List.cons_append, ← List.replicate_succ']
    rw [e, u8s_append]
    exact h7
  · obtain rfl : z = 63 - (n + 8) % 64 := by omega
    refine mop_c trivial ?_
    rw [← hn]
    (repeat (first | (refine mop_c ?_ ?_; first | exact trivial | omega) | (refine dp_c ?_ ?_; first | exact trivial | omega)))
    refine ⟨fun v x w2 => ∃ (i cap : Nat) (A : Option Addr), i ≤ 8 ∧ x = .int .i64 i ∧ v = .slice A (n + 1 + (63 - (n + 8) % 64) + i) cap ∧ RowSt w 5 1 [⟨gk, 141, u32s kl, true⟩, ⟨go, 33, List.replicate 32 (.int .u8 0), true⟩] A (n + 1 + (63 - (n + 8) % 64) + i) cap (u8s ((ints s ++ (128 :: List.replicate (63 - (n + 8) % 64) 0)) ++ (List.range i).map (lenB n))) w2,
      fun _ x _ => 8 - (intOf x).toNat, ⟨0, _, _, by omega, rfl, rfl, by simpa using h6⟩, ?_⟩
    clear h6
    rintro v x u2 w7 ⟨i, cap, A, hi, rfl, rfl, h7⟩
    refine mop_c trivial ?_
    refine mif_dec (fun hlt => ?_) (fun hge => ?_)
    · (repeat (first | (refine mop_c ?_ ?_; first | exact trivial | omega) | (refine dp_c ?_ ?_; first | exact trivial | omega)))
      refine mop_push h7 rfl (by intro u hu; cases hu with | head => rfl | tail _ hu => cases hu) (buildb _ _) (by unfold maxLen; omega) (by omega) (fun A1 cap1 w8 h8 => ?_)
      (repeat (first | (refine mop_c ?_ ?_; first | exact trivial | omega) | (refine dp_c ?_ ?_; first | exact trivial | omega)))
      refine ⟨⟨i + 1, cap1, A1, by omega, rfl, rfl, ?_⟩, by simp [intOf]; omega⟩
      have e : lenB n i = ((n : Int) % 18446744073709551616 * 8 % 18446744073709551616) / 2 ^ ((56 - 8 * (i : Int)) % 18446744073709551616).toNat % 256 := by
        unfold lenB
        congr 4
        omega
      rw [List.range_succ, List.map_append, ← List.append_assoc, u8s_append, List.map_cons, List.map_nil, e]
      exact h8
    · obtain rfl : i = 8 := by omega
      have hM : (ints s ++ (128 :: List.replicate (63 - (n + 8) % 64) 0)) ++ (List.range 8).map (lenB n) = ints s ++ padding n := by rw [padding, List.append_assoc]
      rw [hM] at h7
      have hfin : shaSum (ints s) = outB (feedAll (h0, []) (ints s ++ padding n)).1 := by rw [shaSum, hil]
      rw [hfin]
      have hMl : (ints s ++ padding n).length = n + 1 + (63 - (n + 8) % 64) + 8 := by simp [padding, hil]; omega
      have hMr : ∀ c ∈ ints s ++ padding n, 0 ≤ c ∧ c < 256 := fun c hc => by
        rcases List.mem_append.1 hc with hc | hc
        · exact ints_range s c hc
        · exact padding_range n c hc
      generalize ints s ++ padding n = M at h7 hMl hMr ⊢
      obtain ⟨N, hN⟩ : ∃ N, N = n + 1 + (63 - (n + 8) % 64) + 8 := ⟨_, rfl⟩
      rw [← hN] at h7 hMl ⊢
      have hN64 : N % 64 = 0 := by omega
      have hNb : N < 1099511627776 + 200 := by omega
      clear hM hfin hil
      obtain ⟨gm, sp, rfl, h8, _, _⟩ := h7.at_ (by omega)
      clear h7
      refine mop_pur (build8 _ _ _ _ _ _ _ _) ?_
      refine mop_new h8 (fun gv w8 h9 => ?_)
      refine mop_storeN (q := true) (k := 8) (by kernel_rfl) h9 rfl (u32s_one h0.list) (by simp) (fun w9 h10 => ?_)
      have e8 : lay (List.replicate 8 (Value.int .u32 0)) (Value.agg (u32s h0.list).toArray).cells.toList 0 = u32s h0.list := lay_all _ _ rfl
      have h10 : St w [⟨gv, 140, u32s h0.list, true⟩, ⟨gm, 5, u8s M ++ sp, true⟩, ⟨gk, 141, u32s kl, true⟩, ⟨go, 33, List.replicate 32 (.int .u8 0), true⟩] w9 := by
        rw [← e8]; exact h10
      refine ⟨fun x w2 => ∃ j : Nat, 64 * j ≤ N ∧ x = .int .i64 ((64 * j : Nat) : Int) ∧ St w [⟨gv, 140, u32s (blocks M j).list, true⟩, ⟨gm, 5, u8s M ++ sp, true⟩, ⟨gk, 141, u32s kl, true⟩, ⟨go, 33, List.replicate 32 (.int .u8 0), true⟩] w2,
        fun x _ => N - (intOf x).toNat, ⟨0, by omega, rfl, h10⟩, ?_⟩
      clear h8 h9 h10
      rintro x u3 w10 ⟨j, hj, rfl, h10⟩
      (repeat (first | (refine mop_c ?_ ?_; first | exact trivial | omega) | (refine dp_c ?_ ?_; first | exact trivial | omega)))
      refine mif_dec (fun hlt => ?_) (fun hge => ?_)
      · have hj2 : 64 * j + 64 ≤ N := by omega
        have hbl : blocks M (j + 1) = (blocks M j).add (rl (wl ((M.drop (64 * j)).take 64) 64) 64 (blocks M j)) := rfl
        have hbat := fun i hi => block_at M j i hi
        have hsok := blocks_ok M j
        generalize (M.drop (64 * j)).take 64 = bl at hbl hbat
        obtain ⟨S', hS⟩ : ∃ S', S' = blocks M (j + 1) := ⟨_, rfl⟩
        rw [← hS] at hbl
        refine mop_new h10 (fun gw w11 h11 => ?_)
        refine ⟨fun x w2 => ∃ i : Nat, i ≤ 16 ∧ x = .int .i64 i ∧ St w [⟨gw, 141, u32s (wk bl i), true⟩, ⟨gv, 140, u32s (blocks M j).list, true⟩, ⟨gm, 5, u8s M ++ sp, true⟩, ⟨gk, 141, u32s kl, true⟩, ⟨go, 33, List.replicate 32 (.int .u8 0), true⟩] w2,
          fun x _ => 16 - (intOf x).toNat, ⟨0, by omega, rfl, h11⟩, ?_⟩
        clear h10 h11
        rintro x u4 w12 ⟨i, hi, rfl, h12⟩
        (repeat (first | (refine mop_c ?_ ?_; first | exact trivial | omega) | (refine dp_c ?_ ?_; first | exact trivial | omega)))
        refine mif_dec (fun hlt2 => ?_) (fun hge2 => ?_)
        · (repeat (first | (refine mop_c ?_ ?_; first | exact trivial | omega) | (refine dp_c ?_ ?_; first | exact trivial | omega)))
          rw [show ((64 * j : Nat) : Int) + 4 * (i : Int) = ((64 * j + 4 * i : Nat) : Int) by omega]
          refine mop_to (word_ok gm 0 N cap (64 * j + 4 * i) (M.getD (64 * j + 4 * i) 0) (M.getD (64 * j + 4 * i + 1) 0) (M.getD (64 * j + 4 * i + 2) 0) (M.getD (64 * j + 4 * i + 3) 0) w12 (by omega) (by omega)
            ?_ ?_ ?_ ?_ (getD_bd M _ hMr) (getD_bd M _ hMr) (getD_bd M _ hMr) (getD_bd M _ hMr)) ?_
          · rw [Nat.zero_add]; exact (h12.cell 2 rfl _).trans (row_at M sp _ (by omega))
          · rw [Nat.zero_add]; exact (h12.cell 2 rfl _).trans (row_at M sp _ (by omega))
          · rw [Nat.zero_add]; exact (h12.cell 2 rfl _).trans (row_at M sp _ (by omega))
          · rw [Nat.zero_add]; exact (h12.cell 2 rfl _).trans (row_at M sp _ (by omega))
          rintro e w13 ⟨rfl, hd13⟩
          have h13 := h12.drawn hd13
          (repeat (first | (refine mop_c ?_ ?_; first | exact trivial | omega) | (refine dp_c ?_ ?_; first | exact trivial | omega)))
          refine mop_st (j := i) h13 (by omega) (by rw [u32s_length, wk_len bl i (by omega)]; omega) rfl (fun w14 h14 => ?_)
          (repeat (first | (refine mop_c ?_ ?_; first | exact trivial | omega) | (refine dp_c ?_ ?_; first | exact trivial | omega)))
          refine ⟨⟨i + 1, by omega, rfl, ?_⟩, by simp [intOf]; omega⟩
          rw [wk_set bl i (by omega)] at h14
          · exact h14
          · rw [wl_new, if_pos (by omega), hbat _ (by omega), hbat _ (by omega), hbat _ (by omega), hbat _ (by omega), ← Nat.add_assoc, ← Nat.add_assoc, ← Nat.add_assoc]
        · obtain rfl : i = 16 := by omega
          refine ⟨fun x w2 => ∃ k : Nat, 16 ≤ k ∧ k ≤ 64 ∧ x = .int .i64 k ∧ St w [⟨gw, 141, u32s (wk bl k), true⟩, ⟨gv, 140, u32s (blocks M j).list, true⟩, ⟨gm, 5, u8s M ++ sp, true⟩, ⟨gk, 141, u32s kl, true⟩, ⟨go, 33, List.replicate 32 (.int .u8 0), true⟩] w2,
            fun x _ => 64 - (intOf x).toNat, ⟨16, by omega, by omega, rfl, h12⟩, ?_⟩
          clear h12
          rintro x u5 w13 ⟨k, hk0, hk, rfl, h13⟩
          (repeat (first | (refine mop_c ?_ ?_; first | exact trivial | omega) | (refine dp_c ?_ ?_; first | exact trivial | omega)))
          refine mif_dec (fun hlt3 => ?_) (fun hge3 => ?_)
          · have d15 := wl_wd bl k (k - 15)
            have d2 := wl_wd bl k (k - 2)
            (repeat (first | (refine mop_c ?_ ?_; first | exact trivial | omega) | (refine dp_c ?_ ?_; first | exact trivial | omega)))
            refine mop_ld ((h13.cell 0 rfl (k - 15)).trans (wk_at bl k (k - 15) (by omega))) (by omega) ?_
            (repeat (first | (refine mop_c ?_ ?_; first | exact trivial | omega) | (refine dp_c ?_ ?_; first | exact trivial | omega)))
            refine mop_ld ((h13.cell 0 rfl (k - 2)).trans (wk_at bl k (k - 2) (by omega))) (by omega) ?_
            (repeat (first | (refine mop_c ?_ ?_; first | exact trivial | omega) | (refine dp_c ?_ ?_; first | exact trivial | omega)))
            refine dq_ld ((h13.cell 0 rfl (k - 16)).trans (wk_at bl k (k - 16) (by omega))) (by omega) ?_
            (repeat (first | (refine mop_c ?_ ?_; first | exact trivial | omega) | (refine dp_c ?_ ?_; first | exact trivial | omega)))
            refine dq_ld ((h13.cell 0 rfl (k - 7)).trans (wk_at bl k (k - 7) (by omega))) (by omega) ?_
            (repeat (first | (refine mop_c ?_ ?_; first | exact trivial | omega) | (refine dp_c ?_ ?_; first | exact trivial | omega)))
            refine df_eq (fun w => turned_k _ 7 w d15 (by decide)) fun w5 hd5 => ?_
            refine df_eq (fun w => turned_k _ 18 w d15 (by decide)) fun w6 hd6 => ?_
            (repeat (first | (refine mop_c ?_ ?_; first | exact trivial | omega) | (refine dp_c ?_ ?_; first | exact trivial | omega)))
            refine df_eq (fun w => turned_k _ 17 w d2 (by decide)) fun w7 hd7 => ?_
            refine df_eq (fun w => turned_k _ 19 w d2 (by decide)) fun w8 hd8 => ?_
            (repeat (first | (refine mop_c ?_ ?_; first | exact trivial | omega) | (refine dp_c ?_ ?_; first | exact trivial | omega)))
            have h14 := h13.drawn (((hd5.trans hd6).trans hd7).trans hd8)
            refine df_st (j := k) h14 (by omega) (by rw [u32s_length, wk_len bl k hk]; omega) rfl (fun w9 h15 => ?_)
            refine dend_intro fun w10 hd10 => ?_
            have h16 := h15.drawn hd10
            (repeat (first | (refine mop_c ?_ ?_; first | exact trivial | omega) | (refine dp_c ?_ ?_; first | exact trivial | omega)))
            refine ⟨⟨k + 1, by omega, by omega, rfl, ?_⟩, by simp [intOf]; omega⟩
            rw [wk_set bl k (by omega)] at h16
            · exact h16
            · rw [wl_new, if_neg (by omega)]
              rfl
          · obtain rfl : k = 64 := by omega
            have hw : wk bl 64 = wl bl 64 := by simp [wk]
            have hWl : (wl bl 64).length = 64 := wl_len bl 64
            rw [hw] at h13
            clear hw
            generalize wl bl 64 = W at h13 hWl hbl
            refine mop_ldN (cells_of_row (h13.mem (k := 1) rfl)) rfl rfl ?_
            refine mop_new h13 (fun gs w14 h14 => ?_)
            refine mop_storeN (q := true) (k := 8) (by kernel_rfl) h14 rfl (u32s_one (blocks M j).list) (by simp) (fun w15 h15 => ?_)
            have e9 : lay (List.replicate 8 (Value.int .u32 0)) (Value.agg (u32s (blocks M j).list).toArray).cells.toList 0 = u32s (blocks M j).list := lay_all _ _ rfl
            rw [e9] at h15
            clear h13 h14 e9
            generalize blocks M j = s0 at hbl hsok h15
            refine ⟨fun x w2 => ∃ i : Nat, i ≤ 64 ∧ x = .int .i64 i ∧ St w [⟨gs, 140, u32s (rl W i s0).list, true⟩, ⟨gw, 141, u32s W, true⟩, ⟨gv, 140, u32s s0.list, true⟩, ⟨gm, 5, u8s M ++ sp, true⟩, ⟨gk, 141, u32s kl, true⟩, ⟨go, 33, List.replicate 32 (.int .u8 0), true⟩] w2,
              fun x _ => 64 - (intOf x).toNat, ⟨0, by omega, rfl, h15⟩, ?_⟩
            clear h15
            rintro x u6 w16 ⟨i, hi4, rfl, h16⟩
            have hr := rl_ok W hsok i
            have hrs : rl W (i + 1) s0 = (rl W i s0).rnd (kl.getD i 0) (W.getD i 0) := rfl
            obtain ⟨s', hs'⟩ : ∃ s', s' = rl W (i + 1) s0 := ⟨_, rfl⟩
            obtain ⟨t, ht⟩ : ∃ t, rl W i s0 = t := ⟨_, rfl⟩
            rw [← hs'] at hrs
            rw [ht] at hr hrs h16
            (repeat (first | (refine mop_c ?_ ?_; first | exact trivial | omega) | (refine dp_c ?_ ?_; first | exact trivial | omega)))
            refine mif_dec (fun hlt4 => ?_) (fun hge4 => ?_)
            · (repeat (first | (refine mop_c ?_ ?_; first | exact trivial | omega) | (refine dp_c ?_ ?_; first | exact trivial | omega)))
              refine mop_ld ((h16.cell 0 rfl 4).trans (show (u32s t.list)[4]? = some (.int .u32 t.e) from rfl)) (by omega) ?_
              (repeat (first | (refine mop_c ?_ ?_; first | exact trivial | omega) | (refine dp_c ?_ ?_; first | exact trivial | omega)))
              refine mop_ld ((h16.cell 0 rfl 0).trans (show (u32s t.list)[0]? = some (.int .u32 t.a) from rfl)) (by omega) ?_
              (repeat (first | (refine mop_c ?_ ?_; first | exact trivial | omega) | (refine dp_c ?_ ?_; first | exact trivial | omega)))
              refine dq_ld ((h16.cell 0 rfl 7).trans (show (u32s t.list)[7]? = some (.int .u32 t.h) from rfl)) (by omega) ?_
              refine df_eq (fun w => turned_k _ 6 w hr.e (by decide)) fun w5 hd5 => ?_
              refine df_eq (fun w => turned_k _ 11 w hr.e (by decide)) fun w6 hd6 => ?_
              (repeat (first | (refine mop_c ?_ ?_; first | exact trivial | omega) | (refine dp_c ?_ ?_; first | exact trivial | omega)))
              refine df_eq (fun w => turned_k _ 25 w hr.e (by decide)) fun w7 hd7 => ?_
              (repeat (first | (refine mop_c ?_ ?_; first | exact trivial | omega) | (refine dp_c ?_ ?_; first | exact trivial | omega)))
              refine dq_ld ((h16.cell 0 rfl 5).trans (show (u32s t.list)[5]? = some (.int .u32 t.f) from rfl)) (by omega) ?_
              (repeat (first | (refine mop_c ?_ ?_; first | exact trivial | omega) | (refine dp_c ?_ ?_; first | exact trivial | omega)))
              refine dq_ld ((h16.cell 0 rfl 6).trans (show (u32s t.list)[6]? = some (.int .u32 t.g) from rfl)) (by omega) ?_
              (repeat (first | (refine mop_c ?_ ?_; first | exact trivial | omega) | (refine dp_c ?_ ?_; first | exact trivial | omega)))
              refine dq_ld ((h16.cell 4 rfl i).trans (u32s_at kl i (by rw [kl_len]; omega))) (by omega) ?_
              (repeat (first | (refine mop_c ?_ ?_; first | exact trivial | omega) | (refine dp_c ?_ ?_; first | exact trivial | omega)))
              refine dq_ld ((h16.cell 1 rfl i).trans (u32s_at W i (by omega))) (by omega) ?_
              (repeat (first | (refine mop_c ?_ ?_; first | exact trivial | omega) | (refine dp_c ?_ ?_; first | exact trivial | omega)))
              refine dend_intro fun w8 hd8 => ?_
              have h17 := h16.drawn (((hd5.trans hd6).trans hd7).trans hd8)
              refine df_eq (fun w => turned_k _ 2 w hr.a (by decide)) fun w9 hd9 => ?_
              refine df_eq (fun w => turned_k _ 13 w hr.a (by decide)) fun w10 hd10 => ?_
              (repeat (first | (refine mop_c ?_ ?_; first | exact trivial | omega) | (refine dp_c ?_ ?_; first | exact trivial | omega)))
              refine df_eq (fun w => turned_k _ 22 w hr.a (by decide)) fun w11 hd11 => ?_
              (repeat (first | (refine mop_c ?_ ?_; first | exact trivial | omega) | (refine dp_c ?_ ?_; first | exact trivial | omega)))
              refine dq_ld ((h17.cell 0 rfl 1).trans (show (u32s t.list)[1]? = some (.int .u32 t.b) from rfl)) (by omega) ?_
              (repeat (first | (refine mop_c ?_ ?_; first | exact trivial | omega) | (refine dp_c ?_ ?_; first | exact trivial | omega)))
              refine dq_ld ((h17.cell 0 rfl 2).trans (show (u32s t.list)[2]? = some (.int .u32 t.c) from rfl)) (by omega) ?_
              (repeat (first | (refine mop_c ?_ ?_; first | exact trivial | omega) | (refine dp_c ?_ ?_; first | exact trivial | omega)))
              refine dq_ld ((h17.cell 0 rfl 1).trans (show (u32s t.list)[1]? = some (.int .u32 t.b) from rfl)) (by omega) ?_
              (repeat (first | (refine mop_c ?_ ?_; first | exact trivial | omega) | (refine dp_c ?_ ?_; first | exact trivial | omega)))
              refine dq_ld ((h17.cell 0 rfl 2).trans (show (u32s t.list)[2]? = some (.int .u32 t.c) from rfl)) (by omega) ?_
              (repeat (first | (refine mop_c ?_ ?_; first | exact trivial | omega) | (refine dp_c ?_ ?_; first | exact trivial | omega)))
              refine dend_intro fun w12 hd12 => ?_
              have h18 := h17.drawn (((hd9.trans hd10).trans hd11).trans hd12)
              clear h16 h17
              (repeat (first | (refine mop_c ?_ ?_; first | exact trivial | omega) | (refine dp_c ?_ ?_; first | exact trivial | omega)))
              refine mop_ld ((h18.cell 0 rfl 0).trans (show (u32s t.list)[0]? = some (.int .u32 t.a) from rfl)) (by omega) ?_
              (repeat (first | (refine mop_c ?_ ?_; first | exact trivial | omega) | (refine dp_c ?_ ?_; first | exact trivial | omega)))
              refine mop_ld ((h18.cell 0 rfl 1).trans (show (u32s t.list)[1]? = some (.int .u32 t.b) from rfl)) (by omega) ?_
              (repeat (first | (refine mop_c ?_ ?_; first | exact trivial | omega) | (refine dp_c ?_ ?_; first | exact trivial | omega)))
              refine mop_ld ((h18.cell 0 rfl 2).trans (show (u32s t.list)[2]? = some (.int .u32 t.c) from rfl)) (by omega) ?_
              (repeat (first | (refine mop_c ?_ ?_; first | exact trivial | omega) | (refine dp_c ?_ ?_; first | exact trivial | omega)))
              refine mop_ld ((h18.cell 0 rfl 3).trans (show (u32s t.list)[3]? = some (.int .u32 t.d) from rfl)) (by omega) ?_
              (repeat (first | (refine mop_c ?_ ?_; first | exact trivial | omega) | (refine dp_c ?_ ?_; first | exact trivial | omega)))
              refine mop_ld ((h18.cell 0 rfl 4).trans (show (u32s t.list)[4]? = some (.int .u32 t.e) from rfl)) (by omega) ?_
              (repeat (first | (refine mop_c ?_ ?_; first | exact trivial | omega) | (refine dp_c ?_ ?_; first | exact trivial | omega)))
              refine mop_ld ((h18.cell 0 rfl 5).trans (show (u32s t.list)[5]? = some (.int .u32 t.f) from rfl)) (by omega) ?_
              (repeat (first | (refine mop_c ?_ ?_; first | exact trivial | omega) | (refine dp_c ?_ ?_; first | exact trivial | omega)))
              refine mop_ld ((h18.cell 0 rfl 6).trans (show (u32s t.list)[6]? = some (.int .u32 t.g) from rfl)) (by omega) ?_
              refine mop_pur (v := .agg (u32s s'.list).toArray) (by rw [hrs]; exact build8 _ _ _ _ _ _ _ _) ?_
              refine mop_storeN (q := true) (k := 8) (by kernel_rfl) h18 rfl (u32s_one s'.list) (by simp [u32s, S8.list]) (fun w13 h19 => ?_)
              have e9 : lay (u32s t.list) (Value.agg (u32s s'.list).toArray).cells.toList 0 = u32s s'.list := lay_all _ _ rfl
              rw [e9] at h19
              (repeat (first | (refine mop_c ?_ ?_; first | exact trivial | omega) | (refine dp_c ?_ ?_; first | exact trivial | omega)))
              exact ⟨⟨i + 1, by omega, rfl, by rw [← hs']; exact h19⟩, by simp [intOf]; omega⟩
            · obtain rfl : i = 64 := by omega
              rw [ht] at hbl
              refine ⟨fun x w2 => ∃ i : Nat, i ≤ 8 ∧ x = .int .i64 i ∧ St w [⟨gv, 140, u32s (addK s0.list t.list i), true⟩, ⟨gs, 140, u32s t.list, true⟩, ⟨gw, 141, u32s W, true⟩, ⟨gm, 5, u8s M ++ sp, true⟩, ⟨gk, 141, u32s kl, true⟩, ⟨go, 33, List.replicate 32 (.int .u8 0), true⟩] w2,
                fun x _ => 8 - (intOf x).toNat, ⟨0, by omega, rfl, h16.up2⟩, ?_⟩
              clear h16
              rintro x u7 w17 ⟨i, hi5, rfl, h17⟩
              (repeat (first | (refine mop_c ?_ ?_; first | exact trivial | omega) | (refine dp_c ?_ ?_; first | exact trivial | omega)))
              have hal : (addK s0.list t.list i).length = 8 := addK_len s0.list t.list i
              refine mif_dec (fun hlt5 => ?_) (fun hge5 => ?_)
              · (repeat (first | (refine mop_c ?_ ?_; first | exact trivial | omega) | (refine dp_c ?_ ?_; first | exact trivial | omega)))
                refine dq_ld ((h17.cell 0 rfl i).trans (u32s_at _ i (by omega))) (by omega) ?_
                (repeat (first | (refine mop_c ?_ ?_; first | exact trivial | omega) | (refine dp_c ?_ ?_; first | exact trivial | omega)))
                refine dq_ld ((h17.cell 1 rfl i).trans (u32s_at t.list i (by simp [S8.list]; omega))) (by omega) ?_
                (repeat (first | (refine mop_c ?_ ?_; first | exact trivial | omega) | (refine dp_c ?_ ?_; first | exact trivial | omega)))
                refine df_st (j := i) h17 (by omega) (by rw [u32s_length]; omega) rfl (fun w18 h18 => ?_)
                refine dend_intro fun w19 hd19 => ?_
                have h19 := h18.drawn hd19
                (repeat (first | (refine mop_c ?_ ?_; first | exact trivial | omega) | (refine dp_c ?_ ?_; first | exact trivial | omega)))
                refine ⟨⟨i + 1, by omega, rfl, ?_⟩, by simp [intOf]; omega⟩
                rw [set_u32s, addK_at s0.list t.list i i (Nat.le_refl i)] at h19
                exact h19
              · obtain rfl : i = 8 := by omega
                (repeat (first | (refine mop_c ?_ ?_; first | exact trivial | omega) | (refine dp_c ?_ ?_; first | exact trivial | omega)))
                refine ⟨⟨j + 1, by omega, by simp only [Value.int.injEq, true_and]; omega, ?_⟩, by simp [intOf]; omega⟩
                have e10 := addK_end s0.list t rfl
                rw [s8_list, ← hbl] at e10
                rw [e10] at h17
                rw [← hS]
                exact h17.swap.drop.swap.drop
      · have hjN : 64 * j = M.length := by omega
        have hfin : feedAll (h0, []) M = (blocks M j, []) := by
          have := blocks_feed M j (by omega)
          rwa [hjN, List.take_length] at this
        rw [hfin]
        generalize blocks M j = y at h10
        have hy8 : y.list.length = 8 := rfl
        refine mop_new h10 (fun gu w11 h11 => ?_)
        refine ⟨fun x w2 => ∃ i : Nat, i ≤ 32 ∧ x = .int .i64 i ∧ St w [⟨gu, 33, u8s (fill (outAt y.list) 32 i), true⟩, ⟨gv, 140, u32s y.list, true⟩, ⟨gm, 5, u8s M ++ sp, true⟩, ⟨gk, 141, u32s kl, true⟩, ⟨go, 33, List.replicate 32 (.int .u8 0), true⟩] w2,
          fun x _ => 32 - (intOf x).toNat, ⟨0, by omega, rfl, h11⟩, ?_⟩
        clear h10 h11
        rintro x u4 w12 ⟨i, hi, rfl, h12⟩
        (repeat (first | (refine mop_c ?_ ?_; first | exact trivial | omega) | (refine dp_c ?_ ?_; first | exact trivial | omega)))
        refine mif_dec (fun hlt2 => ?_) (fun hge2 => ?_)
        · (repeat (first | (refine mop_c ?_ ?_; first | exact trivial | omega) | (refine dp_c ?_ ?_; first | exact trivial | omega)))
          refine mop_ld ((h12.cell 1 rfl (i / 4)).trans (u32s_at y.list (i / 4) (by omega))) (by omega) ?_
          (repeat (first | (refine mop_c ?_ ?_; first | exact trivial | omega) | (refine dp_c ?_ ?_; first | exact trivial | omega)))
          refine mop_st (j := i) h12 (by omega) (by rw [u8s_length, fill_length _ _ _ hi]; omega) rfl (fun w13 h13 => ?_)
          (repeat (first | (refine mop_c ?_ ?_; first | exact trivial | omega) | (refine dp_c ?_ ?_; first | exact trivial | omega)))
          refine ⟨⟨i + 1, by omega, rfl, ?_⟩, by simp [intOf]; omega⟩
          rw [← fill_set _ _ _ (by omega), ← set_u8s]
          have e : outAt y.list i = y.list.getD (i / 4) 0 / 2 ^ (((24 : Int) - 8 * ((i : Int) % 4)) % 18446744073709551616).toNat % 256 := by
            unfold outAt
            congr 3
            omega
          rw [e]
          exact h13
        · obtain rfl : i = 32 := by omega
          have hf : fill (outAt y.list) 32 32 = outB y := by simp [fill, outB]
          rw [hf] at h12
          have hol : (u8s (outB y)).length = 32 := by simp [outB, u8s]
          refine mop_ldN (cells_of_row h12.head) hol rfl ?_
          have h13 := h12.drop.drop.drop.drop
          refine mop_storeN (q := true) (k := 32) (by kernel_rfl) h13 (by simpa [Value.cells] using hol) (by intro u hu; exact u8s_one _ u hu) (by simp) (fun w14 h14 => ?_)
          have e : lay (List.replicate 32 (Value.int .u8 0)) (Value.agg (u8s (outB y)).toArray).cells.toList 0 = u8s (outB y) := lay_all _ _ (by show (u8s (outB y)).length = _; rw [hol]; simp)
          rw [e] at h14
          refine rcell_ldN (cells_of_row h14.head) hol ?_
          exact ⟨rfl, h14.drop⟩
end Go.Proofs.Ytopcnkejobomaaa
namespace Go.Proofs.Ytopcnkejobomaaa
open Go.RowKit
theorem buildstr (s : ByteArray) (w : World) : (o_buildSlice 137 1 [(0, .string s)]).run Try.prog w = .ok (.value (.slice (some ⟨w.heap.size, 0, none⟩) 1 1)) (w.alloc (.cells [Value.string s].toArray 9)) := by kernel_rfl
theorem sum_one (s : ByteArray) (w : World) (hsz : s.size < 4611686018427387904) : Calls Try.prog 53 #[.slice (some ⟨w.heap.size, 0, none⟩) 1 1] (w.alloc (.cells [Value.string s].toArray 9)) fun e w' => e = .returned (hv (shaSum (ints s))) ∧ St w [] w' := by
  have h := sum_ok (some ⟨w.heap.size, 0, none⟩) [s] 1 (w.alloc (.cells [Value.string s].toArray 9)) (rd_new w [Value.string s] 9) (by simp) (by simpa [cat, ints_length] using hsz)
  refine h.mono ?_
  rintro e w' ⟨rfl, h'⟩
  refine ⟨by simp [cat], ?_⟩
  have := (St.nil w).alloc 9 [.string s]
  exact this.drop.call0 h'
theorem St.ext {w w' : World} {L : List Bk} (h : St w L w') (hn : ∀ b ∈ L, b.nw = true) : Ext w w' :=
  h.only.mono (fun i _ hi => by
    obtain ⟨b, hb, h2, _⟩ := hi
    rw [hn b hb] at h2
    cases h2)
end Go.Proofs.Ytopcnkejobomaaa
namespace Go.Proofs.Ytopcnkejobomaaa
open Go.RowKit
def xorB (c x : Int) : Int := bits .xor .u8 x c
def pad (l : List Int) : List Int := l ++ List.replicate (64 - l.length) 0
def kk (l : List Int) : List Int := if 64 < l.length then shaSum l else l
def hmac (k m : List Int) : List Int := shaSum ((pad (kk k)).map (xorB 92) ++ shaSum ((pad (kk k)).map (xorB 54) ++ m))
theorem hmac_length (k m : List Int) : (hmac k m).length = 32 := shaSum_length _
theorem hmac_range (k m : List Int) : ∀ x ∈ hmac k m, 0 ≤ x ∧ x < 256 := shaSum_range _
theorem kk_length (l : List Int) : (kk l).length ≤ 64 := by
  unfold kk
  split
  · rw [shaSum_length]; omega
  · omega
theorem pad_length (l : List Int) (h : l.length ≤ 64) : (pad l).length = 64 := by simp [pad]; omega
theorem xorB_range (c x : Int) : 0 ≤ xorB c x ∧ xorB c x < 256 := by
  have := bounds_u8 (wf_bits .xor .u8 x c)
  unfold xorB
  omega
theorem map_xor_range (c : Int) (l : List Int) : ∀ x ∈ l.map (xorB c), 0 ≤ x ∧ x < 256 := by
  intro x hx
  obtain ⟨y, _, rfl⟩ := List.mem_map.1 hx
  exact xorB_range c y
def xk (c : Int) (l : List Int) (i : Nat) : List Int := (l.take i).map (xorB c) ++ l.drop i
theorem xk_length (c : Int) (l : List Int) (i : Nat) : (xk c l i).length = l.length := by simp [xk]; omega
theorem xk_at (c : Int) (l : List Int) (i : Nat) (h : i < l.length) : (xk c l i).getD i 0 = l.getD i 0 := by
  have h1 : (l.take i).length = i := by simp; omega
  unfold xk List.getD
  rw [List.getElem?_append_right (by rw [List.length_map, h1]; omega), List.length_map, h1, Nat.sub_self, List.getElem?_drop]
  simp
theorem xk_set (c : Int) (l : List Int) (i : Nat) (h : i < l.length) : (xk c l i).set i (xorB c (l.getD i 0)) = xk c l (i + 1) := by
  unfold xk
  have h1 : (l.take i).length = i := by simp; omega
  rw [List.set_append, if_neg (by rw [List.length_map, h1]; omega), List.length_map, h1, Nat.sub_self, List.drop_eq_getElem_cons h, List.set_cons_zero, List.take_succ_eq_append_getElem h, List.map_append, List.append_assoc]
  simp [List.getD, h]
theorem xk_all (c : Int) (l : List Int) : xk c l l.length = l.map (xorB c) := by simp [xk]
theorem lay_pad (l : List Int) : lay (u8s (List.replicate 64 0)) (u8s l) 0 = u8s (pad l) := by
  unfold lay pad
  rw [u8s_append, u8s_length, List.take_zero, List.nil_append, Nat.zero_add]
  congr 1
  unfold u8s
  rw [← List.map_drop, List.drop_replicate]
theorem build2s (a b : ByteArray) (w : World) : (o_buildSlice 137 2 [(0, .string a), (1, .string b)]).run Try.prog w = .ok (.value (.slice (some ⟨w.heap.size, 0, none⟩) 2 2)) (w.alloc (.cells [Value.string a, .string b].toArray 9)) := by kernel_rfl
theorem RowSt.rd {w0 w : World} {e sz : Nat} {L : List Bk} {A : Option Addr} {n cap : Nat} {xs : List Value} (h : RowSt w0 e sz L A n cap xs w) : Rd w A xs := by
  rcases h.2 with ⟨rfl, rfl, rfl, _⟩ | ⟨g, sp, rfl, hst, _⟩
  · have := h.1
    rw [Nat.zero_mul] at this
    rw [List.eq_nil_of_length_eq_zero this]
    exact .inl rfl
  · refine .inr ⟨g, 0, rfl, ?_, fun j u hu => ?_⟩
    · exact hst.head.lt
    · rw [Nat.zero_add, hst.cell 0 rfl j]
      show (xs ++ sp)[j]? = some u
      rw [List.getElem?_append_left (List.getElem?_eq_some_iff.1 hu).1]
      exact hu
set_option maxRecDepth 100000 in
set_option maxHeartbeats 1000000 in
theorem code_ok (key : ByteArray) (A : Option Addr) (ss : List ByteArray) (c : Nat) (w : World) (hr : Rd w A (ss.map .string)) (hk : key.size < 1000000000000) (hss : ss.length < 1000000) (hsz : (cat ss).length < 1000000000000) :
    Calls Try.prog 159 #[.string key, .slice A ss.length c] w fun e w' => e = .returned (hv (hmac (ints key) (cat ss))) ∧ St w [] w' := by
  refine C_mac_Code ?_
  unfold F_mac_Code
  have z32 : (u8s (List.replicate 32 0)).length = 32 := by simp [u8s]
  refine mop_new (St.nil w) (fun r w1 h1 => ?_)
  have h1 : St w [⟨r, 34, u8s (List.replicate 32 0), true⟩] w1 := by simpa [u8s] using h1
  refine ⟨fun v w2 => ∃ k : ByteArray, v = .string k ∧ ints k = kk (ints key) ∧ St w [⟨r, 34, u8s (List.replicate 32 0), true⟩] w2, ?_, ?_⟩
  · (repeat (first | (refine mop_c ?_ ?_; first | exact trivial | omega) | (refine dp_c ?_ ?_; first | exact trivial | omega)))
    refine mif_dec (fun hlt => ?_) (fun hge => ?_)
    · refine mop_run (buildstr key w1) ?_
      refine mop_to (sum_one key w1 (by omega)) ?_
      rintro e w2 ⟨rfl, h2⟩
      have h2 := h1.call0 h2
      have h32 : (u8s (shaSum (ints key))).length = 32 := by rw [u8s_length, shaSum_length]
      refine mop_new h2 (fun g w3 h3 => ?_)
      refine mop_storeN (q := true) (k := 32) (by kernel_rfl) h3 (by simpa [hv, Value.cells] using h32) (by intro u hu; exact u8s_one _ u hu) (by simp) (fun w4 h4 => ?_)
      have e : lay (List.replicate 32 (Value.int .u8 0)) (hv (shaSum (ints key))).cells.toList 0 = u8s (shaSum (ints key)) := lay_all _ _ (by show (u8s (shaSum (ints key))).length = _; rw [h32]; simp)
      rw [e] at h4
      (repeat (first | (refine mop_c ?_ ?_; first | exact trivial | omega) | (refine dp_c ?_ ?_; first | exact trivial | omega)))
      refine mop_purW (pw_conv_bytes 106 9 5 g 0 32 _ (shaSum (ints key)) (by kernel_rfl) (by kernel_rfl) (by kernel_rfl) (shaSum_length _) (fun i hi => by rw [Nat.zero_add, h4.cell 0 rfl i]; exact u8s_at _ i (by rw [shaSum_length]; omega))) ?_
      refine ⟨_, rfl, ?_, h4.drop⟩
      rw [ints_str _ (shaSum_range _), kk, if_pos (by rw [ints_length]; omega)]
    · exact ⟨key, rfl, by rw [kk, if_neg (by rw [ints_length]; omega)], h1⟩
  · rintro v u w2 ⟨k, rfl, hk1, h2⟩
    clear h1
    have hkl : (ints k).length ≤ 64 := by rw [hk1]; exact kk_length _
    have hks : k.size ≤ 64 := by rwa [ints_length] at hkl
    have htk : (ints k).take (min k.size 64) = ints k := List.take_of_length_le (by rw [ints_length]; omega)
    obtain ⟨P, hP⟩ : ∃ P, P = pad (kk (ints key)) := ⟨_, rfl⟩
    have hPl : P.length = 64 := by rw [hP]; exact pad_length _ (kk_length _)
    have hlay : lay (u8s (List.replicate 64 0)) (u8s ((ints k).take (min k.size 64))) 0 = u8s P := by rw [htk, lay_pad, hk1, hP]
    have hm : hmac (ints key) (cat ss) = shaSum (P.map (xorB 92) ++ shaSum (P.map (xorB 54) ++ cat ss)) := by rw [hP]; rfl
    rw [hm]
    refine mop_new h2 (fun p w3 h3 => ?_)
    refine mop_new h3 (fun q w4 h4 => ?_)
    have h4 : St w [⟨q, 143, u8s (List.replicate 64 0), true⟩, ⟨p, 143, u8s (List.replicate 64 0), true⟩, ⟨r, 34, u8s (List.replicate 32 0), true⟩] w4 := by simpa [u8s] using h4
    clear h2 h3
    have z64 : (u8s (List.replicate 64 0)).length = 64 := by simp [u8s]
    (repeat (first | (refine mop_c ?_ ?_; first | exact trivial | omega) | (refine dp_c ?_ ?_; first | exact trivial | omega)))
    obtain ⟨w5, hr5, h5⟩ := run_copy_string (P := Try.prog) (o := 0) (m := 64) (c := 64) (s := k) (dT := 106) (sT := 9) (ty := 3) (e := 5) (ks := [false, false]) h4.swap (by kernel_rfl) (by kernel_rfl) (by rw [z64]; omega)
    rw [hlay] at h5
    refine mop_run hr5 ?_
    (repeat (first | (refine mop_c ?_ ?_; first | exact trivial | omega) | (refine dp_c ?_ ?_; first | exact trivial | omega)))
    obtain ⟨w6, hr6, h6⟩ := run_copy_string (P := Try.prog) (o := 0) (m := 64) (c := 64) (s := k) (dT := 106) (sT := 9) (ty := 3) (e := 5) (ks := [false, false]) h5.swap (by kernel_rfl) (by kernel_rfl) (by rw [z64]; omega)
    rw [hlay] at h6
    refine mop_run hr6 ?_
    clear h4 h5 hr5 hr6
    refine ⟨fun v w7 => ∃ i : Nat, i ≤ 64 ∧ v = .int .i64 i ∧ St w [⟨q, 143, u8s (xk 92 P i), true⟩, ⟨p, 143, u8s (xk 54 P i), true⟩, ⟨r, 34, u8s (List.replicate 32 0), true⟩] w7, fun v _ => 64 - (intOf v).toNat, ⟨0, by omega, rfl, by simpa [xk] using h6⟩, ?_⟩
    clear h6
    rintro v u w7 ⟨i, hi, rfl, h7⟩
    (repeat (first | (refine mop_c ?_ ?_; first | exact trivial | omega) | (refine dp_c ?_ ?_; first | exact trivial | omega)))
    refine mif_dec (fun hlt => ?_) (fun hge => ?_)
    · have hi' : i < 64 := by omega
      have c1 : ∀ w8 B C, St w (⟨q, 143, B, true⟩ :: ⟨p, 143, u8s (xk 54 P i), true⟩ :: C) w8 → w8.cell? ⟨p, i, none⟩ = some (.int .u8 (P.getD i 0)) := fun w8 B C h => by
        rw [h.cell 1 rfl i, ← xk_at 54 P i (by omega)]; exact u8s_at _ i (by rw [xk_length]; omega)
      have c2 : ∀ w8 B C, St w (B :: ⟨q, 143, u8s (xk 92 P i), true⟩ :: C) w8 → w8.cell? ⟨q, i, none⟩ = some (.int .u8 (P.getD i 0)) := fun w8 B C h => by
        rw [h.cell 1 rfl i, ← xk_at 92 P i (by omega)]; exact u8s_at _ i (by rw [xk_length]; omega)
      (repeat (first | (refine mop_c ?_ ?_; first | exact trivial | omega) | (refine dp_c ?_ ?_; first | exact trivial | omega)))
      refine mop_ld (c1 _ _ _ h7) (by omega) ?_
      (repeat (first | (refine mop_c ?_ ?_; first | exact trivial | omega) | (refine dp_c ?_ ?_; first | exact trivial | omega)))
      refine mop_st (j := i) h7.swap (by omega) (by rw [u8s_length, xk_length]; omega) rfl (fun w8 h8 => ?_)
      rw [set_u8s] at h8
      have h8 : St w (⟨p, 143, u8s (xk 54 P (i + 1)), true⟩ :: ⟨q, 143, u8s (xk 92 P i), true⟩ :: ⟨r, 34, u8s (List.replicate 32 0), true⟩ :: []) w8 := by
        rw [← xk_set 54 P i (by omega)]; exact h8
      (repeat (first | (refine mop_c ?_ ?_; first | exact trivial | omega) | (refine dp_c ?_ ?_; first | exact trivial | omega)))
      refine mop_ld (c2 _ _ _ h8) (by omega) ?_
      (repeat (first | (refine mop_c ?_ ?_; first | exact trivial | omega) | (refine dp_c ?_ ?_; first | exact trivial | omega)))
      refine mop_st (j := i) h8.swap (by omega) (by rw [u8s_length, xk_length]; omega) rfl (fun w9 h9 => ?_)
      rw [set_u8s] at h9
      have h9 : St w (⟨q, 143, u8s (xk 92 P (i + 1)), true⟩ :: ⟨p, 143, u8s (xk 54 P (i + 1)), true⟩ :: ⟨r, 34, u8s (List.replicate 32 0), true⟩ :: []) w9 := by
        rw [← xk_set 92 P i (by omega)]; exact h9
      (repeat (first | (refine mop_c ?_ ?_; first | exact trivial | omega) | (refine dp_c ?_ ?_; first | exact trivial | omega)))
      exact ⟨⟨i + 1, by omega, rfl, h9⟩, by simp [intOf]; omega⟩
    · obtain rfl : i = 64 := by omega
      have a1 : xk 54 P 64 = P.map (xorB 54) := by rw [← hPl]; exact xk_all 54 P
      have a2 : xk 92 P 64 = P.map (xorB 92) := by rw [← hPl]; exact xk_all 92 P
      rw [a1, a2] at h7
      have r1 := map_xor_range 54 P
      have r2 := map_xor_range 92 P
      have l1 : (P.map (xorB 54)).length = 64 := by rw [List.length_map, hPl]
      have l2 : (P.map (xorB 92)).length = 64 := by rw [List.length_map, hPl]
      generalize P.map (xorB 54) = X at h7 r1 l1 ⊢
      generalize P.map (xorB 92) = Y at h7 r2 l2 ⊢
      (repeat (first | (refine mop_c ?_ ?_; first | exact trivial | omega) | (refine dp_c ?_ ?_; first | exact trivial | omega)))
      refine mop_purW (pw_conv_bytes 106 9 5 p 0 64 _ X (by kernel_rfl) (by kernel_rfl) (by kernel_rfl) l1 (fun i hi => by rw [Nat.zero_add, h7.cell 1 rfl i]; exact u8s_at X i (by omega))) ?_
      refine mop_run (buildstr _ _) ?_
      have h8 := h7.alloc 9 [Value.string (strOfNums X)]
      have hrow : RowSt w 9 1 [⟨q, 143, u8s Y, true⟩, ⟨p, 143, u8s X, true⟩, ⟨r, 34, u8s (List.replicate 32 0), true⟩] (some ⟨w7.heap.size, 0, none⟩) 1 1 [Value.string (strOfNums X)] (w7.alloc (.cells [Value.string (strOfNums X)].toArray 9)) :=
        ⟨rfl, .inr ⟨w7.heap.size, [], rfl, h8, rfl, by omega, by unfold maxLen; omega⟩⟩
      have hsrc := src_of_rd (P := Try.prog) (size := 1) (tx := 137) (e' := 9) _ (by kernel_rfl) (A := A) (m := ss.length) (c := c) (news := ss.map .string) (by simp) ((h8.only.rd hr (fun b off _ h => by obtain ⟨b', hb, h2, _⟩ := h; simp at hb; rcases hb with rfl | rfl | rfl | rfl <;> cases h2))) (by intro u hu; obtain ⟨x, _, rfl⟩ := List.mem_map.1 hu; rfl)
      refine mop_append hrow hsrc (by unfold maxLen; omega) (by omega) (fun A' cap' w8 h9 => ?_)
      have hrd9 : Rd w8 A' ((strOfNums X :: ss).map .string) := h9.rd
      have hcat : cat (strOfNums X :: ss) = X ++ cat ss := by
        unfold cat
        rw [List.map_cons, List.flatten_cons, ints_str X r1]
      have hsum := sum_ok A' (strOfNums X :: ss) cap' w8 hrd9 (by simp; omega) (by rw [hcat, List.length_append]; omega)
      rw [hcat, List.length_cons, Nat.add_comm ss.length 1] at hsum
      refine mop_to hsum ?_
      rintro e w9 ⟨rfl, h10⟩
      have h10 := h9.base.call0 h10
      clear h7 h8 h9 hrow hsrc hsum hrd9
      obtain ⟨D, hD⟩ : ∃ D, D = shaSum (X ++ cat ss) := ⟨_, rfl⟩
      have rD := shaSum_range (X ++ cat ss)
      have lD := shaSum_length (X ++ cat ss)
      rw [← hD] at rD lD ⊢
      have hDl : (u8s D).length = 32 := by rw [u8s_length, lD]
      refine mop_new h10 (fun d w10 h11 => ?_)
      refine mop_storeN (q := true) (k := 32) (by kernel_rfl) h11 (by simpa [hv, Value.cells] using hDl) (by intro u hu; exact u8s_one _ u hu) (by simp) (fun w11 h12 => ?_)
      have e : lay (List.replicate 32 (Value.int .u8 0)) (hv D).cells.toList 0 = u8s D := lay_all _ _ (by show (u8s D).length = _; rw [hDl]; simp)
      rw [e] at h12
      (repeat (first | (refine mop_c ?_ ?_; first | exact trivial | omega) | (refine dp_c ?_ ?_; first | exact trivial | omega)))
      refine dq_pur (fun w3 hw => pw_conv_bytes 106 9 5 q 0 64 _ Y (by kernel_rfl) (by kernel_rfl) (by kernel_rfl) l2 (fun i hi => hw.cell (by rw [Nat.zero_add, h12.cell 1 rfl i]; exact u8s_at Y i (by omega)))) ?_
      (repeat (first | (refine mop_c ?_ ?_; first | exact trivial | omega) | (refine dp_c ?_ ?_; first | exact trivial | omega)))
      refine dq_pur (fun w3 hw => pw_conv_bytes 106 9 5 d 0 32 _ D (by kernel_rfl) (by kernel_rfl) (by kernel_rfl) lD (fun i hi => hw.cell (by rw [Nat.zero_add, h12.cell 0 rfl i]; exact u8s_at D i (by omega)))) ?_
      refine df_mop fun w12 hd12 => mop_run (build2s _ _ _) ⟨(fun e => by cases e), ?_⟩
      have h13 := (h12.drawn hd12)
      refine df_mop fun w13 hd13 => ?_
      have h14 := (h13.alloc 9 [Value.string (strOfNums Y), .string (strOfNums D)]).drawn hd13
      have hcat2 : cat [strOfNums Y, strOfNums D] = Y ++ D := by
        simp [cat, ints_str Y r2, ints_str D rD]
      have hsum := sum_ok (some ⟨w12.heap.size, 0, none⟩) [strOfNums Y, strOfNums D] 2 w13 (.inr ⟨w12.heap.size, 0, rfl, h14.head.lt, fun j u hu => by rw [Nat.zero_add, h14.cell 0 rfl j]; exact hu⟩) (by simp) (by rw [hcat2, List.length_append]; omega)
      rw [hcat2] at hsum
      refine mop_to hsum ?_
      rintro e w14 ⟨rfl, h15⟩
      have h15 := h14.drop.call0 h15
      refine ⟨(fun e => by cases e), ?_⟩
      refine df_mop fun w15 hd15 => ?_
      have h16 := (h15.drawn hd15).drop.drop.drop
      have hEl : (u8s (shaSum (Y ++ D))).length = 32 := by rw [u8s_length, shaSum_length]
      refine mop_storeN (q := true) (k := 32) (by kernel_rfl) h16 (by simpa [hv, Value.cells] using hEl) (by intro u hu; exact u8s_one _ u hu) (by rw [z32]; omega) (fun w17 h17 => ⟨(fun e => by cases e), ?_⟩)
      have e : lay (u8s (List.replicate 32 0)) (hv (shaSum (Y ++ D))).cells.toList 0 = u8s (shaSum (Y ++ D)) := lay_all _ _ (by show (u8s (shaSum (Y ++ D))).length = _; rw [hEl, z32])
      rw [e] at h17
      refine dend_intro fun w18 hd18 => ?_
      have h18 := h17.drawn hd18
      refine rcell_ldN (cells_of_row h18.head) hEl ?_
      exact ⟨rfl, h18.drop⟩
end Go.Proofs.Ytopcnkejobomaaa
namespace Go.Proofs.Ytopcnkejobomaaa
open Go.RowKit
end Go.Proofs.Ytopcnkejobomaaa
namespace Go.Proofs.Ytopcnkejobomaaa
open Go.RowKit
def numB (n : Int) : List Int :=
  if n < 64 then [n]
  else if n < 16384 then [64 + n / 256, n % 256]
  else if n < 1073741824 then [128 + n / 16777216, n / 65536 % 256, n / 256 % 256, n % 256]
  else [192 + n / 72057594037927936, n / 281474976710656 % 256, n / 1099511627776 % 256, n / 4294967296 % 256, n / 16777216 % 256, n / 65536 % 256, n / 256 % 256, n % 256]
theorem numB_length (n : Int) : (numB n).length ≤ 8 ∧ 1 ≤ (numB n).length := by
  unfold numB
  repeat' split
  all_goals simp
def wrR (g : Nat) (out : List Int) (bad : Bool) : Res := exR (fun (p : Option Addr × Nat) => [fb g 173 [.one (.slice p.1 out.length p.2), .one (.bool bad)], rowR 5 1 p.1 out.length p.2 (byts out)])
section
variable {H : Hp} {w0 w : World} {L R : List Res} {g : Nat} {out : List Int} {bad : Bool}
theorem Mem.wr (h : Mem H w0 (wrR g out bad :: L) w) : ∃ A c, Mem H w0 (fb g 173 [.one (.slice A out.length c), .one (.bool bad)] :: rowR 5 1 A out.length c (byts out) :: L) w := by
  obtain ⟨p, h⟩ := h.unex
  exact ⟨p.1, p.2, h⟩
theorem Mem.unwr {A : Option Addr} {n c : Nat} (h : Mem H w0 (fb g 173 [.one (.slice A n c), .one (.bool bad)] :: rowR 5 1 A n c (byts out) :: L) w) (hn : n = out.length) : Mem H w0 (wrR g out bad :: L) w := by
  subst hn
  exact Mem.toex (R := fun (p : Option Addr × Nat) => [fb g 173 [.one (.slice p.1 out.length p.2), .one (.bool bad)], rowR 5 1 p.1 out.length p.2 (byts out)]) (A, c) h
theorem wnew_ok (hM : Mem H w0 L w) : Calls Try.prog 95 #[] w fun en w' => ∃ v, en = .returned v ∧ ∃ g, v = .pointer (some ⟨g, 0, none⟩) ∧ Mem H w0 (wrR g [] false :: L) w' := by
  refine C_wire_New ?_
  unfold F_wire_New
  ((with_reducible (refine mop_c trivial ?_; refine mm_box hM ?_; clear hM; intro _ _ hM)))
  rename_i g _
  have hM : Mem H w0 (fb g 173 [.one (.slice none 0 0), .one (.bool false)] :: rowR 5 1 none 0 0 (byts []) :: L) _ := (hM.row0 5 1).perm (.swap ..)
  exact ⟨_, rfl, g, rfl, Mem.unwr hM rfl⟩
theorem whash_ok (h : H32) (hb : out.length < 1000000000) (hM : Mem H w0 (wrR g out bad :: L) w) : Calls Try.prog 99 #[.pointer (some ⟨g, 0, none⟩), ha h] w fun en w' => ∃ v, en = .returned v ∧ v = .tuple #[] ∧ Mem H w0 (wrR g (out ++ h.1) bad :: L) w' := by
  refine C_wire_Writer_Hash ?_
  unfold F_wire_Writer_Hash
  obtain ⟨A, c, hM⟩ := hM.wr
  ((with_reducible (refine mm_box hM ?_; clear hM; intro _ _ hM; refine mop_c trivial ?_; refine mif_true ?_; refine dp_c trivial ?_; refine dp_c trivial ?_; refine dm_ld hM ?_; refine dp_c trivial ?_; refine df_no hM ?_; clear hM; intro _ hM)))
  refine mm_appb hM (by omega) (fun A' c' w4 hM => ?_)
  ((with_reducible (refine dp_c trivial ?_; refine dp_c trivial ?_; refine dS_st hM ?_; clear hM; intro _ hM; refine mm_end hM ?_; clear hM; intro _ hM)))
  exact ⟨_, rfl, rfl, Mem.unwr ((hM.upB g).sub : Mem H w0 (fb g 173 [.one (.slice A' (out.length + 32) c'), .one (.bool bad)] :: rowR 5 1 A' (out.length + 32) c' (byts (out ++ h.1)) :: L) _) (by simp [h.2.1])⟩
theorem bounds_ok (w : World) : Calls Try.prog 152 #[] w fun en w' => en = .returned (.agg #[.int .i64 64, .int .i64 16384, .int .i64 1073741824, .int .i64 4611686018427387903]) ∧ St w [] w' := by
  have hM := Mem.start (Fz.of w)
  refine C_wire_bounds ?_
  unfold F_wire_bounds
  ((with_reducible (refine mm_new hM ?_; clear hM; intro _ _ hM; refine mop_c trivial ?_; refine mm_st hM ?_; clear hM; intro _ hM; refine rm_ld hM ?_)))
  exact ⟨rfl, hM.st⟩
instance : PurC Try.prog 152 [] True (.agg #[.int .i64 64, .int .i64 16384, .int .i64 1073741824, .int .i64 4611686018427387903]) := ⟨fun _ w => bounds_ok w⟩
def kindN (n : Int) : Int := if n < 64 then 0 else if n < 16384 then 1 else if n < 1073741824 then 2 else 3
theorem numB_cases (n : Int) : (n < 64 ∧ kindN n = 0 ∧ numB n = [n]) ∨ (64 ≤ n ∧ n < 16384 ∧ kindN n = 1 ∧ numB n = [64 + n / 256, n % 256]) ∨
    (16384 ≤ n ∧ n < 1073741824 ∧ kindN n = 2 ∧ numB n = [128 + n / 16777216, n / 65536 % 256, n / 256 % 256, n % 256]) ∨
    (1073741824 ≤ n ∧ kindN n = 3 ∧ numB n = [192 + n / 72057594037927936, n / 281474976710656 % 256, n / 1099511627776 % 256, n / 4294967296 % 256, n / 16777216 % 256, n / 65536 % 256, n / 256 % 256, n % 256]) := by
  unfold kindN numB
  by_cases h1 : n < 64
  · exact .inl ⟨h1, if_pos h1, if_pos h1⟩
  · by_cases h2 : n < 16384
    · exact .inr (.inl ⟨by omega, h2, by rw [if_neg h1, if_pos h2], by rw [if_neg h1, if_pos h2]⟩)
    · by_cases h3 : n < 1073741824
      · exact .inr (.inr (.inl ⟨by omega, h3, by rw [if_neg h1, if_neg h2, if_pos h3], by rw [if_neg h1, if_neg h2, if_pos h3]⟩))
      · exact .inr (.inr (.inr ⟨by omega, by rw [if_neg h1, if_neg h2, if_neg h3], by rw [if_neg h1, if_neg h2, if_neg h3]⟩))
theorem numB_len (n : Int) : ((numB n).length : Int) = 1 * 2 ^ (kindN n).toNat := by
  rcases numB_cases n with ⟨_, h2, h3⟩ | ⟨_, _, h2, h3⟩ | ⟨_, _, h2, h3⟩ | ⟨_, h2, h3⟩ <;> (rw [h2, h3]; rfl)
theorem or64 (a k : Int) (ha : 0 ≤ a ∧ a < 64) (hk : 0 ≤ k ∧ k ≤ 3) : bits .or .u8 a (k * 64) = a + k * 64 := by
  have key : ∀ x : Fin 64, ∀ y : Fin 4, bits .or .u8 (x.val : Int) ((y.val : Int) * 64) = (x.val : Int) + (y.val : Int) * 64 := by decide +kernel
  have := key ⟨a.toNat, by omega⟩ ⟨k.toNat, by omega⟩
  simp only [Int.toNat_of_nonneg ha.1, Int.toNat_of_nonneg hk.1] at this
  exact this
theorem numB_head (n : Int) (h : 0 ≤ n ∧ n ≤ 4611686018427387903) : 0 ≤ (numB n).getD 0 0 - kindN n * 64 ∧ (numB n).getD 0 0 - kindN n * 64 < 64 ∧ 0 ≤ kindN n ∧ kindN n ≤ 3 := by
  rcases numB_cases n with ⟨_, h2, h3⟩ | ⟨_, _, h2, h3⟩ | ⟨_, _, h2, h3⟩ | ⟨_, h2, h3⟩ <;> (rw [h2, h3]; simp; omega)
theorem byteAt (n : Int) (h : 0 ≤ n ∧ n ≤ 4611686018427387903) (i : Nat) (hi : i < (numB n).length) :
    n / 2 ^ (8 * (((numB n).length : Int) - 1 - i)).toNat % 256 = if i = 0 then (numB n).getD 0 0 - kindN n * 64 else (numB n).getD i 0 := by
  rcases numB_cases n with ⟨h1, h2, h3⟩ | ⟨h1, h0, h2, h3⟩ | ⟨h1, h0, h2, h3⟩ | ⟨h1, h2, h3⟩ <;> rw [h3] at hi ⊢ <;> rw [h2]
  · obtain rfl : i = 0 := by simp at hi; omega
    simp
    omega
  · obtain rfl | rfl : i = 0 ∨ i = 1 := by simp at hi; omega
    all_goals simp
    all_goals omega
  · obtain rfl | rfl | rfl | rfl : i = 0 ∨ i = 1 ∨ i = 2 ∨ i = 3 := by simp at hi; omega
    all_goals simp
    all_goals omega
  · obtain rfl | rfl | rfl | rfl | rfl | rfl | rfl | rfl : i = 0 ∨ i = 1 ∨ i = 2 ∨ i = 3 ∨ i = 4 ∨ i = 5 ∨ i = 6 ∨ i = 7 := by simp at hi; omega
    all_goals simp
    all_goals omega
theorem byts_snoc {out : List Int} (l : List Int) (i : Nat) (h : i < l.length) : byts (out ++ l.take i) ++ [[.one (.int .u8 (l.getD i 0))]] = byts (out ++ l.take (i + 1)) := by
  have e : out ++ l.take (i + 1) = (out ++ l.take i) ++ [l.getD i 0] := by
    rw [List.take_succ_eq_append_getElem h, ← List.append_assoc, List.getD_eq_getElem?_getD, List.getElem?_eq_getElem h]
    rfl
  rw [e, byts_app (out ++ l.take i)]
  rfl
theorem wnum_ok (n : Int) (h : 0 ≤ n ∧ n ≤ 4611686018427387903) (hb : out.length < 1000000000) (hM : Mem H w0 (wrR g out bad :: L) w) : Calls Try.prog 129 #[.pointer (some ⟨g, 0, none⟩), .int .i64 n] w fun en w' => ∃ v, en = .returned v ∧ v = .tuple #[] ∧ Mem H w0 (wrR g (out ++ numB n) bad :: L) w' := by
  refine C_wire_Writer_Num ?_
  unfold F_wire_Writer_Num
  ((with_reducible (refine mop_c trivial ?_; refine mif_false ?_)))
  refine ⟨fun x w' => x = .bool false ∧ hM.now w', ?_, ?_⟩
  · ((with_reducible (refine mop_cF trivial ?_ ?_)); (focus (first | assumption | omega | with_reducible rfl | exact fun h => Bool.noConfusion h)); (with_reducible (refine mguard_yes ?_; refine mop_c trivial ?_; refine mguard_yes ?_; refine mop_cF trivial ?_ ?_)); (focus (first | assumption | omega | with_reducible rfl | exact fun h => Bool.noConfusion h)); (with_reducible (refine mop_c trivial ?_)))
    exact ⟨rfl, hM⟩
  rintro x u w1 ⟨rfl, hM⟩
  ((with_reducible (refine mif_false ?_)))
  refine ⟨fun x w' => ∃ k : Nat, x = .int .i64 k ∧ k ≤ 3 ∧ (1 ≤ k → 64 ≤ n) ∧ (2 ≤ k → 16384 ≤ n) ∧ (3 ≤ k → 1073741824 ≤ n) ∧ hM.now w', fun x _ => match x with | .int _ i => 3 - i.toNat | _ => 0, ⟨0, rfl, by omega, by omega, by omega, by omega, hM⟩, ?_⟩
  rintro x u w2 ⟨k, rfl, hk, h1, h2, h3, hM⟩
  have hlen := numB_length n
  refine ⟨fun w' => k < 3 ∧ (k = 0 → 64 ≤ n) ∧ (k = 1 → 16384 ≤ n) ∧ (k = 2 → 1073741824 ≤ n) ∧ hM.now w', ?_, ?_⟩
  · obtain rfl | rfl | rfl | rfl : k = 0 ∨ k = 1 ∨ k = 2 ∨ k = 3 := by omega
    · have e0 : (((0 : Nat) : Int)) = 0 := rfl
      simp only [e0]
      ((with_reducible (refine mop_cT trivial ?_ ?_)); (focus (first | assumption | omega | with_reducible rfl | exact fun h => Bool.noConfusion h)); (with_reducible (refine mguard_yes ?_; refine mop_c trivial ?_; refine mguard_yes ?_; refine mm_purC hM ?_ (fun _ hM2 => ?_))); (focus (first | exact trivial | assumption | omega)); (with_reducible (replace hM := hM2; clear hM2; refine mguard_yes ?_; refine mop_c trivial ?_; refine mguard_yes ?_)))
      refine mop_pur (v := .int .i64 64) (fun w => by kernel_rfl) ?_
      ((with_reducible (refine mguard_yes ?_)))
      ((with_reducible (refine mop_cS trivial ?_ ?_)))
      · intro hn
        ((with_reducible (refine mop_c trivial ?_; refine mif_true ?_)))
        exact ⟨by omega, by omega, by omega, by omega, hM⟩
      · intro hn
        ((with_reducible (refine mop_c trivial ?_; refine mif_false ?_)))
        have hkn : (0 : Int) = kindN n := by
          unfold kindN
          simp at h1 h2 h3
          repeat' split
          all_goals omega
        refine mop_pur (p_shl _ _ _ _ _ _ (by omega) (by simp [IntKind.bits])) ?_
        have hL : IntKind.i64.wrap (1 * 2 ^ (0 : Int).toNat) = ((numB n).length : Int) := by
          rw [numB_len, ← hkn]
          rfl
        rw [hL]
        refine ⟨fun x w' => ∃ i : Nat, x = .int .i64 i ∧ i ≤ (numB n).length ∧ Mem H w0 (wrR g (out ++ (numB n).take i) bad :: L) w', fun x _ => match x with | .int _ i => (numB n).length - i.toNat | _ => 0, ⟨0, rfl, by omega, by simpa using hM⟩, ?_⟩
        clear hM
        rintro x u w4 ⟨i, rfl, hi, hM⟩
        skip
        ((with_reducible (refine mop_cS trivial ?_ ?_)))
        · intro hlt
          have hlt' : i < (numB n).length := by omega
          have hby := byteAt n h i hlt'
          have hhd := numB_head n h
          ((with_reducible (refine mif_true ?_; refine mop_c ?_ ?_)); (focus omega); (with_reducible (refine mop_c ?_ ?_)); (focus omega); (with_reducible (refine mop_c ?_ ?_)); (focus omega); (with_reducible (refine mop_c ?_ ?_)); (focus omega); (with_reducible (refine mop_c trivial ?_)))
          rw [hby]
          refine ⟨fun x w' => x = .int .u8 ((numB n).getD i 0) ∧ hM.now w', ?_, ?_⟩
          · skip
            ((with_reducible (refine mop_cS trivial ?_ ?_)))
            · intro h0
              obtain rfl : i = 0 := by omega
              ((with_reducible (refine mif_true ?_)))
              refine mop_pur (p_shl _ _ _ _ _ _ (by omega) (by simp [IntKind.bits])) ?_
              have h6 : IntKind.i64.wrap ((0 : Int) * 2 ^ (6 : Int).toNat) = kindN n * 64 := by
                rw [← hkn]
                rfl
              rw [h6]
              ((with_reducible (refine mop_c trivial ?_; refine mop_c trivial ?_)))
              refine ⟨?_, hM⟩
              rw [if_pos rfl, Int.emod_eq_of_lt (by omega) (by omega), or64 _ _ (by omega) (by omega)]
              congr 1
              omega
            · intro h0
              ((with_reducible (refine mif_false ?_)))
              exact ⟨by rw [if_neg (by omega)], hM⟩
          · rintro x u w5 ⟨rfl, hM⟩
            obtain ⟨A, c, hM⟩ := hM.wr
            have hol : (out ++ (numB n).take i).length ≤ out.length + 8 := by rw [List.length_append, List.length_take]; omega
            ((with_reducible (refine mop_c trivial ?_; refine mop_c trivial ?_; refine mm_ld hM ?_; refine mm_bsl hM ?_ ?_ ?_)); (focus rfl); (focus (constructor <;> simp)); (with_reducible (clear hM; intro _ _ hM; refine mm_appo hM ?_ ?_)); (focus omega); (with_reducible (clear hM; intro _ _ _ hM; refine mop_c trivial ?_; refine mop_c trivial ?_; refine mm_st hM ?_; clear hM; intro _ hM; refine mop_c ?_ ?_)); (focus omega))
            rw [byts_snoc _ _ hlt'] at hM
            have hl2 : (out ++ (numB n).take i).length + 1 = (out ++ (numB n).take (i + 1)).length := by
              rw [List.length_append, List.length_append, List.length_take, List.length_take]; omega
            have hM2 := Mem.unwr (hM.upB g) hl2
            refine ⟨⟨i + 1, by rw [Int.natCast_add]; rfl, by omega, hM2⟩, ?_⟩
            show (numB n).length - ((i : Int) + 1).toNat < (numB n).length - (i : Int).toNat
            omega
        · intro hge
          ((with_reducible (refine mif_false ?_)))
          rw [List.take_of_length_le (by omega)] at hM
          exact ⟨_, rfl, rfl, hM⟩
    · have e0 : (((1 : Nat) : Int)) = 1 := rfl
      simp only [e0]
      ((with_reducible (refine mop_cT trivial ?_ ?_)); (focus (first | assumption | omega | with_reducible rfl | exact fun h => Bool.noConfusion h)); (with_reducible (refine mguard_yes ?_; refine mop_c trivial ?_; refine mguard_yes ?_; refine mm_purC hM ?_ (fun _ hM2 => ?_))); (focus (first | exact trivial | assumption | omega)); (with_reducible (replace hM := hM2; clear hM2; refine mguard_yes ?_; refine mop_c trivial ?_; refine mguard_yes ?_)))
      refine mop_pur (v := .int .i64 16384) (fun w => by kernel_rfl) ?_
      ((with_reducible (refine mguard_yes ?_)))
      ((with_reducible (refine mop_cS trivial ?_ ?_)))
      · intro hn
        ((with_reducible (refine mop_c trivial ?_; refine mif_true ?_)))
        exact ⟨by omega, by omega, by omega, by omega, hM⟩
      · intro hn
        ((with_reducible (refine mop_c trivial ?_; refine mif_false ?_)))
        have hkn : (1 : Int) = kindN n := by
          unfold kindN
          simp at h1 h2 h3
          repeat' split
          all_goals omega
        refine mop_pur (p_shl _ _ _ _ _ _ (by omega) (by simp [IntKind.bits])) ?_
        have hL : IntKind.i64.wrap (1 * 2 ^ (1 : Int).toNat) = ((numB n).length : Int) := by
          rw [numB_len, ← hkn]
          rfl
        rw [hL]
        refine ⟨fun x w' => ∃ i : Nat, x = .int .i64 i ∧ i ≤ (numB n).length ∧ Mem H w0 (wrR g (out ++ (numB n).take i) bad :: L) w', fun x _ => match x with | .int _ i => (numB n).length - i.toNat | _ => 0, ⟨0, rfl, by omega, by simpa using hM⟩, ?_⟩
        clear hM
        rintro x u w4 ⟨i, rfl, hi, hM⟩
        skip
        ((with_reducible (refine mop_cS trivial ?_ ?_)))
        · intro hlt
          have hlt' : i < (numB n).length := by omega
          have hby := byteAt n h i hlt'
          have hhd := numB_head n h
          ((with_reducible (refine mif_true ?_; refine mop_c ?_ ?_)); (focus omega); (with_reducible (refine mop_c ?_ ?_)); (focus omega); (with_reducible (refine mop_c ?_ ?_)); (focus omega); (with_reducible (refine mop_c ?_ ?_)); (focus omega); (with_reducible (refine mop_c trivial ?_)))
          rw [hby]
          refine ⟨fun x w' => x = .int .u8 ((numB n).getD i 0) ∧ hM.now w', ?_, ?_⟩
          · skip
            ((with_reducible (refine mop_cS trivial ?_ ?_)))
            · intro h0
              obtain rfl : i = 0 := by omega
              ((with_reducible (refine mif_true ?_)))
              refine mop_pur (p_shl _ _ _ _ _ _ (by omega) (by simp [IntKind.bits])) ?_
              have h6 : IntKind.i64.wrap ((1 : Int) * 2 ^ (6 : Int).toNat) = kindN n * 64 := by
                rw [← hkn]
                rfl
              rw [h6]
              ((with_reducible (refine mop_c trivial ?_; refine mop_c trivial ?_)))
              refine ⟨?_, hM⟩
              rw [if_pos rfl, Int.emod_eq_of_lt (by omega) (by omega), or64 _ _ (by omega) (by omega)]
              congr 1
              omega
            · intro h0
              ((with_reducible (refine mif_false ?_)))
              exact ⟨by rw [if_neg (by omega)], hM⟩
          · rintro x u w5 ⟨rfl, hM⟩
            obtain ⟨A, c, hM⟩ := hM.wr
            have hol : (out ++ (numB n).take i).length ≤ out.length + 8 := by rw [List.length_append, List.length_take]; omega
            ((with_reducible (refine mop_c trivial ?_; refine mop_c trivial ?_; refine mm_ld hM ?_; refine mm_bsl hM ?_ ?_ ?_)); (focus rfl); (focus (constructor <;> simp)); (with_reducible (clear hM; intro _ _ hM; refine mm_appo hM ?_ ?_)); (focus omega); (with_reducible (clear hM; intro _ _ _ hM; refine mop_c trivial ?_; refine mop_c trivial ?_; refine mm_st hM ?_; clear hM; intro _ hM; refine mop_c ?_ ?_)); (focus omega))
            rw [byts_snoc _ _ hlt'] at hM
            have hl2 : (out ++ (numB n).take i).length + 1 = (out ++ (numB n).take (i + 1)).length := by
              rw [List.length_append, List.length_append, List.length_take, List.length_take]; omega
            have hM2 := Mem.unwr (hM.upB g) hl2
            refine ⟨⟨i + 1, by rw [Int.natCast_add]; rfl, by omega, hM2⟩, ?_⟩
            show (numB n).length - ((i : Int) + 1).toNat < (numB n).length - (i : Int).toNat
            omega
        · intro hge
          ((with_reducible (refine mif_false ?_)))
          rw [List.take_of_length_le (by omega)] at hM
          exact ⟨_, rfl, rfl, hM⟩
    · have e0 : (((2 : Nat) : Int)) = 2 := rfl
      simp only [e0]
      ((with_reducible (refine mop_cT trivial ?_ ?_)); (focus (first | assumption | omega | with_reducible rfl | exact fun h => Bool.noConfusion h)); (with_reducible (refine mguard_yes ?_; refine mop_c trivial ?_; refine mguard_yes ?_; refine mm_purC hM ?_ (fun _ hM2 => ?_))); (focus (first | exact trivial | assumption | omega)); (with_reducible (replace hM := hM2; clear hM2; refine mguard_yes ?_; refine mop_c trivial ?_; refine mguard_yes ?_)))
      refine mop_pur (v := .int .i64 1073741824) (fun w => by kernel_rfl) ?_
      ((with_reducible (refine mguard_yes ?_)))
      ((with_reducible (refine mop_cS trivial ?_ ?_)))
      · intro hn
        ((with_reducible (refine mop_c trivial ?_; refine mif_true ?_)))
        exact ⟨by omega, by omega, by omega, by omega, hM⟩
      · intro hn
        ((with_reducible (refine mop_c trivial ?_; refine mif_false ?_)))
        have hkn : (2 : Int) = kindN n := by
          unfold kindN
          simp at h1 h2 h3
          repeat' split
          all_goals omega
        refine mop_pur (p_shl _ _ _ _ _ _ (by omega) (by simp [IntKind.bits])) ?_
        have hL : IntKind.i64.wrap (1 * 2 ^ (2 : Int).toNat) = ((numB n).length : Int) := by
          rw [numB_len, ← hkn]
          rfl
        rw [hL]
        refine ⟨fun x w' => ∃ i : Nat, x = .int .i64 i ∧ i ≤ (numB n).length ∧ Mem H w0 (wrR g (out ++ (numB n).take i) bad :: L) w', fun x _ => match x with | .int _ i => (numB n).length - i.toNat | _ => 0, ⟨0, rfl, by omega, by simpa using hM⟩, ?_⟩
        clear hM
        rintro x u w4 ⟨i, rfl, hi, hM⟩
        skip
        ((with_reducible (refine mop_cS trivial ?_ ?_)))
        · intro hlt
          have hlt' : i < (numB n).length := by omega
          have hby := byteAt n h i hlt'
          have hhd := numB_head n h
          ((with_reducible (refine mif_true ?_; refine mop_c ?_ ?_)); (focus omega); (with_reducible (refine mop_c ?_ ?_)); (focus omega); (with_reducible (refine mop_c ?_ ?_)); (focus omega); (with_reducible (refine mop_c ?_ ?_)); (focus omega); (with_reducible (refine mop_c trivial ?_)))
          rw [hby]
          refine ⟨fun x w' => x = .int .u8 ((numB n).getD i 0) ∧ hM.now w', ?_, ?_⟩
          · skip
            ((with_reducible (refine mop_cS trivial ?_ ?_)))
            · intro h0
              obtain rfl : i = 0 := by omega
              ((with_reducible (refine mif_true ?_)))
              refine mop_pur (p_shl _ _ _ _ _ _ (by omega) (by simp [IntKind.bits])) ?_
              have h6 : IntKind.i64.wrap ((2 : Int) * 2 ^ (6 : Int).toNat) = kindN n * 64 := by
                rw [← hkn]
                rfl
              rw [h6]
              ((with_reducible (refine mop_c trivial ?_; refine mop_c trivial ?_)))
              refine ⟨?_, hM⟩
              rw [if_pos rfl, Int.emod_eq_of_lt (by omega) (by omega), or64 _ _ (by omega) (by omega)]
              congr 1
              omega
            · intro h0
              ((with_reducible (refine mif_false ?_)))
              exact ⟨by rw [if_neg (by omega)], hM⟩
          · rintro x u w5 ⟨rfl, hM⟩
            obtain ⟨A, c, hM⟩ := hM.wr
            have hol : (out ++ (numB n).take i).length ≤ out.length + 8 := by rw [List.length_append, List.length_take]; omega
            ((with_reducible (refine mop_c trivial ?_; refine mop_c trivial ?_; refine mm_ld hM ?_; refine mm_bsl hM ?_ ?_ ?_)); (focus rfl); (focus (constructor <;> simp)); (with_reducible (clear hM; intro _ _ hM; refine mm_appo hM ?_ ?_)); (focus omega); (with_reducible (clear hM; intro _ _ _ hM; refine mop_c trivial ?_; refine mop_c trivial ?_; refine mm_st hM ?_; clear hM; intro _ hM; refine mop_c ?_ ?_)); (focus omega))
            rw [byts_snoc _ _ hlt'] at hM
            have hl2 : (out ++ (numB n).take i).length + 1 = (out ++ (numB n).take (i + 1)).length := by
              rw [List.length_append, List.length_append, List.length_take, List.length_take]; omega
            have hM2 := Mem.unwr (hM.upB g) hl2
            refine ⟨⟨i + 1, by rw [Int.natCast_add]; rfl, by omega, hM2⟩, ?_⟩
            show (numB n).length - ((i : Int) + 1).toNat < (numB n).length - (i : Int).toNat
            omega
        · intro hge
          ((with_reducible (refine mif_false ?_)))
          rw [List.take_of_length_le (by omega)] at hM
          exact ⟨_, rfl, rfl, hM⟩
    · have e0 : (((3 : Nat) : Int)) = 3 := rfl
      simp only [e0]
      ((with_reducible (refine mop_cF trivial ?_ ?_)); (focus (first | assumption | omega | with_reducible rfl | exact fun h => Bool.noConfusion h)); (with_reducible ((iterate 5 refine mguard_n2 ?_); refine mop_c trivial ?_; refine mif_false ?_)))
      · have hkn : (3 : Int) = kindN n := by
          unfold kindN
          simp at h1 h2 h3
          repeat' split
          all_goals omega
        refine mop_pur (p_shl _ _ _ _ _ _ (by omega) (by simp [IntKind.bits])) ?_
        have hL : IntKind.i64.wrap (1 * 2 ^ (3 : Int).toNat) = ((numB n).length : Int) := by
          rw [numB_len, ← hkn]
          rfl
        rw [hL]
        refine ⟨fun x w' => ∃ i : Nat, x = .int .i64 i ∧ i ≤ (numB n).length ∧ Mem H w0 (wrR g (out ++ (numB n).take i) bad :: L) w', fun x _ => match x with | .int _ i => (numB n).length - i.toNat | _ => 0, ⟨0, rfl, by omega, by simpa using hM⟩, ?_⟩
        clear hM
        rintro x u w4 ⟨i, rfl, hi, hM⟩
        skip
        ((with_reducible (refine mop_cS trivial ?_ ?_)))
        · intro hlt
          have hlt' : i < (numB n).length := by omega
          have hby := byteAt n h i hlt'
          have hhd := numB_head n h
          ((with_reducible (refine mif_true ?_; refine mop_c ?_ ?_)); (focus omega); (with_reducible (refine mop_c ?_ ?_)); (focus omega); (with_reducible (refine mop_c ?_ ?_)); (focus omega); (with_reducible (refine mop_c ?_ ?_)); (focus omega); (with_reducible (refine mop_c trivial ?_)))
          rw [hby]
          refine ⟨fun x w' => x = .int .u8 ((numB n).getD i 0) ∧ hM.now w', ?_, ?_⟩
          · skip
            ((with_reducible (refine mop_cS trivial ?_ ?_)))
            · intro h0
              obtain rfl : i = 0 := by omega
              ((with_reducible (refine mif_true ?_)))
              refine mop_pur (p_shl _ _ _ _ _ _ (by omega) (by simp [IntKind.bits])) ?_
              have h6 : IntKind.i64.wrap ((3 : Int) * 2 ^ (6 : Int).toNat) = kindN n * 64 := by
                rw [← hkn]
                rfl
              rw [h6]
              ((with_reducible (refine mop_c trivial ?_; refine mop_c trivial ?_)))
              refine ⟨?_, hM⟩
              rw [if_pos rfl, Int.emod_eq_of_lt (by omega) (by omega), or64 _ _ (by omega) (by omega)]
              congr 1
              omega
            · intro h0
              ((with_reducible (refine mif_false ?_)))
              exact ⟨by rw [if_neg (by omega)], hM⟩
          · rintro x u w5 ⟨rfl, hM⟩
            obtain ⟨A, c, hM⟩ := hM.wr
            have hol : (out ++ (numB n).take i).length ≤ out.length + 8 := by rw [List.length_append, List.length_take]; omega
            ((with_reducible (refine mop_c trivial ?_; refine mop_c trivial ?_; refine mm_ld hM ?_; refine mm_bsl hM ?_ ?_ ?_)); (focus rfl); (focus (constructor <;> simp)); (with_reducible (clear hM; intro _ _ hM; refine mm_appo hM ?_ ?_)); (focus omega); (with_reducible (clear hM; intro _ _ _ hM; refine mop_c trivial ?_; refine mop_c trivial ?_; refine mm_st hM ?_; clear hM; intro _ hM; refine mop_c ?_ ?_)); (focus omega))
            rw [byts_snoc _ _ hlt'] at hM
            have hl2 : (out ++ (numB n).take i).length + 1 = (out ++ (numB n).take (i + 1)).length := by
              rw [List.length_append, List.length_append, List.length_take, List.length_take]; omega
            have hM2 := Mem.unwr (hM.upB g) hl2
            refine ⟨⟨i + 1, by rw [Int.natCast_add]; rfl, by omega, hM2⟩, ?_⟩
            show (numB n).length - ((i : Int) + 1).toNat < (numB n).length - (i : Int).toNat
            omega
        · intro hge
          ((with_reducible (refine mif_false ?_)))
          rw [List.take_of_length_le (by omega)] at hM
          exact ⟨_, rfl, rfl, hM⟩
  · rintro u w3 ⟨hk3, g1, g2, g3, hM⟩
    ((with_reducible (refine mop_c ?_ ?_)); (focus omega))
    exact ⟨⟨k + 1, by simp, by omega, fun _ => by omega, fun _ => by omega, fun _ => by omega, hM⟩, by simp; omega⟩
theorem wend_ok (hM : Mem H w0 (wrR g out false :: L) w) : Calls Try.prog 97 #[.pointer (some ⟨g, 0, none⟩)] w fun en w' => en = .returned (.tuple #[.string (strOfNums out), .int .i64 0]) ∧ St w [] w' := by
  refine C_wire_Writer_End ?_
  unfold F_wire_Writer_End
  obtain ⟨A, c, hM⟩ := hM.wr
  refine ⟨fun x w' => x = .bool false ∧ w = w', ?_, ?_⟩
  · ((with_reducible (refine mop_c trivial ?_; refine mguard_yes ?_; refine mop_c trivial ?_; refine mguard_yes ?_; refine mop_c trivial ?_; refine mguard_yes ?_; refine mop_c trivial ?_; refine mguard_yes ?_; refine mm_ld hM ?_; refine mop_c trivial ?_)))
    exact ⟨rfl, rfl⟩
  rintro x u w2 ⟨rfl, rfl⟩
  ((with_reducible (refine mif_false ?_; refine mop_c trivial ?_; refine mop_c trivial ?_; refine mm_ld hM ?_)))
  refine mm_cvr hM (Nat.le_refl _) ?_
  rw [List.take_length]
  exact ⟨rfl, St.nil w⟩
end
end Go.Proofs.Ytopcnkejobomaaa
namespace Go.Proofs.Ytopcnkejobomaaa
open Go.RowKit
section
variable {H : Hp} {w0 w : World} {L R : List Res} {g : Nat}
theorem rtext_ok (h : H32) (w : World) : Calls Try.prog 147 #[ha h] w fun en w' => en = .returned (.string (strOfNums h.1)) ∧ St w [] w' := by
  have hM := Mem.start (Fz.of w)
  refine C_bevyref05_text ?_
  unfold F_bevyref05_text
  ((with_reducible (refine mm_box hM ?_; clear hM; intro _ _ hM; refine mop_c trivial ?_; refine mm_cvb hM ?_)))
  exact ⟨rfl, hM.st⟩
instance (h : H32) : PurC Try.prog 147 [.agg (u8s h.1).toArray] True (.string (strOfNums h.1)) := ⟨fun _ w => rtext_ok h w⟩
end
end Go.Proofs.Ytopcnkejobomaaa
namespace Go.Proofs.Ytopcnkejobomaaa
end Go.Proofs.Ytopcnkejobomaaa
namespace Go.Proofs.Ytopcnkejobomaaa.Chg
open Go.RowKit
structure Prp where
  epoch : H32
  depth : Int
  author : Int
  seq : Int
  kind : Int
  name : Int
  pub : H32
  sign : H32
deriving DecidableEq
abbrev Prp.fds (p : Prp) : List Fd := [.arr 32 (u8s p.epoch.1), .one (.int .i64 p.depth), .one (.int .i64 p.author), .one (.int .i64 p.seq), .one (.int .i64 p.kind), .one (.int .i64 p.name), .arr 32 (u8s p.pub.1), .arr 32 (u8s p.sign.1)]
abbrev prv (p : Prp) : Value := .agg (fl p.fds).toArray
def Prp.right (p : Prp) : Prop := (0 ≤ p.depth ∧ p.depth ≤ 4611686018427387903) ∧ (1 ≤ p.author ∧ p.author ≤ 64) ∧ (1 ≤ p.name ∧ p.name ≤ 64) ∧ (1 ≤ p.seq ∧ p.seq ≤ 4611686018427387903) ∧ (if p.kind = 2 then p.name = p.author else (p.kind = 1 ∨ p.kind = 3) ∧ p.pub = hzero)
instance (p : Prp) : Decidable p.right := by unfold Prp.right; infer_instance
def rank (k : Int) : Int := if k = 2 then 0 else if k = 3 then 1 else if k = 1 then 2 else 3
def Prp.lt (p q : Prp) : Prop := rank p.kind < rank q.kind ∨ rank p.kind = rank q.kind ∧ p.name < q.name
instance (p q : Prp) : Decidable (p.lt q) := by unfold Prp.lt; infer_instance
section
variable {H : Hp} {w0 w : World} {L R : List Res} {g : Nat}
theorem rank_ok (k : Int) (w : World) : Calls Try.prog 118 #[.int .i64 k] w fun en w' => en = .returned (.int .i64 (rank k)) ∧ St w [] w' := by
  have hM := Mem.start (Fz.of w)
  refine C_change_rank ?_
  unfold F_change_rank rank
  ((with_reducible (refine mop_cS trivial ?_ ?_)))
  · intro h
    ((with_reducible (refine mif_true ?_)))
    exact ⟨by rw [if_pos h], hM.st⟩
  · intro h
    ((with_reducible (refine mif_false ?_)))
    ((with_reducible (refine mop_cS trivial ?_ ?_)))
    · intro h2
      ((with_reducible (refine mif_true ?_)))
      exact ⟨by rw [if_neg h, if_pos h2], hM.st⟩
    · intro h2
      ((with_reducible (refine mif_false ?_)))
      ((with_reducible (refine mop_cS trivial ?_ ?_)))
      · intro h3
        ((with_reducible (refine mif_true ?_)))
        exact ⟨by rw [if_neg h, if_neg h2, if_pos h3], hM.st⟩
      · intro h3
        ((with_reducible (refine mif_false ?_)))
        exact ⟨by rw [if_neg h, if_neg h2, if_neg h3], hM.st⟩
instance (k : Int) : PurC Try.prog 118 [.int .i64 k] True (.int .i64 (rank k)) := ⟨fun _ w => rank_ok k w⟩
theorem less_ok (p q : Prp) (w : World) : Calls Try.prog 78 #[prv p, prv q] w fun en w' => en = .returned (.bool (decide (p.lt q))) ∧ St w [] w' := by
  have hM := Mem.start (Fz.of w)
  refine C_change_Less ?_
  unfold F_change_Less
  ((with_reducible (refine mm_box hM ?_; clear hM; intro _ _ hM; refine mm_box hM ?_; clear hM; intro _ _ hM; refine dp_c trivial ?_; refine dp_c trivial ?_; refine dm_ld hM ?_; refine dm_purC hM ?_ (fun _ _ hM => ?_))); (focus (first | exact trivial | assumption | omega)); (with_reducible (refine dp_c trivial ?_; refine dp_c trivial ?_)); (with_reducible refine dm_ld ‹Mem _ _ _ _› ?_); (with_reducible (refine dm_purC hM ?_ (fun _ _ hM => ?_))); (focus (first | exact trivial | assumption | omega)); (with_reducible (refine mm_end hM ?_; clear hM; intro _ hM)))
  ((with_reducible (refine mop_cS trivial ?_ ?_)))
  · intro h
    ((with_reducible ((iterate 4 refine mguard_n1 ?_); (iterate 7 refine mguard_un ?_); refine mguard_n1 ?_; refine mop_c trivial ?_)))
    exact ⟨by rw [decide_eq_true (show p.lt q from .inl h)], hM.st⟩
  · intro h
    ((with_reducible (refine mguard_yes ?_; refine mop_c trivial ?_; refine mguard_yes ?_; refine mop_c trivial ?_; refine mguard_yes ?_)))
    ((with_reducible (refine mop_cS trivial ?_ ?_)))
    · intro h2
      ((with_reducible (refine mguard_yes ?_; refine mop_c trivial ?_; refine mguard_yes ?_; refine mop_c trivial ?_; refine mguard_yes ?_; refine mop_c trivial ?_; refine mguard_yes ?_; refine mm_ld hM ?_; refine mguard_yes ?_; refine mop_c trivial ?_; refine mguard_yes ?_; refine mop_c trivial ?_; refine mguard_yes ?_; refine mm_ld hM ?_; refine mguard_yes ?_)))
      ((with_reducible (refine mop_cS trivial ?_ ?_)))
      · intro h3
        ((with_reducible (refine mguard_yes ?_; refine mop_c trivial ?_; refine mop_c trivial ?_)))
        exact ⟨by rw [decide_eq_true (show p.lt q from .inr ⟨h2, h3⟩)], hM.st⟩
      · intro h3
        ((with_reducible (refine mguard_yes ?_; refine mop_c trivial ?_; refine mop_c trivial ?_)))
        exact ⟨by rw [decide_eq_false (show ¬ p.lt q by unfold Prp.lt; omega)], hM.st⟩
    · intro h2
      ((with_reducible (refine mguard_yes ?_; refine mop_c trivial ?_; (iterate 7 refine mguard_n2 ?_); refine mguard_yes ?_; refine mop_c trivial ?_; refine mop_c trivial ?_)))
      exact ⟨by rw [decide_eq_false (show ¬ p.lt q by unfold Prp.lt; omega)], hM.st⟩
instance (p q : Prp) : PurC Try.prog 78 [prv p, prv q] True (.bool (decide (p.lt q))) := ⟨fun _ w => less_ok p q w⟩
theorem named_ok (n : Int) (w : World) : Calls Try.prog 123 #[.int .i64 n] w fun en w' => en = .returned (.bool (decide (1 ≤ n ∧ n ≤ 64))) ∧ St w [] w' := by
  have hM := Mem.start (Fz.of w)
  refine C_change_named ?_
  unfold F_change_named
  ((with_reducible (refine mop_cS trivial ?_ ?_)))
  · intro h
    ((with_reducible (refine mguard_yes ?_; refine mop_c trivial ?_; refine mguard_yes ?_)))
    ((with_reducible (refine mop_cS trivial ?_ ?_))) <;>
    · intro h2
      ((with_reducible (refine mop_c trivial ?_)))
      exact ⟨by simp; omega, hM.st⟩
  · intro h
    ((with_reducible (refine mguard_n2 ?_; refine mguard_n2 ?_; refine mop_c trivial ?_)))
    exact ⟨by simp; omega, hM.st⟩
instance (n : Int) : PurC Try.prog 123 [.int .i64 n] True (.bool (decide (1 ≤ n ∧ n ≤ 64))) := ⟨fun _ w => named_ok n w⟩
def Prp.rt0 (p : Prp) : Prop := (0 ≤ p.depth ∧ p.depth ≤ 4611686018427387903) ∧ (1 ≤ p.author ∧ p.author ≤ 64) ∧ (1 ≤ p.name ∧ p.name ≤ 64) ∧ (1 ≤ p.seq ∧ p.seq ≤ 4611686018427387903)
theorem right_no (p : Prp) (h : ¬ p.rt0) : decide p.right = false := decide_eq_false (fun k => h ⟨k.1, k.2.1, k.2.2.1, k.2.2.2.1⟩)
theorem right_two (p : Prp) (h : p.rt0) (hk : p.kind = 2) : decide p.right = decide (p.name = p.author) := by
  rw [Bool.eq_iff_iff]
  simp only [decide_eq_true_eq]
  unfold Prp.right
  rw [if_pos hk]
  exact ⟨fun k => k.2.2.2.2, fun k => ⟨h.1, h.2.1, h.2.2.1, h.2.2.2, k⟩⟩
theorem right_one (p : Prp) (h : p.rt0) (h2 : p.kind ≠ 2) (hk : p.kind = 1 ∨ p.kind = 3) : decide p.right = decide (p.pub = hzero) := by
  rw [Bool.eq_iff_iff]
  simp only [decide_eq_true_eq]
  unfold Prp.right
  rw [if_neg h2]
  exact ⟨fun k => k.2.2.2.2.2, fun k => ⟨h.1, h.2.1, h.2.2.1, h.2.2.2, hk, k⟩⟩
theorem right_odd (p : Prp) (h2 : p.kind ≠ 2) (hk : ¬ (p.kind = 1 ∨ p.kind = 3)) : decide p.right = false := decide_eq_false (fun k => by
  have := k.2.2.2.2
  rw [if_neg h2] at this
  exact hk this.1)
theorem right_ok (p : Prp) (w : World) : Calls Try.prog 82 #[prv p] w fun en w' => en = .returned (.bool (decide p.right)) ∧ St w [] w' := by
  have hM := Mem.start (Fz.of w)
  refine C_change_Right ?_
  unfold F_change_Right
  ((with_reducible (refine mm_box hM ?_; clear hM; intro _ _ hM; refine mop_c trivial ?_; refine mm_ld hM ?_; refine mm_new hM ?_; clear hM; intro _ _ hM; refine mm_st hM ?_; clear hM; intro _ hM)))
  rename_i g1 _ g2 _
  refine ⟨fun x w' => ∃ b : Bool, x = .bool b ∧ (b = true → ¬ p.rt0) ∧ (b = false → p.rt0) ∧ hM.now w', ?_, ?_⟩
  · ((with_reducible (refine mop_c trivial ?_; refine mm_ld hM ?_)))
    ((with_reducible (refine mop_cS trivial ?_ ?_)))
    · intro h1
      ((with_reducible ((iterate 3 refine mguard_n1 ?_); refine mop_c trivial ?_; (iterate 4 refine mguard_n1 ?_); refine mop_c trivial ?_; (iterate 4 refine mguard_n1 ?_); refine mop_c trivial ?_; (iterate 3 refine mguard_n1 ?_); refine mop_c trivial ?_; (iterate 3 refine mguard_n1 ?_); refine mop_c trivial ?_)))
      exact ⟨_, rfl, fun _ k => by unfold Prp.rt0 at k; omega, by simp, hM⟩
    · intro h1
      ((with_reducible (refine mguard_yes ?_; refine mop_c trivial ?_; refine mguard_yes ?_; refine mm_ld hM ?_; refine mguard_yes ?_)))
      ((with_reducible (refine mop_cS trivial ?_ ?_)))
      · intro h2
        ((with_reducible (refine mop_c trivial ?_; (iterate 4 refine mguard_n1 ?_); refine mop_c trivial ?_; (iterate 4 refine mguard_n1 ?_); refine mop_c trivial ?_; (iterate 3 refine mguard_n1 ?_); refine mop_c trivial ?_; (iterate 3 refine mguard_n1 ?_); refine mop_c trivial ?_)))
        exact ⟨_, rfl, fun _ k => by unfold Prp.rt0 at k; omega, by simp, hM⟩
      · intro h2
        ((with_reducible (refine mop_c trivial ?_; refine mguard_yes ?_; refine mop_c trivial ?_; refine mguard_yes ?_; refine mm_ld hM ?_; refine mguard_yes ?_; refine mm_purC hM ?_ (fun _ hM2 => ?_))); (focus (first | exact trivial | assumption | omega)); (with_reducible (replace hM := hM2; clear hM2; refine mguard_yes ?_; refine mop_c trivial ?_; refine mop_c trivial ?_)))
        by_cases h3 : 1 ≤ p.author ∧ p.author ≤ 64
        · rw [decide_eq_true h3]
          simp only [Bool.not_true]
          ((with_reducible (refine mguard_yes ?_; refine mop_c trivial ?_; refine mguard_yes ?_; refine mm_ld hM ?_; refine mguard_yes ?_; refine mm_purC hM ?_ ?_)); (focus (first | exact trivial | assumption | omega)); (with_reducible (clear hM; intro _ hM; refine mguard_yes ?_; refine mop_c trivial ?_; refine mop_c trivial ?_)))
          by_cases h4 : 1 ≤ p.name ∧ p.name ≤ 64
          · rw [decide_eq_true h4]
            simp only [Bool.not_true]
            ((with_reducible (refine mguard_yes ?_; refine mop_c trivial ?_; refine mguard_yes ?_; refine mm_ld hM ?_; refine mguard_yes ?_)))
            ((with_reducible (refine mop_cS trivial ?_ ?_)))
            · intro h5
              ((with_reducible (refine mop_c trivial ?_; (iterate 3 refine mguard_n1 ?_); refine mop_c trivial ?_)))
              exact ⟨_, rfl, fun _ k => by unfold Prp.rt0 at k; omega, by simp, hM⟩
            · intro h5
              ((with_reducible (refine mop_c trivial ?_; refine mguard_yes ?_; refine mop_c trivial ?_; refine mguard_yes ?_; refine mm_ld hM ?_; refine mguard_yes ?_)))
              ((with_reducible (refine mop_cS trivial ?_ ?_)))
              · intro h6
                ((with_reducible (refine mop_c trivial ?_)))
                exact ⟨_, rfl, fun _ k => by unfold Prp.rt0 at k; omega, by simp, hM⟩
              · intro h6
                ((with_reducible (refine mop_c trivial ?_)))
                exact ⟨_, rfl, by simp, fun _ => by unfold Prp.rt0; omega, hM⟩
          · rw [decide_eq_false h4]
            simp only [Bool.not_false]
            ((with_reducible ((iterate 3 refine mguard_n1 ?_); refine mop_c trivial ?_; (iterate 3 refine mguard_n1 ?_); refine mop_c trivial ?_)))
            exact ⟨_, rfl, fun _ k => by unfold Prp.rt0 at k; omega, by simp, hM⟩
        · rw [decide_eq_false h3]
          simp only [Bool.not_false]
          ((with_reducible ((iterate 4 refine mguard_n1 ?_); refine mop_c trivial ?_; (iterate 3 refine mguard_n1 ?_); refine mop_c trivial ?_; (iterate 3 refine mguard_n1 ?_); refine mop_c trivial ?_)))
          exact ⟨_, rfl, fun _ k => by unfold Prp.rt0 at k; omega, by simp, hM⟩
  · rintro x u w5 ⟨b, rfl, hb1, hb2, hM⟩
    cases b with
    | true =>
      ((with_reducible (refine mif_true ?_)))
      exact ⟨by rw [right_no p (hb1 rfl)], hM.st⟩
    | false =>
      have h0 := hb2 rfl
      ((with_reducible (refine mif_false ?_; refine mop_c trivial ?_; refine mm_ld hM ?_)))
      ((with_reducible (refine mop_cS trivial ?_ ?_)))
      · intro h2
        rw [right_two p h0 h2]
        ((with_reducible (refine mif_true ?_; refine mop_c trivial ?_; refine mm_ld hM ?_; refine mop_c trivial ?_; refine mm_ld hM ?_)))
        try first | refine mop_c trivial ?_ | refine dp_c trivial ?_
        skip
        exact ⟨rfl, hM.st⟩
      · intro h2
        ((with_reducible (refine mif_false ?_)))
        refine ⟨fun x w' => x = .bool (decide (p.kind = 1 ∨ p.kind = 3)) ∧ hM.now w', ?_, ?_⟩
        · skip
          ((with_reducible (refine mop_cS trivial ?_ ?_)))
          · intro h3
            ((with_reducible (refine mif_true ?_)))
            exact ⟨by simp [h3]; try rfl, hM⟩
          · intro h3
            ((with_reducible (refine mif_false ?_)))
            exact ⟨by simp [h3]; try rfl, hM⟩
        · rintro x u w6 ⟨rfl, hM⟩
          by_cases h3 : p.kind = 1 ∨ p.kind = 3
          · rw [decide_eq_true h3, right_one p h0 h2 h3]
            ((with_reducible (refine mif_true ?_; refine mop_c trivial ?_; refine mm_ld hM ?_; refine mop_c trivial ?_)))
            try first | refine mop_c trivial ?_ | refine dp_c trivial ?_
            skip
            exact ⟨rfl, hM.st⟩
          · rw [decide_eq_false h3, right_odd p h2 h3]
            ((with_reducible (refine mif_false ?_)))
            exact ⟨rfl, hM.st⟩
instance (p : Prp) : PurC Try.prog 82 [prv p] True (.bool (decide p.right)) := ⟨fun _ w => right_ok p w⟩
end
end Go.Proofs.Ytopcnkejobomaaa.Chg
namespace Go.Proofs.Ytopcnkejobomaaa.Chg
open Go.RowKit
def shaH (l : List Int) : H32 := ⟨shaSum l, shaSum_length l, shaSum_range l⟩
def hmacH (k m : List Int) : H32 := ⟨hmac k m, hmac_length k m, hmac_range k m⟩
theorem ints_append (a b : ByteArray) : ints (a ++ b) = ints a ++ ints b := by
  obtain ⟨⟨a⟩⟩ := a
  obtain ⟨⟨b⟩⟩ := b
  simp [ints]
abbrev sver : ByteArray := ByteArray.mk #[118, 101, 114]
abbrev ssign : ByteArray := ByteArray.mk #[115, 105, 103, 110]
def verV (k : H32) : H32 := shaH (ints sver ++ k.1)
def signV (v : H32) (t : List Int) : H32 := hmacH v.1 (ints ssign ++ t)
theorem ints_h (h : H32) : ints (strOfNums h.1) = h.1 := ints_str _ h.2.2
section
variable {H : Hp} {w0 w : World} {L R : List Res} {g : Nat}
theorem cat2 (a b : ByteArray) : cat [a, b] = ints a ++ ints b := by simp [cat]
theorem sum2_ok {A : Option Addr} {e : Nat} (a b : ByteArray) (hs : a.size + b.size < 1000000000000) (hM : Mem H w0 L w) [k : AtA L A 2 2 e 1 [[.one (.string a)], [.one (.string b)]] R] :
    Calls Try.prog 53 #[.slice A 2 2] w fun en w' => en = .returned (.agg (u8s (shaH (ints a ++ ints b)).1).toArray) ∧ St w [] w' := by
  have h := sum_ok A [a, b] 2 w (hM.rd k) (by simp) (by rw [cat2, List.length_append, ints_length, ints_length]; omega)
  rw [cat2] at h
  exact h
theorem code2_ok {A : Option Addr} {e : Nat} (key : H32) (a b : ByteArray) (hs : a.size + b.size < 1000000000) (hM : Mem H w0 L w) [k : AtA L A 2 2 e 1 [[.one (.string a)], [.one (.string b)]] R] :
    Calls Try.prog 159 #[.string (strOfNums key.1), .slice A 2 2] w fun en w' => en = .returned (.agg (u8s (hmacH key.1 (ints a ++ ints b)).1).toArray) ∧ St w [] w' := by
  have h := code_ok (strOfNums key.1) A [a, b] 2 w (hM.rd k) (by rw [strOfNums_size, key.2.1]; omega) (by simp) (by rw [cat2, List.length_append, ints_length, ints_length]; omega)
  rw [cat2, ints_h] at h
  exact h
theorem pverify_ok (k : H32) (w : World) : Calls Try.prog 146 #[ha k] w fun en w' => en = .returned (.agg (u8s (verV k).1).toArray) ∧ St w [] w' := by
  have hM := Mem.start (Fz.of w)
  refine C_prim_Verify ?_
  unfold F_prim_Verify
  ((with_reducible (refine mm_box hM ?_; clear hM; intro _ _ hM; refine mm_new hM ?_; clear hM; intro _ _ hM; refine mop_c trivial ?_; refine mm_cvb hM ?_; refine mm_bsl hM ?_ ?_ ?_)); (focus rfl); (focus (constructor <;> simp)); (with_reducible (clear hM; intro _ _ hM)))
  refine mm_pure hM (sum2_ok sver (strOfNums k.1) (by rw [strOfNums_size, k.2.1]; decide) hM) (fun w2 hM => ?_)
  rw [ints_h]
  ((with_reducible (refine mm_st hM ?_; clear hM; intro _ hM; refine rm_ld hM ?_)))
  exact ⟨rfl, hM.st⟩
instance (k : H32) : PurC Try.prog 146 [.agg (u8s k.1).toArray] True (.agg (u8s (verV k).1).toArray) := ⟨fun _ w => pverify_ok k w⟩
theorem pcode_ok (v : H32) (s : ByteArray) (hs : s.size ≤ 1000000) (w : World) : Calls Try.prog 145 #[ha v, .string s] w fun en w' => en = .returned (.agg (u8s (signV v (ints s)).1).toArray) ∧ St w [] w' := by
  have hM := Mem.start (Fz.of w)
  refine C_prim_code ?_
  unfold F_prim_code
  ((with_reducible (refine mm_box hM ?_; clear hM; intro _ _ hM; refine mm_new hM ?_; clear hM; intro _ _ hM; refine mop_c trivial ?_; refine mm_cvb hM ?_; refine mm_bsl hM ?_ ?_ ?_)); (focus rfl); (focus (constructor <;> simp)); (with_reducible (clear hM; intro _ _ hM)))
  refine mm_pure hM (code2_ok v ssign s (by have : ssign.size = 4 := rfl; omega) hM) (fun w2 hM => ?_)
  ((with_reducible (refine mm_st hM ?_; clear hM; intro _ hM; refine rm_ld hM ?_)))
  exact ⟨rfl, hM.st⟩
instance (v : H32) (s : ByteArray) : PurC Try.prog 145 [.agg (u8s v.1).toArray, .string s] (s.size ≤ 1000000) (.agg (u8s (signV v (ints s)).1).toArray) := ⟨fun h w => pcode_ok v s h w⟩
theorem psign_ok (k : H32) (s : ByteArray) (hs : s.size ≤ 1000000) (w : World) : Calls Try.prog 121 #[ha k, .string s] w fun en w' => en = .returned (.agg (u8s (signV (verV k) (ints s)).1).toArray) ∧ St w [] w' := by
  have hM := Mem.start (Fz.of w)
  refine C_prim_Sign ?_
  unfold F_prim_Sign
  ((with_reducible (refine mm_box hM ?_; clear hM; intro _ _ hM; refine mm_new hM ?_; clear hM; intro _ _ hM; refine mm_ld hM ?_; refine mm_purC hM ?_ ?_)); (focus (first | exact trivial | assumption | omega)); (with_reducible (clear hM; intro _ hM; refine mm_purC hM ?_ ?_)); (focus (first | exact trivial | assumption | omega)); (with_reducible (clear hM; intro _ hM; refine mm_st hM ?_; clear hM; intro _ hM; refine rm_ld hM ?_)))
  exact ⟨rfl, hM.st⟩
instance (v : H32) (s : ByteArray) : PurC Try.prog 121 [.agg (u8s v.1).toArray, .string s] (s.size ≤ 1000000) (.agg (u8s (signV (verV v) (ints s)).1).toArray) := ⟨fun h w => psign_ok v s h w⟩
theorem pcheck_ok (v : H32) (s : ByteArray) (x : H32) (hs : s.size ≤ 1000000) (w : World) : Calls Try.prog 119 #[ha v, .string s, ha x] w fun en w' => en = .returned (.bool (decide (signV v (ints s) = x))) ∧ St w [] w' := by
  have hM := Mem.start (Fz.of w)
  refine C_prim_Check ?_
  unfold F_prim_Check
  ((with_reducible (refine mm_box hM ?_; clear hM; intro _ _ hM; refine mm_box hM ?_; clear hM; intro _ _ hM; refine dm_ld hM ?_; refine dm_purC hM ?_ (fun _ _ hM => ?_))); (focus (first | exact trivial | assumption | omega)); (with_reducible refine dm_ld ‹Mem _ _ _ _› ?_))
  try first | refine mop_c trivial ?_ | refine dp_c trivial ?_
  ((with_reducible (refine mm_end hM ?_; clear hM; intro _ hM)))
  exact ⟨rfl, hM.st⟩
instance (v : H32) (s : ByteArray) (x : H32) : PurC Try.prog 119 [.agg (u8s v.1).toArray, .string s, .agg (u8s x.1).toArray] (s.size ≤ 1000000) (.bool (decide (signV v (ints s) = x))) := ⟨fun h w => pcheck_ok v s x h w⟩
theorem rverify_ok (k : H32) (w : World) : Calls Try.prog 122 #[ha k] w fun en w' => en = .returned (.agg (u8s (verV k).1).toArray) ∧ St w [] w' := by
  have hM := Mem.start (Fz.of w)
  refine C_bevyref05_Verify ?_
  unfold F_bevyref05_Verify
  ((with_reducible (refine mm_box hM ?_; clear hM; intro _ _ hM; refine mm_new hM ?_; clear hM; intro _ _ hM; refine mm_ld hM ?_; refine mm_purC hM ?_ ?_)); (focus (first | exact trivial | assumption | omega)); (with_reducible (clear hM; intro _ hM)))
  refine mop_c (by rw [strOfNums_size, k.2.1]; decide) ?_
  have h := fun w => refsum_ok (sver ++ strOfNums k.1) w (by rw [ByteArray.size_append, strOfNums_size, k.2.1]; decide)
  rw [ints_append, ints_h] at h
  refine mm_pure hM (h _) (fun w2 hM => ?_)
  have e : hv (shaSum (ints sver ++ k.1)) = .agg (u8s (verV k).1).toArray := rfl
  rw [e]
  ((with_reducible (refine mm_st hM ?_; clear hM; intro _ hM; refine rm_ld hM ?_)))
  exact ⟨rfl, hM.st⟩
instance (k : H32) : PurC Try.prog 122 [.agg (u8s k.1).toArray] True (.agg (u8s (verV k).1).toArray) := ⟨fun _ w => rverify_ok k w⟩
def textL (p : Prp) : List Int := p.epoch.1 ++ numB p.depth ++ numB p.author ++ numB p.seq ++ numB p.kind ++ numB p.name ++ p.pub.1
def txt (p : Prp) : ByteArray := strOfNums (textL p)
theorem textL_length (p : Prp) : (textL p).length ≤ 104 := by
  have h1 := numB_length p.depth
  have h2 := numB_length p.author
  have h3 := numB_length p.seq
  have h4 := numB_length p.kind
  have h5 := numB_length p.name
  have h6 := p.epoch.2.1
  have h7 := p.pub.2.1
  simp only [textL, List.length_append]
  omega
theorem txt_size (p : Prp) : (txt p).size ≤ 1000000 := by have := textL_length p; rw [txt, strOfNums_size]; omega
theorem right_bd {p : Prp} (h : p.right) : (0 ≤ p.depth ∧ p.depth ≤ 4611686018427387903) ∧ (0 ≤ p.author ∧ p.author ≤ 4611686018427387903) ∧ (0 ≤ p.seq ∧ p.seq ≤ 4611686018427387903) ∧ (0 ≤ p.kind ∧ p.kind ≤ 4611686018427387903) ∧ (0 ≤ p.name ∧ p.name ≤ 4611686018427387903) := by
  obtain ⟨h1, h2, h3, h4, h5⟩ := h
  have hk : p.kind = 2 ∨ p.kind = 1 ∨ p.kind = 3 := by
    by_cases hk : p.kind = 2
    · exact .inl hk
    · rw [if_neg hk] at h5
      exact .inr h5.1
  refine ⟨h1, ?_, ?_, ?_, ?_⟩ <;> omega
theorem text_ok (p : Prp) (h : p.right) (w : World) : Calls Try.prog 120 #[prv p] w fun en w' => en = .returned (.string (txt p)) ∧ St w [] w' := by
  obtain ⟨b1, b2, b3, b4, b5⟩ := right_bd h
  have l1 := numB_length p.depth
  have l2 := numB_length p.author
  have l3 := numB_length p.seq
  have l4 := numB_length p.kind
  have l5 := numB_length p.name
  have l6 := p.epoch.2.1
  have hM := Mem.start (Fz.of w)
  refine C_change_text ?_
  unfold F_change_text
  ((with_reducible (refine mm_box hM ?_; clear hM; intro _ _ hM)))
  rename_i b _
  refine mm_own (wnew_ok hM) ?_
  rintro v w1 ⟨g, rfl, hM⟩
  ((with_reducible (refine mop_c trivial ?_; refine mm_ld hM ?_)))
  refine mm_own (whash_ok p.epoch (by simp) (hM.at_ (wrR g [] false))) ?_
  rintro v w2 ⟨rfl, hM⟩
  rw [List.nil_append] at hM
  ((with_reducible (refine mop_c trivial ?_; refine mm_ld hM ?_; refine mop_c trivial ?_; refine mm_ld hM ?_; refine mop_c trivial ?_; refine mm_ld hM ?_; refine mop_c trivial ?_; refine mop_c trivial ?_; refine mm_ld hM ?_; refine mop_c trivial ?_; refine mop_c trivial ?_; refine mm_ld hM ?_; refine mop_c trivial ?_)))
  refine ⟨fun x w' => ∃ i : Nat, x = .int .i64 i ∧ i ≤ 5 ∧ (match i with
    | 0 => Mem (Hp.of w) w [wrR g p.epoch.1 false, fb b 85 p.fds] w'
    | 1 => Mem (Hp.of w) w [wrR g (p.epoch.1 ++ numB p.depth) false, fb b 85 p.fds] w'
    | 2 => Mem (Hp.of w) w [wrR g (p.epoch.1 ++ numB p.depth ++ numB p.author) false, fb b 85 p.fds] w'
    | 3 => Mem (Hp.of w) w [wrR g (p.epoch.1 ++ numB p.depth ++ numB p.author ++ numB p.seq) false, fb b 85 p.fds] w'
    | 4 => Mem (Hp.of w) w [wrR g (p.epoch.1 ++ numB p.depth ++ numB p.author ++ numB p.seq ++ numB p.kind) false, fb b 85 p.fds] w'
    | _ => Mem (Hp.of w) w [wrR g (p.epoch.1 ++ numB p.depth ++ numB p.author ++ numB p.seq ++ numB p.kind ++ numB p.name) false, fb b 85 p.fds] w'),
    fun x _ => match x with | .int _ i => 5 - i.toNat | _ => 0, ⟨0, rfl, by omega, hM⟩, ?_⟩
  clear hM
  rintro x u w3 ⟨i, rfl, hi, hM⟩
  ((with_reducible (refine mop_cS trivial ?_ ?_)))
  · intro hlt
    obtain rfl | rfl | rfl | rfl | rfl : i = 0 ∨ i = 1 ∨ i = 2 ∨ i = 3 ∨ i = 4 := by omega
    · have hM : Mem (Hp.of w) w _ w3 := hM
      ((with_reducible (refine mif_true ?_)))
      refine mop_pur (v := .int .i64 p.depth) (fun w => by kernel_rfl) ?_
      refine mm_own (wnum_ok p.depth b1 (by first | omega | (simp only [List.length_append]; omega)) hM) ?_
      rintro v w4 ⟨rfl, hM⟩
      ((with_reducible (refine mop_c ?_ ?_)); (focus omega))
      exact ⟨⟨1, rfl, by omega, hM⟩, by first | decide | (dsimp only; omega) | (simp; done)⟩
    · have hM : Mem (Hp.of w) w _ w3 := hM
      ((with_reducible (refine mif_true ?_)))
      refine mop_pur (v := .int .i64 p.author) (fun w => by kernel_rfl) ?_
      refine mm_own (wnum_ok p.author b2 (by first | omega | (simp only [List.length_append]; omega)) hM) ?_
      rintro v w4 ⟨rfl, hM⟩
      ((with_reducible (refine mop_c ?_ ?_)); (focus omega))
      exact ⟨⟨2, rfl, by omega, hM⟩, by first | decide | (dsimp only; omega) | (simp; done)⟩
    · have hM : Mem (Hp.of w) w _ w3 := hM
      ((with_reducible (refine mif_true ?_)))
      refine mop_pur (v := .int .i64 p.seq) (fun w => by kernel_rfl) ?_
      refine mm_own (wnum_ok p.seq b3 (by first | omega | (simp only [List.length_append]; omega)) hM) ?_
      rintro v w4 ⟨rfl, hM⟩
      ((with_reducible (refine mop_c ?_ ?_)); (focus omega))
      exact ⟨⟨3, rfl, by omega, hM⟩, by first | decide | (dsimp only; omega) | (simp; done)⟩
    · have hM : Mem (Hp.of w) w _ w3 := hM
      ((with_reducible (refine mif_true ?_)))
      refine mop_pur (v := .int .i64 p.kind) (fun w => by kernel_rfl) ?_
      refine mm_own (wnum_ok p.kind b4 (by first | omega | (simp only [List.length_append]; omega)) hM) ?_
      rintro v w4 ⟨rfl, hM⟩
      ((with_reducible (refine mop_c ?_ ?_)); (focus omega))
      exact ⟨⟨4, rfl, by omega, hM⟩, by first | decide | (dsimp only; omega) | (simp; done)⟩
    · have hM : Mem (Hp.of w) w _ w3 := hM
      ((with_reducible (refine mif_true ?_)))
      refine mop_pur (v := .int .i64 p.name) (fun w => by kernel_rfl) ?_
      refine mm_own (wnum_ok p.name b5 (by first | omega | (simp only [List.length_append]; omega)) hM) ?_
      rintro v w4 ⟨rfl, hM⟩
      ((with_reducible (refine mop_c ?_ ?_)); (focus omega))
      exact ⟨⟨5, rfl, by omega, hM⟩, by first | decide | (dsimp only; omega) | (simp; done)⟩
  · intro hge
    obtain rfl : i = 5 := by omega
    have hM : Mem (Hp.of w) w [wrR g (p.epoch.1 ++ numB p.depth ++ numB p.author ++ numB p.seq ++ numB p.kind ++ numB p.name) false, fb b 85 p.fds] w3 := hM
    ((with_reducible (refine mif_false ?_; refine mop_c trivial ?_; refine mop_c trivial ?_; refine mm_ld hM ?_)))
    refine mm_own (whash_ok p.pub (by first | omega | (simp only [List.length_append]; omega)) hM) ?_
    rintro v w4 ⟨rfl, hM⟩
    refine mm_pure hM (wend_ok hM) (fun w5 hM => ?_)
    ((with_reducible (refine mop_c trivial ?_; refine mop_c trivial ?_)))
    exact ⟨rfl, hM.st⟩
instance (p : Prp) : PurC Try.prog 120 [prv p] p.right (.string (txt p)) := ⟨fun h w => text_ok p h w⟩
abbrev Prp.signed (p : Prp) (v : H32) : Prp := { p with sign := signV v (ints (txt p)) }
def signP (p : Prp) (k : H32) : Prp := if p.right then p.signed (verV k) else p
theorem csign_ok (p : Prp) (k : H32) (w : World) : Calls Try.prog 80 #[prv p, ha k] w fun en w' => en = .returned (prv (signP p k)) ∧ St w [] w' := by
  have hM := Mem.start (Fz.of w)
  refine C_change_Sign ?_
  unfold F_change_Sign
  have hs := txt_size p
  ((with_reducible (refine mm_box hM ?_; clear hM; intro _ _ hM; refine mm_box hM ?_; clear hM; intro _ _ hM; refine mm_new hM ?_; clear hM; intro _ _ hM)))
  rename_i b _ b2 _ b3 _
  refine ⟨fun w' => Mem (Hp.of w) w [fb b 85 (signP p k).fds, fb b3 85 [.arr 32 (u8s hzero.1), .one (.int .i64 0), .one (.int .i64 0), .one (.int .i64 0), .one (.int .i64 0), .one (.int .i64 0), .arr 32 (u8s hzero.1), .arr 32 (u8s hzero.1)]] w', ?_, ?_⟩
  · unfold signP
    by_cases h : p.right
    · ((with_reducible (refine mm_ld hM ?_; refine mm_purC hM ?_ ?_)); (focus (first | exact trivial | assumption | omega)); (with_reducible (clear hM; intro _ hM)))
      rw [decide_eq_true h, if_pos h]
      ((with_reducible (refine mif_true ?_; refine dm_ld hM ?_; refine dm_ld hM ?_; refine dm_purC hM ?_ (fun _ _ hM => ?_))); (focus (first | exact trivial | assumption | omega)); (with_reducible (refine dm_purC hM ?_ (fun _ _ hM => ?_))); (focus (first | exact trivial | assumption | omega)); (with_reducible (refine dp_c trivial ?_; refine dS_st hM ?_; clear hM; intro _ hM; refine mm_end hM ?_; clear hM; intro _ hM)))
      exact hM.sub
    · ((with_reducible (refine mm_ld hM ?_; refine mm_purC hM ?_ ?_)); (focus (first | exact trivial | assumption | omega)); (with_reducible (clear hM; intro _ hM)))
      rw [decide_eq_false h, if_neg h]
      ((with_reducible (refine mif_false ?_)))
      exact hM.sub
  · rintro u w2 hM
    ((with_reducible (refine mm_ld hM ?_; refine mm_st hM ?_; clear hM; intro _ hM; refine rm_ld hM ?_)))
    exact ⟨rfl, hM.st⟩
def Prp.checks (p : Prp) (v : H32) : Prop := p.right ∧ signV v (ints (txt p)) = p.sign
instance (p : Prp) (v : H32) : Decidable (p.checks v) := by unfold Prp.checks; infer_instance
theorem ccheck_ok (p : Prp) (v : H32) (w : World) : Calls Try.prog 79 #[prv p, ha v] w fun en w' => en = .returned (.bool (decide (p.checks v))) ∧ St w [] w' := by
  have hM := Mem.start (Fz.of w)
  refine C_change_Check ?_
  unfold F_change_Check
  have hs := txt_size p
  ((with_reducible (refine mm_box hM ?_; clear hM; intro _ _ hM; refine mm_box hM ?_; clear hM; intro _ _ hM; refine dm_ld hM ?_; refine dm_purC hM ?_ (fun _ _ hM => ?_))); (focus (first | exact trivial | assumption | omega)))
  by_cases h : p.right
  · rw [decide_eq_true h]
    ((with_reducible (refine qguard_yes ?_; refine dm_ld hM ?_; refine qguard_yes ?_; refine dm_ld hM ?_; refine mguard_yes ?_; refine dm_purC hM ?_ (fun _ _ hM => ?_))); (focus (first | exact trivial | assumption | omega)); (with_reducible (refine qguard_yes ?_; refine dp_c trivial ?_; refine qguard_yes ?_)); (with_reducible refine dm_ld ‹Mem _ _ _ _› ?_); (with_reducible (refine mguard_yes ?_; refine dm_purC hM ?_ (fun _ _ hM => ?_))); (focus (first | exact trivial | assumption | omega)); (with_reducible (refine dp_c trivial ?_; refine mm_end hM ?_; clear hM; intro _ hM)))
    try first | refine mop_c trivial ?_ | refine dp_c trivial ?_
    skip
    exact ⟨by simp [Prp.checks, h], hM.st⟩
  · rw [decide_eq_false h]
    ((with_reducible (refine qguard_n2 ?_; refine qguard_n2 ?_; refine mguard_n2 ?_; refine qguard_n2 ?_; refine qguard_n2 ?_; refine mguard_n2 ?_; refine dp_c trivial ?_; refine mm_end hM ?_; clear hM; intro _ hM)))
    exact ⟨by simp [Prp.checks, h], hM.st⟩
instance (p : Prp) (k : H32) : PurC Try.prog 79 [prv p, .agg (u8s k.1).toArray] True (.bool (decide (p.checks k))) := ⟨fun _ w => ccheck_ok p k w⟩
end
end Go.Proofs.Ytopcnkejobomaaa.Chg
namespace Go.Proofs.Ytopcnkejobomaaa.Chg
open Go.RowKit
abbrev pA : Prp := ⟨hzero, 0, 3, 1, 2, 3, hzero, hzero⟩
abbrev pB : Prp := ⟨hzero, 0, 3, 2, 3, 2, hzero, hzero⟩
abbrev p0 : Prp := ⟨hzero, 0, 0, 0, 0, 0, hzero, hzero⟩
theorem checks_signed (p : Prp) (k : H32) (h : p.right) : (p.signed (verV k)).checks (verV k) := ⟨h, rfl⟩
section
variable {H : Hp} {w0 w : World} {L R : List Res} {g : Nat}
theorem lverify_ok (k : H32) (w : World) : Calls Try.prog 81 #[ha k] w fun en w' => en = .returned (.agg (u8s (verV k).1).toArray) ∧ St w [] w' := by
  have hM := Mem.start (Fz.of w)
  refine C_bevylaw10_verify ?_
  unfold F_bevylaw10_verify
  ((with_reducible (refine mm_box hM ?_; clear hM; intro _ _ hM; refine mm_new hM ?_; clear hM; intro _ _ hM; refine mm_ld hM ?_; refine mm_purC hM ?_ ?_)); (focus (first | exact trivial | assumption | omega)); (with_reducible (clear hM; intro _ hM; refine mm_st hM ?_; clear hM; intro _ hM; refine rm_ld hM ?_)))
  exact ⟨rfl, hM.st⟩
instance (k : H32) : PurC Try.prog 81 [.agg (u8s k.1).toArray] True (.agg (u8s (verV k).1).toArray) := ⟨fun _ w => lverify_ok k w⟩
theorem awake_ok (w : World) : Calls Try.prog 41 #[] w fun en w' => en = .returned (.bool true) ∧ St w [] w' := by
  have hM := Mem.start (Fz.of w)
  refine C_bevylaw10_awake ?_
  unfold F_bevylaw10_awake
  ((with_reducible (refine mop_c trivial ?_; refine mop_c trivial ?_; refine mm_new hM ?_; clear hM; intro _ _ hM; refine mm_st hM ?_; clear hM; intro _ hM; refine mop_c trivial ?_; refine mop_c trivial ?_; refine mm_new hM ?_; clear hM; intro _ _ hM; refine mm_st hM ?_; clear hM; intro _ hM; refine mop_c ?_ ?_)); (focus (simp only [and_true]; omega)); (with_reducible (refine mm_new hM ?_; clear hM; intro _ _ hM; refine mm_st hM ?_; clear hM; intro _ hM; refine dm_ld hM ?_; refine dm_ld hM ?_)))
  refine dm_pure hM (fun w _ => less_ok pA pB w) (fun w2 _ hM => ?_)
  rw [decide_eq_true (show pA.lt pB by decide)]
  ((with_reducible (refine qguard_yes ?_; refine dm_ld hM ?_; refine qguard_yes ?_; refine dm_ld hM ?_; refine mguard_yes ?_)))
  refine dm_pure hM (fun w _ => less_ok pB pA w) (fun w2 _ hM => ?_)
  rw [decide_eq_false (show ¬ pB.lt pA by decide)]
  ((with_reducible (refine qguard_yes ?_; refine dp_c trivial ?_; refine dp_c trivial ?_; refine qguard_yes ?_; refine dm_ld hM ?_; refine qguard_yes ?_; refine dm_ld hM ?_; refine mguard_yes ?_)))
  refine dm_pure hM (fun w _ => csign_ok pA (hset hzero 0 1) w) (fun w2 _ hM => ?_)
  have hA : pA.right := by decide
  unfold signP
  rw [if_pos hA]
  ((with_reducible (refine qguard_yes ?_)); (with_reducible refine dm_ld ‹Mem _ _ _ _› ?_); (with_reducible (refine mguard_yes ?_; refine dm_purC hM ?_ (fun _ _ hM => ?_))); (focus (first | exact trivial | assumption | omega)); (with_reducible (refine mguard_yes ?_)))
  refine dm_pure hM (fun w _ => ccheck_ok (pA.signed (verV (hset hzero 0 1))) (verV (hset hzero 0 1)) w) (fun w2 _ hM => ?_)
  rw [decide_eq_true (checks_signed pA (hset hzero 0 1) hA)]
  ((with_reducible (refine dp_c trivial ?_; refine qguard_yes ?_; refine dm_ld hM ?_; refine mguard_yes ?_)))
  refine dm_pure hM (fun w _ => right_ok pB w) (fun w2 _ hM => ?_)
  rw [decide_eq_true (show pB.right by decide)]
  ((with_reducible (refine dp_c trivial ?_; refine qguard_yes ?_; refine dp_c trivial ?_; refine mguard_yes ?_)))
  refine dm_pure hM (fun w _ => right_ok p0 w) (fun w2 _ hM => ?_)
  rw [decide_eq_false (show ¬ p0.right by decide)]
  ((with_reducible (refine qguard_yes ?_; refine dp_c trivial ?_; refine dp_c trivial ?_; refine mm_end hM ?_; clear hM; intro _ hM)))
  exact ⟨rfl, hM.st⟩
instance : PurC Try.prog 41 [] True (.bool true) := ⟨fun _ w => awake_ok w⟩
end
end Go.Proofs.Ytopcnkejobomaaa.Chg
namespace Go.Proofs.Ytopcnkejobomaaa
open Go.RowKit Go.Lib
abbrev crd (c : H32 × H32) : List Fd := [.arr 32 (u8s c.1.1), .arr 32 (u8s c.2.1)]
structure Pers where
  ver : H32
  cards : List (H32 × H32)
abbrev Pers.row (p : Pers) (C : Option Addr) (c : Nat) : List Fd := [.arr 32 (u8s p.ver.1), .one (.slice C p.cards.length c)]
def PsF (H : Hp) (q : List Fd) (p : Pers) : Prop := ∃ C c, q = p.row C c ∧ Sl H 64 C (p.cards.map crd) ∧ p.cards.length ≤ maxLen
abbrev tis (l : List Int) : List Value := l.map (Value.int .i64)
def persAt (roll : List Pers) (nm : Int) : Pers := roll.getD (nm - 1).toNat ⟨hzero, []⟩
abbrev Ti := {l : List Int // l.length = 64}
def Ti.zero : Ti := ⟨List.replicate 64 0, rfl⟩
def Ti.set (t : Ti) (i : Nat) (x : Int) : Ti := ⟨t.1.set i x, by rw [List.length_set]; exact t.2⟩
instance (t : Ti) : FdOk (.arr 64 (tis t.1)) := ⟨by simp [Fd.cells, Fd.size, t.2], fun u hu => by
  obtain ⟨x, _, rfl⟩ := List.mem_map.1 hu
  rfl⟩
def timeAt (ti : Ti) (nm : Int) : Int := ti.1.getD (nm - 1).toNat 0
def cardR (ti : Ti) (roll : List Pers) (nm : Int) : (H32 × H32) × Int :=
  if ¬ (1 ≤ nm ∧ nm ≤ 64) ∨ (roll.length : Int) < nm then ((hzero, hzero), 7)
  else if timeAt ti nm < 0 ∨ ((persAt roll nm).cards.length : Int) ≤ timeAt ti nm then ((hzero, hzero), 10)
  else ((persAt roll nm).cards.getD (timeAt ti nm).toNat (hzero, hzero), 0)
def leafR (ti : Ti) (roll : List Pers) (nm : Int) : Lf := if (cardR ti roll nm).2 = 0 then ⟨nm, (cardR ti roll nm).1.2, (persAt roll nm).ver, hzero⟩ else Lf.zero
structure Ap where
  t : Tr
  ti : Ti
  fr : List Int
def Ap.step (roll : List Pers) (s : Ap) (p : Chg.Prp) : Ap × Int :=
  if p.kind = 2 then (⟨(s.t.renR (s.t.place p.name) p.pub).1, s.ti, s.fr⟩, (s.t.renR (s.t.place p.name) p.pub).2)
  else if p.kind = 3 then (⟨(s.t.remR (s.t.place p.name)).1, s.ti, s.fr⟩, (s.t.remR (s.t.place p.name)).2)
  else if p.kind = 1 then
    if (cardR s.ti roll p.name).2 ≠ 0 then (s, (cardR s.ti roll p.name).2)
    else
      let r := s.t.addR ⟨p.name, (cardR s.ti roll p.name).1.2, (persAt roll p.name).ver, hzero⟩
      if r.2.2 ≠ 0 then (⟨r.1, s.ti, s.fr⟩, r.2.2) else (⟨r.1, s.ti.set (p.name - 1).toNat (timeAt s.ti p.name + 1), s.fr ++ [r.2.1]⟩, 0)
  else (s, 7)
def Ap.none : Ap := ⟨Tr.none, Ti.zero, []⟩
def Ap.run (roll : List Pers) : Ap → List Chg.Prp → Ap × Int
  | s, [] => (s, 0)
  | s, p :: r => if (s.step roll p).2 ≠ 0 then (Ap.none, (s.step roll p).2) else (s.step roll p).1.run roll r
end Go.Proofs.Ytopcnkejobomaaa
namespace Go.Proofs.Ytopcnkejobomaaa
open Go.RowKit
section
variable {P : Program} {H K : Hp} {w0 w w' : World} {L R : List Res} {t : TypeId} {fs : List Fd} {Kt : Value → World → Prop} {X : List PanicEntry → World → Prop}
theorem dK_new {e : Bool} (h : Mem H w0 L w) [z : ZerF P t fs] (hF : Fz K w) (hk : ∀ g w', K g = none → Mem H w0 (fb g t fs :: L) w' → Fz K w' → Kt (.pointer (some ⟨g, 0, none⟩)) w') : dfS P (Rl.fz K) w (o_alloc t) e Kt := by
  obtain ⟨hz, hf⟩ := z.ok
  refine ⟨fun w1 hd => ?_⟩
  have hx := hd.ext.trans ((Only.refl (fun _ => False) w1).alloc (.cells (fl fs).toArray t))
  have hn : K w1.heap.size = none := by
    cases hh : K w1.heap.size with
    | none => rfl
    | some c => exact absurd ((hF.ext hd.ext).lt hh) (Nat.lt_irrefl _)
  refine mop_run ?_ ⟨fun _ _ => hF.ext hx, hk _ _ hn ((h.drawn hd).alloc t hf) (hF.ext hx)⟩
  unfold zer at hz
  cases hi : P.info? t with
  | none => simp [hi] at hz
  | some i =>
    cases hzz : i.zero with
    | none => simp [hi, hzz] at hz
    | some z =>
      simp [hi, hzz] at hz
      simp [o_alloc, sv, Instr.alloc, zeroValue, typeInfo, hi, hzz, newVar, newRow, go_sem, ← hz]
theorem dK_st {tt : TypeId} {q e : Bool} {n i k : Nat} {v : Value} {gs fs' : List Fd} {put : Res → List Res} (h : Mem H w0 L w) [c : ShpC P t q n] [a : AtB L k tt fs put] [f : Vf v n gs] [p : Put fs i gs fs'] (hF : Fz K w) (hn : K k = none) (hk : ∀ w', Mem H w0 (put (fb k tt fs')) w' → Fz K w' → Kt undef w') :
    dfS P (Rl.fz K) w (o_store t (.pointer (some ⟨k, i, none⟩)) v) e Kt := ⟨fun w1 hd => by
  refine mop_mono ((dS_stX (K := fun u w2 => u = undef ∧ Mem H w0 (put (fb k tt fs')) w2) h fun w2 h2 => ⟨rfl, h2⟩).out w1 hd) ?_ (fun _ _ h => h)
  rintro u w2 ⟨h1, rfl, h2⟩
  have ho := h1 rfl
  have hz : Fz K w2 := hF.same fun b c hb => ho.block _ (hF.lt hb) (by
    rintro rfl
    rw [hn] at hb
    cases hb)
  exact ⟨fun _ _ => hz, hk w2 h2 hz⟩⟩
theorem dK_lda {g o j n : Nat} {ls : List Value} {v : Value} {putA : List Value → List Fd} {Kq : Value → Prop} (hF : Fz K w) (h : FbF K g fs) [cc : ShpC P t false 1] [s : SubA fs o n ls putA] (hv : ls[j]? = some v) (hk : Kq v) : dqS P (Rl.fz K) w (o_load t (.pointer (some ⟨g, o + j, none⟩))) Kq :=
  ⟨v, fun w' hw => by
    obtain ⟨c', h1, h2⟩ := h.at_
    have := pw_load1 (P := P) (w := w') (a := ⟨g, o + j, none⟩) (v := v) cc.ok (by rw [(hw hF).cell h1]; exact h2 _ _ (s.cell h.ok hv))
    unfold opq
    rw [this]
    exact ⟨rfl, Drawn.refl w'⟩, hk⟩
end
end Go.Proofs.Ytopcnkejobomaaa
namespace Go.Proofs.Ytopcnkejobomaaa
open Go.RowKit Go.Lib
theorem persAt_get {roll : List Pers} {nm : Int} (h : 1 ≤ nm ∧ nm ≤ roll.length) : persAt roll nm = roll[(nm - 1).toNat]'(by omega) := by
  unfold persAt
  rw [List.getD_eq_getElem?_getD, List.getElem?_eq_getElem (by omega)]
  rfl
theorem tis_at {ti : Ti} {nm : Int} (h : 1 ≤ nm ∧ nm ≤ 64) : (tis ti.1)[(nm - 1).toNat]? = some (.int .i64 (timeAt ti nm)) := by
  have hl : (nm - 1).toNat < ti.1.length := by rw [ti.2]; omega
  unfold timeAt
  rw [List.getElem?_map, List.getElem?_eq_getElem hl, List.getD_eq_getElem?_getD, List.getElem?_eq_getElem hl]
  rfl
section
variable {H : Hp} {w0 w : World} {L R : List Res} {A K : Option Addr} {a : Nat} {qs : List (List Fd)}
theorem card_ok (ti : Ti) (roll : List Pers) (nm : Int) (h1 : Sl H 33 A qs) (h2 : All2 (PsF H) qs roll) (hl : roll.length ≤ maxLen) (hf : Fz H w) :
    Calls Try.prog 86 #[.agg (tis ti.1).toArray, .slice A roll.length a, .int .i64 nm] w fun en w' => en = .returned (.tuple #[lv (leafR ti roll nm), .int .i64 (cardR ti roll nm).2]) ∧ St w [] w' := by
  have hM := Mem.start hf
  have hl' : roll.length ≤ 9223372036854775807 := hl
  have hq : qs.length = roll.length := h2.len
  refine C_change_card ?_
  unfold F_change_card
  ((with_reducible (refine mm_box hM ?_; clear hM; intro _ _ hM; refine mm_new hM ?_; clear hM; intro _ _ hM)))
  rename_i gx _ g6 _
  refine ⟨fun v w' => v = .bool (decide (¬ (1 ≤ nm ∧ nm ≤ 64) ∨ (roll.length : Int) < nm)) ∧ hM.now w', ?_, ?_⟩
  · ((with_reducible (refine mm_purC hM ?_ (fun _ hM2 => ?_))); (focus (first | exact trivial | assumption | omega)); (with_reducible (replace hM := hM2; clear hM2; refine mop_c trivial ?_)))
    by_cases c : 1 ≤ nm ∧ nm ≤ 64
    · rw [decide_eq_true c, Bool.not_true]
      ((with_reducible (refine mguard_yes ?_; refine mop_c trivial ?_; refine mguard_yes ?_; refine mop_c trivial ?_; refine mguard_yes ?_; refine mop_c trivial ?_; refine mguard_yes ?_)))
      refine ⟨?_, hM⟩
      rw [if_neg (by simp), Value.bool.injEq, decide_eq_decide]
      omega
    · rw [decide_eq_false c, Bool.not_false]
      ((with_reducible ((iterate 4 refine mguard_n1 ?_); refine mop_c trivial ?_)))
      exact ⟨by rw [decide_eq_true (.inl c)], hM⟩
  rintro v u w2 ⟨rfl, hM⟩
  by_cases c : ¬ (1 ≤ nm ∧ nm ≤ 64) ∨ (roll.length : Int) < nm
  · have e : cardR ti roll nm = ((hzero, hzero), 7) := if_pos c
    have e2 : leafR ti roll nm = Lf.zero := by
      unfold leafR
      rw [e]
      rfl
    rw [decide_eq_true c, e, e2]
    ((with_reducible (refine mif_true ?_; refine mop_c trivial ?_; refine mm_st hM ?_; clear hM; intro _ hM; refine rm_ld hM ?_)))
    exact ⟨rfl, hM.st⟩
  rw [decide_eq_false c]
  have hnm : 1 ≤ nm ∧ nm ≤ 64 := by omega
  have hnr : nm ≤ roll.length := by omega
  have hix : (nm - 1).toNat < roll.length := by omega
  obtain ⟨q, hq1, C, cc, rfl, hC, hcl⟩ := h2.at_ (i := (nm - 1).toNat) hix
  have hpa : persAt roll nm = roll[(nm - 1).toNat] := persAt_get ⟨hnm.1, hnr⟩
  rw [← hpa] at hq1 hC hcl
  have hta := tis_at (ti := ti) hnm
  ((with_reducible (refine mif_false ?_)))
  refine ⟨Rl.fz (Hp.of w2), ?_⟩
  have hF := Fz.of w2
  have l2 : H.le (Hp.of w2) := le_of hM.fz
  have hB := hM.readsB (g := gx)
  ((with_reducible (refine dp_c ?_ ?_)); (focus omega))
  refine dp_ixs h1 (by omega) hq.symm (fun bb oo hB => ?_)
  cases hB
  refine dK_lds0 hF (h1.mono l2) hq1 ?_
  ((with_reducible (refine dp_c ?_ ?_)); (focus omega); (with_reducible (refine dp_c ?_ ?_)); (focus omega))
  refine dK_lda hF hB hta ?_
  refine dK_new hM hF ?_
  clear hM
  intro g8 w3 hn hM hF
  refine dK_st hM hF hn ?_
  clear hM
  intro w4 hM hF
  ((with_reducible (refine mm_end hM ?_; clear hM; intro _ hM)))
  refine ⟨fun v w' => v = .bool (decide (timeAt ti nm < 0 ∨ ((persAt roll nm).cards.length : Int) ≤ timeAt ti nm)) ∧ hM.now w', ?_, ?_⟩
  · skip
    ((with_reducible (refine mop_cS trivial ?_ ?_)))
    · intro c1
      ((with_reducible ((iterate 5 refine mguard_n1 ?_); refine mop_c trivial ?_)))
      exact ⟨by rw [decide_eq_true (.inl c1)], hM⟩
    · intro c1
      ((with_reducible (refine mguard_yes ?_; refine mop_c trivial ?_; refine mguard_yes ?_; refine mop_c trivial ?_; refine mguard_yes ?_; refine mm_ld hM ?_; refine mguard_yes ?_; refine mop_c trivial ?_; refine mguard_yes ?_)))
      refine ⟨?_, hM⟩
      rw [if_neg (by simp), Value.bool.injEq, decide_eq_decide]
      omega
  rintro v u w5 ⟨rfl, hM⟩
  by_cases c2 : timeAt ti nm < 0 ∨ ((persAt roll nm).cards.length : Int) ≤ timeAt ti nm
  · have e : cardR ti roll nm = ((hzero, hzero), 10) := by
      unfold cardR
      rw [if_neg c, if_pos c2]
    have e2 : leafR ti roll nm = Lf.zero := by
      unfold leafR
      rw [e]
      rfl
    rw [decide_eq_true c2, e, e2]
    ((with_reducible (refine mif_true ?_; refine mop_c trivial ?_; refine mm_st hM ?_; clear hM; intro _ hM; refine rm_ld hM ?_)))
    exact ⟨rfl, hM.st⟩
  rw [decide_eq_false c2]
  have hci : (timeAt ti nm).toNat < (persAt roll nm).cards.length := by omega
  have e : cardR ti roll nm = ((persAt roll nm).cards[(timeAt ti nm).toNat], 0) := by
    unfold cardR
    rw [if_neg c, if_neg c2, List.getD_eq_getElem?_getD, List.getElem?_eq_getElem hci]
    rfl
  have e2 : leafR ti roll nm = ⟨nm, (persAt roll nm).cards[(timeAt ti nm).toNat].2, (persAt roll nm).ver, hzero⟩ := by
    unfold leafR
    rw [e]
    rfl
  rw [e, e2]
  ((with_reducible (refine mif_false ?_; refine dp_c trivial ?_; refine dm_ld hM ?_)); (with_reducible refine dp_ixs ‹_› ?_ ?_ ?_); (focus (simp only [List.length_map]; omega)); (focus (simp only [List.length_map]; first | done | omega)); (with_reducible (intro _ _ hA)); (cases hA); (with_reducible (refine dp_c trivial ?_)); (with_reducible refine dm_lds hM ‹_› (map_at ?_) ?_); (focus omega); (with_reducible (refine dp_c trivial ?_; refine dm_ld hM ?_; refine dp_c trivial ?_; refine dS_st hM ?_; clear hM; intro _ hM; refine mm_end hM ?_; clear hM; intro _ hM; refine rm_ld hM ?_)))
  exact ⟨rfl, hM.st⟩
end
end Go.Proofs.Ytopcnkejobomaaa
namespace Go.Proofs.Ytopcnkejobomaaa
open Go.RowKit Go.Lib
theorem Ap.step_rt {roll : List Pers} {s : Ap} {p : Chg.Prp} (h : s.t.Rt) (h0 : (s.step roll p).2 = 0) : (s.step roll p).1.t.Rt := by
  unfold Ap.step at h0 ⊢
  by_cases k2 : p.kind = 2
  · rw [if_pos k2] at h0 ⊢
    exact ren_rt h _ _ h0
  rw [if_neg k2] at h0 ⊢
  by_cases k3 : p.kind = 3
  · rw [if_pos k3] at h0 ⊢
    exact rem_rt h _ h0
  rw [if_neg k3] at h0 ⊢
  by_cases k1 : p.kind = 1
  · rw [if_pos k1] at h0 ⊢
    by_cases c1 : (cardR s.ti roll p.name).2 ≠ 0
    · rw [if_pos c1] at h0
      exact absurd h0 c1
    rw [if_neg c1] at h0 ⊢
    generalize (⟨p.name, (cardR s.ti roll p.name).1.2, (persAt roll p.name).ver, hzero⟩ : Lf) = lf at h0 ⊢
    simp only at h0 ⊢
    by_cases c2 : (s.t.addR lf).2.2 ≠ 0
    · rw [if_pos c2] at h0
      exact absurd h0 c2
    rw [if_neg c2]
    exact add_rt h _ (Decidable.of_not_not c2)
  · rw [if_neg k1] at h0
    cases h0
theorem Ap.step_fr {roll : List Pers} {s : Ap} {p : Chg.Prp} : (s.step roll p).1.fr.length ≤ s.fr.length + 1 := by
  unfold Ap.step
  split
  · simp
  split
  · simp
  split
  · split
    · simp
    · simp only
      split <;> simp
  · simp
theorem card_parts {ti : Ti} {roll : List Pers} {nm : Int} (h : (cardR ti roll nm).2 = 0) : (1 ≤ nm ∧ nm ≤ 64) ∧ nm ≤ roll.length ∧ 0 ≤ timeAt ti nm ∧ timeAt ti nm < (persAt roll nm).cards.length ∧ cardR ti roll nm = ((persAt roll nm).cards.getD (timeAt ti nm).toNat (hzero, hzero), 0) := by
  unfold cardR at h ⊢
  by_cases c1 : ¬ (1 ≤ nm ∧ nm ≤ 64) ∨ (roll.length : Int) < nm
  · rw [if_pos c1] at h
    cases h
  rw [if_neg c1] at h ⊢
  by_cases c2 : timeAt ti nm < 0 ∨ ((persAt roll nm).cards.length : Int) ≤ timeAt ti nm
  · rw [if_pos c2] at h
    cases h
  rw [if_neg c2]
  exact ⟨by omega, by omega, by omega, by omega, rfl⟩
theorem Tr.sound_eq {t : Tr} (h : t.Rt) : t.sound = t := if_pos (Tr.rt.2 h)
theorem PsF.mono {H H' : Hp} {q : List Fd} {p : Pers} (h : PsF H q p) (k : H.le H') : PsF H' q p := by
  obtain ⟨C, c, e, h1, h2⟩ := h
  exact ⟨C, c, e, h1.mono k, h2⟩
def appR (t : Tr) (ti : Ti) (roll : List Pers) (l : List Chg.Prp) : Ap × Int := if ¬ t.right = true then (Ap.none, 1) else (⟨t, ti, []⟩ : Ap).run roll l
section
variable {H : Hp} {w0 w : World} {L R : List Res} {A K : Option Addr} {a kc : Nat} {qs : List (List Fd)} {v : Value}
theorem place_c2 {t : Tr} (x : Int) (hR : t.Rt) (h : TrF H v t) (hf : Fz H w) : Calls Try.prog 34 #[v, .int .i64 x] w fun en w' => en = .returned (.int .i64 (t.place x)) ∧ St w [] w' := by
  obtain ⟨A, a, B, b, q, rfl, h1, h2, h3⟩ := h.ex
  have := place_ok (a := a) (b := b) x h1 h2 h3 h.len.1 h.len.2 hf
  rwa [Tr.sound_eq hR] at this
theorem capply_ok (t : Tr) (ti : Ti) (roll : List Pers) (l : List Chg.Prp) (hl : l.length ≤ 1000) (h : TrF H v t) (h1 : Sl H 33 A qs) (h2 : All2 (PsF H) qs roll) (hrl : roll.length ≤ maxLen) (hs : Sl H 101 K (l.map Chg.Prp.fds)) (hf : Fz H w) :
    Calls Try.prog 42 #[v, .agg (tis ti.1).toArray, .slice A roll.length a, .slice K l.length kc] w (Outp H w fun H' r => ∀ s e, appR t ti roll l = (s, e) → ∃ v1 F fc, r = .tuple #[v1, .agg (tis s.ti.1).toArray, .slice F s.fr.length fc, .int .i64 e] ∧ TrF H' v1 s.t ∧ Sl H' 1 F (ints8 s.fr)) := by
  obtain ⟨w1, hw1⟩ : ∃ w1, w1 = w := ⟨_, rfl⟩
  rw [← hw1]
  rw [← hw1] at hf
  obtain ⟨A0, a0, B0, b0, q0, hv, t1, t2, t3⟩ := h.ex
  rw [hv] at h ⊢
  have hM := Mem.start hf
  have hq : q0.length = t.ps.length := t3.len
  refine C_change_Apply ?_
  unfold F_change_Apply
  ((with_reducible (refine mm_box hM ?_; clear hM; intro _ _ hM; refine mm_box hM ?_; clear hM; intro _ _ hM; refine mm_new hM ?_; clear hM; intro _ _ hM; refine mm_new hM ?_; clear hM; intro _ _ hM; refine mm_ld hM ?_)))
  rename_i g4 _ g5 _ g8 _ g9 _
  refine mm_pure hM (right_c h hM.fz) (fun w hM => ?_)
  cases hr : t.right
  · ((with_reducible (refine mop_c trivial ?_; refine mif_true ?_; refine mop_c trivial ?_; refine mop_c trivial ?_; refine mm_st hM ?_; clear hM; intro _ hM; refine mm_st hM ?_; clear hM; intro _ hM; refine rm_ld hM ?_; refine rm_ld hM ?_)))
    refine hM.out (Le.refl _ _) ?_
    rintro s e hse
    rw [appR, if_pos (by rw [hr]; exact Bool.false_ne_true)] at hse
    cases hse
    exact ⟨_, none, 0, rfl, trF_none _, Sl.nil _ _ _⟩
  have hR := Tr.rt.1 hr
  have hlen := hR.len
  ((with_reducible (refine mop_c trivial ?_; refine mif_false ?_; refine dp_c trivial ?_; refine dm_ld hM ?_)))
  refine dm_ownE hM (fun w hM => cloneL_ok (t1.mono (le_of hM.fz)) (by simp) (by omega) hM) ?_
  rintro v2 w2 hx ⟨A1, a1, rfl, hM⟩
  ((with_reducible (refine dp_c trivial ?_)); (with_reducible refine dm_ld ‹Mem _ _ _ _› ?_))
  refine dm_own hM (fun w hM => (cloneP_ok (t2.mono (le_of hM.fz)) hq.symm (by omega) hM).mono fun en w' ⟨v, h, _, k⟩ => ⟨v, h, k⟩) ?_
  rintro v2 w3 ⟨B1, b1, rfl, hM⟩
  ((with_reducible (refine dp_c trivial ?_; refine dS_st hM ?_; clear hM; intro _ hM; refine dp_c trivial ?_; refine dS_st hM ?_; clear hM; intro _ hM; refine mm_end hM ?_; clear hM; intro _ hM; refine mop_c trivial ?_; refine mm_ld hM ?_; refine mop_c trivial ?_)))
  have hM0 : Mem H w1 (fb g4 27 (tfd A1 t.ls.length a1 B1 t.ps.length b1) :: fb g5 70 [.arr 64 (tis ti.1)] :: fb g8 27 (tfd none 0 0 none 0 0) :: fb g9 70 [.arr 64 (List.replicate 64 (.int .i64 0))] :: rowR 36 97 A1 t.ls.length a1 (t.ls.map Lf.fds) :: rowR 96 66 B1 t.ps.length b1 q0 :: allR [] :: []) _ := hM.all0.same
  refine ⟨fun v w' => ∃ (i : Nat) (X : List Xp), v = .int .i64 i ∧ i ≤ t.ps.length ∧ X.map (·.1) = t.ps.take i ∧ Mem H w1 (fb g4 27 (tfd A1 t.ls.length a1 B1 t.ps.length b1) :: fb g5 70 [.arr 64 (tis ti.1)] :: fb g8 27 (tfd none 0 0 none 0 0) :: fb g9 70 [.arr 64 (List.replicate 64 (.int .i64 0))] :: rowR 36 97 A1 t.ls.length a1 (t.ls.map Lf.fds) :: rowR 96 66 B1 t.ps.length b1 (X.map xrow ++ q0.drop i) :: allR X :: []) w', fun v _ => match v with | .int _ k => t.ps.length - k.toNat | _ => 0, ⟨0, [], rfl, by omega, rfl, hM0⟩, ?_⟩
  clear hM hM0
  rintro v3 u3 w3 ⟨i, X, rfl, hi, hX, hM⟩
  have hXl : X.length = i := by
    have := congrArg List.length hX
    simp at this
    omega
  ((with_reducible (refine mop_cS trivial ?_ ?_)))
  · intro hlt
    have hlt' : i < t.ps.length := by omega
    obtain ⟨q, hq1, C, c, rfl, hC, hcl⟩ := t3.at_ (i := i) hlt'
    obtain ⟨p, hpe⟩ : ∃ p, t.ps[i] = p := ⟨_, rfl⟩
    have hpl := (hR.loose p (hpe ▸ List.getElem_mem _)).1
    rw [hpe] at hq1 hC
    have hrow : (X.map xrow ++ q0.drop i)[(i : Int).toNat]? = some (p.row C c) := by
      rw [Int.toNat_natCast, List.getElem?_append_right (by simp; omega)]
      simp [hXl, hq1]
    ((with_reducible (refine mif_true ?_; refine dp_c trivial ?_; refine dm_ld hM ?_; refine dp_c trivial ?_; refine dm_ld hM ?_; refine dp_ixr hM ?_ ?_)); (focus omega); (with_reducible (intro _ hA)); (cases hA); (with_reducible (refine dp_c trivial ?_)))
    refine dm_ldr hM hrow ?_
    refine dm_ownE hM (fun w hM => cloneI_ok (hC.mono (le_of hM.fz)) (by simp) (by omega) hM) ?_
    rintro v w' hx ⟨C', c', rfl, hM⟩
    ((with_reducible (refine dp_ixr hM ?_ ?_)); (focus omega); (with_reducible (intro _ hA)); (cases hA); (with_reducible (refine dp_c trivial ?_)))
    refine dm_stf hM hrow (fun w' hM => ?_)
    ((with_reducible (refine mm_end hM ?_; clear hM; intro _ hM; refine mop_c ?_ ?_)); (focus omega))
    rename_i gB _ _ _ _
    have hset : (X.map xrow ++ q0.drop i).set (i : Int).toNat (p.row C' c') = (X ++ [(p, C', c')]).map xrow ++ q0.drop (i + 1) := by
      rw [Int.toNat_natCast, List.set_append_right _ _ (by simp; omega)]
      simp only [List.length_map, hXl, Nat.sub_self, List.map_append, List.append_assoc]
      rw [List.drop_eq_getElem_cons (by omega)]
      rfl
    have hM2 : Mem H w1 (rowR 96 66 (some ⟨gB, 0, none⟩) t.ps.length b1 ((X ++ [(p, C', c')]).map xrow ++ q0.drop (i + 1)) :: _) _ := hset ▸ hM
    have hM : Mem H w1 (allR X :: xres (p, C', c') :: fb g4 27 (tfd A1 t.ls.length a1 (some ⟨gB, 0, none⟩) t.ps.length b1) :: fb g5 70 [.arr 64 (tis ti.1)] :: fb g8 27 (tfd none 0 0 none 0 0) :: fb g9 70 [.arr 64 (List.replicate 64 (.int .i64 0))] :: rowR 36 97 A1 t.ls.length a1 (t.ls.map Lf.fds) :: rowR 96 66 (some ⟨gB, 0, none⟩) t.ps.length b1 ((X ++ [(p, C', c')]).map xrow ++ q0.drop (i + 1)) :: []) _ := hM2.sub
    refine ⟨⟨i + 1, X ++ [(p, C', c')], rfl, by omega, ?_, hM.addk.same⟩, by simp only; omega⟩
    rw [List.map_append, hX, List.take_succ_eq_append_getElem hlt', hpe]
    rfl
  intro hge
  obtain rfl : i = t.ps.length := by omega
  rw [List.take_length] at hX
  rw [List.drop_eq_nil_of_le (by omega), List.append_nil] at hM
  have hXl : X.length = t.ps.length := by rw [← hX, List.length_map]
  obtain ⟨P2, hP2⟩ : ∃ P2, P2 = t.ps := ⟨_, rfl⟩
  have hM : Mem H w1 (rowR 36 97 A1 t.ls.length a1 (t.ls.map Lf.fds) :: rowR 96 66 B1 X.length b1 (X.map xrow) :: allR X :: fb g4 27 (tfd A1 t.ls.length a1 B1 t.ps.length b1) :: fb g5 70 [.arr 64 (tis ti.1)] :: fb g8 27 (tfd none 0 0 none 0 0) :: fb g9 70 [.arr 64 (List.replicate 64 (.int .i64 0))] :: []) w3 := by
    rw [hXl]
    exact hM.same
  obtain ⟨H1, le1, hM, hT1⟩ := hM.frzT (fun x hx => by
    have hm : x.1 ∈ t.ps := hX ▸ List.mem_map_of_mem hx
    have := (hR.loose _ hm).1
    simp only [maxLen]
    omega)
  rw [hX, hXl] at hT1
  ((with_reducible (refine mif_false ?_; refine mop_c trivial ?_)))
  have hF0 : Mem H1 w1 (rowR 3 1 none 0 0 (ints8 []) :: _) _ := hM.row0 3 1
  refine ⟨fun v u w' => ∃ (i : Nat) (tt : Tr) (tj : Ti) (fr : List Int) (H2 : Hp) (F : Option Addr) (fc : Nat) (C : Option Addr) (c : Nat) (D : Option Addr) (d : Nat), v = .slice F fr.length fc ∧ u = .int .i64 i ∧ i ≤ l.length ∧ tt.Rt ∧ Le w1 H H2 ∧ fr.length ≤ i ∧ appR t ti roll l = Ap.run roll ⟨tt, tj, fr⟩ (l.drop i) ∧ TrF H2 (tv C tt.ls.length c D tt.ps.length d) tt ∧ Mem H2 w1 [rowR 3 1 F fr.length fc (ints8 fr), fb g4 27 (tfd C tt.ls.length c D tt.ps.length d), fb g5 70 [.arr 64 (tis tj.1)], fb g8 27 (tfd none 0 0 none 0 0), fb g9 70 [.arr 64 (List.replicate 64 (.int .i64 0))]] w', fun _ u _ => match u with | .int _ k => l.length - k.toNat | _ => 0, ⟨0, t, ti, [], H1, none, 0, A1, a1, B1, b1, rfl, rfl, by omega, hR, le1, by simp, by rw [appR, if_neg (fun c => c hr)]; rfl, hT1, hF0.sub⟩, ?_⟩
  clear hM hF0 le1 hT1
  rintro v u u4 w5 ⟨i, tt, tj, fr, H2, F, fc, C, c, D, d, rfl, rfl, hi, hRs, le2, hfr, hrun, hT, hM⟩
  have h1' := h1.mono le2.le
  have h2' := All2.mono (fun _ _ k => PsF.mono k le2.le) h2
  have hs' := hs.mono le2.le
  have hpq := h2.len
  ((with_reducible (refine mop_cS trivial ?_ ?_)))
  · intro hlt
    have hlt' : i < l.length := by omega
    have hdrop : l.drop i = l[i] :: l.drop (i + 1) := List.drop_eq_getElem_cons hlt'
    have hst : Ap.run roll ⟨tt, tj, fr⟩ (l.drop i) = if (Ap.step roll ⟨tt, tj, fr⟩ l[i]).2 ≠ 0 then (Ap.none, (Ap.step roll ⟨tt, tj, fr⟩ l[i]).2) else (Ap.step roll ⟨tt, tj, fr⟩ l[i]).1.run roll (l.drop (i + 1)) := by
      rw [hdrop]
      rfl
    have hrt : (Ap.step roll ⟨tt, tj, fr⟩ l[i]).2 = 0 → (Ap.step roll ⟨tt, tj, fr⟩ l[i]).1.t.Rt := Ap.step_rt hRs
    have hfs := Ap.step_fr (roll := roll) (s := ⟨tt, tj, fr⟩) (p := l[i])
    generalize hstp : Ap.step roll ⟨tt, tj, fr⟩ l[i] = stp at hst hrt hfs
    ((with_reducible (refine mif_true ?_)); (with_reducible refine mm_ixs ‹_› ?_ ?_ ?_); (focus (simp only [List.length_map]; omega)); (focus (simp only [List.length_map]; first | done | omega)); (with_reducible (intro _ _ hA)); (cases hA); (with_reducible refine mm_lds0 hM ‹_› (map_atI ?_) ?_); (focus omega); (with_reducible (refine mm_new hM ?_; clear hM; intro _ _ hM; refine mm_st hM ?_; clear hM; intro _ hM; refine mop_c trivial ?_; refine mm_ld hM ?_; refine mm_new hM ?_; clear hM; intro _ _ hM; refine mm_st hM ?_; clear hM; intro _ hM)))
    refine ⟨fun v u w' => ∃ (tt : Tr) (tj : Ti) (fr : List Int) (e : Int) (H3 : Hp) (F : Option Addr) (fc : Nat) (C : Option Addr) (c : Nat) (D : Option Addr) (d : Nat), v = .slice F fr.length fc ∧ u = .int .i64 e ∧ stp = (⟨tt, tj, fr⟩, e) ∧ Le w1 H H3 ∧ TrF H3 (tv C tt.ls.length c D tt.ps.length d) tt ∧ Mem H3 w1 [rowR 3 1 F fr.length fc (ints8 fr), fb g4 27 (tfd C tt.ls.length c D tt.ps.length d), fb g5 70 [.arr 64 (tis tj.1)], fb g8 27 (tfd none 0 0 none 0 0), fb g9 70 [.arr 64 (List.replicate 64 (.int .i64 0))]] w', ?_, ?_⟩
    · ((with_reducible (refine mop_c trivial ?_; refine mm_ld hM ?_)))
      ((with_reducible (refine mop_cS trivial ?_ ?_)))
      · intro k2
        ((with_reducible (refine mif_true ?_; refine dm_ld hM ?_; refine dm_ld hM ?_; refine dp_c trivial ?_; refine dm_ld hM ?_)))
        refine dm_pure hM (fun w hM => place_c2 l[i].name hRs hT hM.fz) (fun w' hx hM => ?_)
        ((with_reducible (refine dp_c trivial ?_)); (with_reducible refine dm_ld ‹Mem _ _ _ _› ?_))
        refine dm_call hM (fun w hM => renew_c (tt.place l[i].name) l[i].pub hT hM.fz) ?_
        rintro H3 v w6 hx l3 hM ⟨v1, rfl, hT3⟩
        rw [ren_same hRs] at hT3
        rw [ren_same hRs]
        obtain ⟨C3, c3, D3, d3, q3, rfl, -⟩ := hT3.ex
        ((with_reducible (refine dp_c trivial ?_; refine dp_c trivial ?_; refine dS_st hM ?_; clear hM; intro _ hM; refine mm_end hM ?_; clear hM; intro _ hM)))
        exact ⟨_, tj, fr, _, H3, F, fc, C3, c3, D3, d3, rfl, rfl, by rw [← hstp]; unfold Ap.step; rw [if_pos k2], le2.trans l3, hT3, hM.sub⟩
      intro k2
      ((with_reducible (refine mif_false ?_)))
      ((with_reducible (refine mop_cS trivial ?_ ?_)))
      · intro k3
        ((with_reducible (refine mif_true ?_; refine dm_ld hM ?_; refine dm_ld hM ?_; refine dp_c trivial ?_; refine dm_ld hM ?_)))
        refine dm_pure hM (fun w hM => place_c2 l[i].name hRs hT hM.fz) (fun w' hx hM => ?_)
        skip
        refine dm_call hM (fun w hM => remove_c (tt.place l[i].name) hT hM.fz) ?_
        rintro H3 v w6 hx l3 hM ⟨v1, rfl, hT3⟩
        rw [rem_same hRs] at hT3
        rw [rem_same hRs]
        obtain ⟨C3, c3, D3, d3, q3, rfl, -⟩ := hT3.ex
        ((with_reducible (refine dp_c trivial ?_; refine dp_c trivial ?_; refine dS_st hM ?_; clear hM; intro _ hM; refine mm_end hM ?_; clear hM; intro _ hM)))
        exact ⟨_, tj, fr, _, H3, F, fc, C3, c3, D3, d3, rfl, rfl, by rw [← hstp]; unfold Ap.step; rw [if_neg k2, if_pos k3], le2.trans l3, hT3, hM.sub⟩
      intro k3
      ((with_reducible (refine mif_false ?_)))
      ((with_reducible (refine mop_cS trivial ?_ ?_)))
      · intro k1
        ((with_reducible (refine mif_true ?_; refine mm_new hM ?_; clear hM; intro _ _ hM; refine mm_ld hM ?_; refine mop_c trivial ?_; refine mm_ld hM ?_)))
        refine mm_pure hM (card_ok tj roll l[i].name h1' h2' hrl hM.fz) (fun w hM => ?_)
        ((with_reducible (refine mop_c trivial ?_; refine mop_c trivial ?_; refine mm_st hM ?_; clear hM; intro _ hM)))
        ((with_reducible (refine mop_cS trivial ?_ ?_)))
        · intro c1
          obtain ⟨p1, p2, p3, p4, p5⟩ := card_parts c1
          have hlf : leafR tj roll l[i].name = ⟨l[i].name, (cardR tj roll l[i].name).1.2, (persAt roll l[i].name).ver, hzero⟩ := if_pos c1
          have hpc : (persAt roll l[i].name).cards.length ≤ maxLen := by
            have hix : (l[i].name - 1).toNat < roll.length := by omega
            obtain ⟨q, hq1, C', c', -, -, hcl⟩ := h2.at_ (i := (l[i].name - 1).toNat) hix
            rwa [← persAt_get ⟨p1.1, p2⟩] at hcl
          simp only [maxLen] at hpc
          ((with_reducible (refine mif_true ?_; refine mm_ld hM ?_; refine mm_ld hM ?_)))
          refine mm_call hM (add_c (leafR tj roll l[i].name) hT hM.fz) ?_
          rintro H3 v w6 l3 hM ⟨v1, rfl, hT3⟩
          rw [add_same hRs] at hT3
          rw [add_same hRs]
          generalize hlg : leafR tj roll l[i].name = lf at hT3 hM hlf ⊢
          obtain ⟨C3, c3, D3, d3, q3, rfl, -⟩ := hT3.ex
          ((with_reducible ((iterate 3 refine mop_c trivial ?_); refine mm_st hM ?_; clear hM; intro _ hM)))
          ((with_reducible (refine mop_cS trivial ?_ ?_)))
          · intro c2
            have hta := tis_at (ti := tj) p1
            ((with_reducible (refine mif_true ?_; refine mop_c trivial ?_; refine mm_ld hM ?_; refine mop_c ?_ ?_)); (focus omega); (with_reducible (refine mop_c ?_ ?_)); (focus omega))
            refine mm_lda hM hta ?_
            ((with_reducible (refine mop_c ?_ ?_)); (focus omega); (with_reducible (refine mop_c ?_ ?_)); (focus omega); (with_reducible (refine mm_sta hM ?_ ?_)); (focus omega); (with_reducible (clear hM; intro _ hM; refine mm_bsl hM ?_ ?_ ?_)); (focus rfl); (focus (constructor <;> simp)); (with_reducible (clear hM; intro _ _ hM; refine mm_appo hM ?_ ?_)); (focus omega); (with_reducible (clear hM; intro _ _ _ hM)))
            rename_i A7 c7 _
            have hts : (tis tj.1).set (l[i].name - 1).toNat (.int .i64 (timeAt tj l[i].name + 1)) = tis (tj.set (l[i].name - 1).toNat (timeAt tj l[i].name + 1)).1 := List.map_set.symm
            have hfe : ints8 (fr ++ [(tt.addR lf).2.1]) = ints8 fr ++ [[.one (.int .i64 (tt.addR lf).2.1)]] := by simp [ints8]
            rw [hts, ← hfe] at hM
            have hfl : fr.length + 1 = (fr ++ [(tt.addR lf).2.1]).length := by simp
            rw [hfl] at hM ⊢
            exact ⟨_, tj.set (l[i].name - 1).toNat (timeAt tj l[i].name + 1), fr ++ [(tt.addR lf).2.1], _, H3, A7, c7, C3, c3, D3, d3, rfl, rfl, by rw [← hstp]; unfold Ap.step; rw [if_neg k2, if_neg k3, if_pos k1, if_neg (fun c => c c1), ← hlf]; simp only; rw [if_neg (fun c => c c2), c2], le2.trans l3, hT3, hM.sub⟩
          · intro c2
            ((with_reducible (refine mif_false ?_)))
            exact ⟨_, tj, fr, _, H3, F, fc, C3, c3, D3, d3, rfl, rfl, by rw [← hstp]; unfold Ap.step; rw [if_neg k2, if_neg k3, if_pos k1, if_neg (fun c => c c1), ← hlf]; exact if_pos c2, le2.trans l3, hT3, hM.sub⟩
        · intro c1
          ((with_reducible (refine mif_false ?_)))
          exact ⟨tt, tj, fr, _, H2, F, fc, C, c, D, d, rfl, rfl, by rw [← hstp]; unfold Ap.step; rw [if_neg k2, if_neg k3, if_pos k1, if_pos c1], le2, hT, hM.sub⟩
      · intro k1
        ((with_reducible (refine mif_false ?_)))
        exact ⟨tt, tj, fr, 7, H2, F, fc, C, c, D, d, rfl, rfl, by rw [← hstp]; unfold Ap.step; rw [if_neg k2, if_neg k3, if_neg k1], le2, hT, hM.sub⟩
    clear hM
    rintro v u u6 w6 ⟨tt', tj', fr', e, H3, F, fc, C, c, D, d, rfl, rfl, hse, le3, hT, hM⟩
    rw [hse] at hst hrt hfs
    simp only at hst hrt hfs
    skip
    ((with_reducible (refine mop_cS trivial ?_ ?_)))
    · intro he
      rw [if_pos he] at hst
      ((with_reducible (refine mif_true ?_; refine mop_c trivial ?_; refine mop_c trivial ?_; refine mm_st hM ?_; clear hM; intro _ hM; refine mm_st hM ?_; clear hM; intro _ hM; refine rm_ld hM ?_; refine rm_ld hM ?_)))
      refine hM.out le3 ?_
      rintro s e' hse2
      rw [hrun, hst] at hse2
      cases hse2
      exact ⟨_, none, 0, rfl, trF_none _, Sl.nil _ _ _⟩
    · intro he
      rw [if_neg he] at hst
      ((with_reducible (refine mif_false ?_; refine mop_c ?_ ?_)); (focus omega))
      exact ⟨⟨i + 1, tt', tj', fr', H3, F, fc, C, c, D, d, rfl, rfl, by omega, hrt (Decidable.of_not_not he), le3, by omega, hrun.trans hst, hT, hM⟩, by simp only; omega⟩
  · intro hge
    obtain rfl : i = l.length := by omega
    rw [List.drop_length] at hrun
    ((with_reducible (refine mif_false ?_)))
    refine ⟨Rl.only fun b => b = g8, ?_⟩
    have hne4 : ¬ g4 = g8 := (hM.upB g4).neB
    have hne5 : ¬ g5 = g8 := (hM.upB g5).neB
    refine dS_ld hM hne4 ?_
    refine dS_ld hM hne5 ?_
    refine dS_stX hM ?_
    clear hM
    intro w8 hM
    ((with_reducible (refine dS_st hM ?_; clear hM; intro _ hM; refine mm_end hM ?_; clear hM; intro _ hM; refine rm_ld hM ?_; refine rm_ld hM ?_)))
    obtain ⟨H4, l4, hM, hs4, -⟩ := Mem.fz1 hM F
    refine hM.out (le2.trans l4) ?_
    rintro s e hse
    rw [hrun] at hse
    cases hse
    exact ⟨_, F, fc, rfl, hT.mono l4.le, hs4⟩
end
end Go.Proofs.Ytopcnkejobomaaa
namespace Go.Proofs.Ytopcnkejobomaaa
open Go.RowKit Go.Lib
end Go.Proofs.Ytopcnkejobomaaa
namespace Go.Proofs.Ytopcnkejobomaaa
open Go.RowKit Go.Lib
def firstE (f : Nat → Int) : Nat → Int
  | 0 => 0
  | n + 1 => if firstE f n ≠ 0 then firstE f n else f n
theorem firstE_zero {f : Nat → Int} : ∀ {n : Nat}, (∀ j, j < n → f j = 0) → firstE f n = 0
  | 0, _ => rfl
  | n + 1, h => by
    unfold firstE
    rw [firstE_zero fun j hj => h j (by omega), if_neg (fun c => c rfl)]
    exact h n (by omega)
theorem firstE_at {f : Nat → Int} {i : Nat} (h : ∀ j, j < i → f j = 0) (hi : f i ≠ 0) : ∀ {n : Nat}, i < n → firstE f n = f i
  | 0, c => by omega
  | n + 1, c => by
    unfold firstE
    rcases Nat.lt_or_ge i n with c2 | c2
    · rw [firstE_at h hi c2, if_pos hi]
    · obtain rfl : i = n := by omega
      rw [firstE_zero h, if_neg (fun c => c rfl)]
theorem firstE_all {f : Nat → Int} : ∀ {n : Nat}, firstE f n = 0 → ∀ j, j < n → f j = 0
  | 0, _, j, hj => by omega
  | n + 1, h, j, hj => by
    unfold firstE at h
    by_cases c : firstE f n ≠ 0
    · rw [if_pos c] at h
      exact absurd h c
    · rw [if_neg c] at h
      rcases Nat.lt_or_ge j n with c2 | c2
      · exact firstE_all (Decidable.of_not_not c) j c2
      · obtain rfl : j = n := by omega
        exact h
abbrev prp0 : Chg.Prp := ⟨hzero, 0, 0, 0, 0, 0, hzero, hzero⟩
structure Plc where
  t : Tr
  ti : Ti
  roll : List Pers
  ep : H32
  depth : Int
  me : Int
def Tr.verOf (t : Tr) (x : Int) : H32 := (t.ls.getD (t.place x).toNat Lf.zero).ver
def Plc.late (x : Plc) (l : List Chg.Prp) (i : Nat) (p : Chg.Prp) : Prop :=
  (0 < i ∧ ¬ (l.getD (i - 1) prp0).lt p) ∨ p.name ∈ (l.take i).map (·.name) ∨ (p.kind ≠ 1 ∧ p.name = x.me)
instance (x : Plc) (l : List Chg.Prp) (i : Nat) (p : Chg.Prp) : Decidable (x.late l i p) := by unfold Plc.late; infer_instance
def Plc.one (x : Plc) (l : List Chg.Prp) (i : Nat) (p : Chg.Prp) : Int :=
  if ¬ p.right then 3
  else if p.epoch ≠ x.ep ∨ p.depth ≠ x.depth then 1
  else if x.t.place p.author < 0 then 12
  else if ¬ p.checks (x.t.verOf p.author) then 18
  else if x.late l i p then 17
  else if p.kind = 1 then (if 0 ≤ x.t.place p.name then 8 else (cardR x.ti x.roll p.name).2)
  else if 0 ≤ x.t.place p.name then 0 else 7
def Plc.at_ (x : Plc) (l : List Chg.Prp) (i : Nat) : Int := x.one l i (l.getD i prp0)
def Plc.app (x : Plc) (l : List Chg.Prp) : Ap × Int := if ¬ x.t.right = true then (Ap.none, 1) else (⟨x.t, x.ti, []⟩ : Ap).run x.roll l
def Plc.fit (x : Plc) (l : List Chg.Prp) : Int :=
  if ¬ x.t.right = true then 1
  else if 16 < l.length then 5
  else if firstE (x.at_ l) l.length ≠ 0 then firstE (x.at_ l) l.length
  else (x.app l).2
theorem getD_at {α : Type} {l : List α} {i : Nat} {d : α} (h : i < l.length) : l.getD i d = l[i] := by
  rw [List.getD_eq_getElem?_getD, List.getElem?_eq_getElem h]
  rfl
theorem Plc.at_get (x : Plc) {l : List Chg.Prp} {i : Nat} (h : i < l.length) : x.at_ l i = x.one l i l[i] := by
  unfold Plc.at_
  rw [getD_at h]
theorem Plc.fit_parts {x : Plc} {l : List Chg.Prp} (h : x.fit l = 0) : x.t.right = true ∧ l.length ≤ 16 ∧ (∀ i (hi : i < l.length), x.one l i l[i] = 0) ∧ (x.app l).2 = 0 := by
  unfold Plc.fit at h
  by_cases c1 : ¬ x.t.right = true
  · rw [if_pos c1] at h
    cases h
  rw [if_neg c1] at h
  by_cases c2 : 16 < l.length
  · rw [if_pos c2] at h
    cases h
  rw [if_neg c2] at h
  by_cases c3 : firstE (x.at_ l) l.length ≠ 0
  · rw [if_pos c3] at h
    exact absurd h c3
  rw [if_neg c3] at h
  refine ⟨Decidable.of_not_not c1, by omega, fun i hi => ?_, h⟩
  rw [← x.at_get hi]
  exact firstE_all (Decidable.of_not_not c3) i hi
theorem Plc.one_parts {x : Plc} {l : List Chg.Prp} {i : Nat} {p : Chg.Prp} (h : x.one l i p = 0) :
    p.right ∧ p.name ∉ (l.take i).map (·.name) ∧ (p.kind = 1 → ¬ 0 ≤ x.t.place p.name ∧ (cardR x.ti x.roll p.name).2 = 0) ∧ (p.kind ≠ 1 → 0 ≤ x.t.place p.name) := by
  unfold Plc.one at h
  by_cases c1 : ¬ p.right
  · rw [if_pos c1] at h
    cases h
  rw [if_neg c1] at h
  by_cases c2 : p.epoch ≠ x.ep ∨ p.depth ≠ x.depth
  · rw [if_pos c2] at h
    cases h
  rw [if_neg c2] at h
  by_cases c3 : x.t.place p.author < 0
  · rw [if_pos c3] at h
    cases h
  rw [if_neg c3] at h
  by_cases c4 : ¬ p.checks (x.t.verOf p.author)
  · rw [if_pos c4] at h
    cases h
  rw [if_neg c4] at h
  by_cases c5 : x.late l i p
  · rw [if_pos c5] at h
    cases h
  rw [if_neg c5] at h
  refine ⟨Decidable.of_not_not c1, fun c => c5 (.inr (.inl c)), fun hk => ?_, fun hk => ?_⟩
  · rw [if_pos hk] at h
    by_cases c6 : 0 ≤ x.t.place p.name
    · rw [if_pos c6] at h
      cases h
    · rw [if_neg c6] at h
      exact ⟨c6, h⟩
  · rw [if_neg hk] at h
    by_cases c6 : 0 ≤ x.t.place p.name
    · exact c6
    · rw [if_neg c6] at h
      cases h
theorem Plc.fit_err {x : Plc} {l : List Chg.Prp} {i : Nat} {e : Int} (hr : x.t.right = true) (hl : l.length ≤ 16) (hi : i < l.length) (h : ∀ j, j < i → x.at_ l j = 0) (he : x.one l i l[i] = e) (h0 : e ≠ 0) : x.fit l = e := by
  have h1 : x.at_ l i = e := by rw [x.at_get hi, he]
  have h2 : firstE (x.at_ l) l.length = e := by rw [firstE_at h (by rw [h1]; exact h0) hi, h1]
  unfold Plc.fit
  rw [if_neg (fun c => c hr), if_neg (by omega), h2, if_pos h0]
theorem Plc.fit_app {x : Plc} {l : List Chg.Prp} (hr : x.t.right = true) (hl : l.length ≤ 16) (h : ∀ j, j < l.length → x.at_ l j = 0) : x.fit l = (x.app l).2 := by
  unfold Plc.fit
  rw [if_neg (fun c => c hr), if_neg (by omega), firstE_zero h, if_neg (fun c => c rfl)]
end Go.Proofs.Ytopcnkejobomaaa
namespace Go.Proofs.Ytopcnkejobomaaa
open Go.RowKit Go.Lib
def Plc.few (x : Plc) : Prop := (x.t.ls.length ≤ 70 ∧ x.t.ps.length ≤ 70 ∧ x.roll.length ≤ 70) ∧ (∀ p ∈ x.t.ps, p.loose.length ≤ 70) ∧ ∀ p ∈ x.roll, p.cards.length ≤ 70
instance (x : Plc) : Decidable x.few := by unfold Plc.few; infer_instance
abbrev plfd (A : Option Addr) (n a : Nat) (B : Option Addr) (m b : Nat) (x : Plc) (C : Option Addr) (k c : Nat) : List Fd := [.one (.slice A n a), .one (.slice B m b), .arr 64 (tis x.ti.1), .one (.slice C k c), .arr 32 (u8s x.ep.1), .one (.int .i64 x.depth), .one (.int .i64 x.me)]
structure PlF (H : Hp) (v : Value) (x : Plc) : Prop where
  ex : ∃ A a B b q C c r, v = .agg (fl (plfd A x.t.ls.length a B x.t.ps.length b x C x.roll.length c)).toArray ∧ (Sl H 97 A (x.t.ls.map Lf.fds) ∧ Sl H 66 B q ∧ All2 (PnF H) q x.t.ps) ∧ Sl H 33 C r ∧ All2 (PsF H) r x.roll
  len : x.t.ls.length ≤ maxLen ∧ x.t.ps.length ≤ maxLen ∧ x.roll.length ≤ maxLen
section
variable {H : Hp} {w0 w : World} {L R : List Res} {A B C : Option Addr} {a b c n : Nat} {v : Value}
theorem few10_ok (x : Plc) (h : PlF H v x) (hf : Fz H w) : Calls Try.prog 40 #[v] w fun en w' => en = .returned (.bool (decide x.few)) ∧ St w [] w' := by
  obtain ⟨A, a, B, b, q, C, c, r, rfl, ⟨t1, t2, t3⟩, r1, r2⟩ := h.ex
  obtain ⟨l1, l2, l3⟩ := h.len
  simp only [maxLen] at l1 l2 l3
  have hq : q.length = x.t.ps.length := t3.len
  have hr : r.length = x.roll.length := r2.len
  have hM := Mem.start hf
  refine C_bevylaw10_few ?_
  unfold F_bevylaw10_few
  ((with_reducible (refine mm_box hM ?_; clear hM; intro _ _ hM)))
  refine ⟨fun v w' => v = .bool (!decide (x.t.ls.length ≤ 70 ∧ x.t.ps.length ≤ 70 ∧ x.roll.length ≤ 70)) ∧ hM.now w', ?_, ?_⟩
  · ((with_reducible (refine mop_c trivial ?_; refine mop_c trivial ?_; refine mm_ld hM ?_; refine mop_c trivial ?_)))
    ((with_reducible (refine mop_cS trivial ?_ ?_)))
    · intro h
      ((with_reducible ((iterate 5 refine mguard_n1 ?_); refine mop_c trivial ?_; (iterate 4 refine mguard_n1 ?_); refine mop_c trivial ?_)))
      exact ⟨by rw [decide_eq_false (by omega)]; rfl, hM⟩
    · intro h
      ((with_reducible (refine mguard_yes ?_; refine mop_c trivial ?_; refine mguard_yes ?_; refine mop_c trivial ?_; refine mguard_yes ?_; refine mm_ld hM ?_; refine mguard_yes ?_; refine mop_c trivial ?_; refine mguard_yes ?_)))
      ((with_reducible (refine mop_cS trivial ?_ ?_)))
      · intro h4
        ((with_reducible (refine mop_c trivial ?_; (iterate 4 refine mguard_n1 ?_); refine mop_c trivial ?_)))
        exact ⟨by rw [decide_eq_false (by omega)]; rfl, hM⟩
      · intro h4
        ((with_reducible (refine mop_c trivial ?_; refine mguard_yes ?_; refine mop_c trivial ?_; refine mguard_yes ?_; refine mm_ld hM ?_; refine mguard_yes ?_; refine mop_c trivial ?_; refine mguard_yes ?_)))
        ((with_reducible (refine mop_cS trivial ?_ ?_)))
        · intro h5
          ((with_reducible (refine mop_c trivial ?_)))
          exact ⟨by rw [decide_eq_false (by omega)]; rfl, hM⟩
        · intro h5
          ((with_reducible (refine mop_c trivial ?_)))
          exact ⟨by rw [decide_eq_true (by omega)]; rfl, hM⟩
  rintro v u w2 ⟨rfl, hM⟩
  by_cases hc : x.t.ls.length ≤ 70 ∧ x.t.ps.length ≤ 70 ∧ x.roll.length ≤ 70
  case neg =>
    rw [decide_eq_false hc]
    ((with_reducible (refine mif_nf ?_)))
    exact ⟨by rw [decide_eq_false (show ¬ x.few from fun h => hc h.1)], hM.st⟩
  rw [decide_eq_true hc]
  ((with_reducible (refine mif_nt ?_)))
  refine ⟨fun v w' => ∃ i : Nat, v = .int .i64 i ∧ i ≤ x.t.ps.length ∧ (∀ j (hj : j < x.t.ps.length), j < i → x.t.ps[j].loose.length ≤ 70) ∧ hM.now w', fun v _ => match v with | .int _ k => x.t.ps.length - k.toNat | _ => 0, ⟨0, rfl, by omega, fun j _ h => by omega, hM⟩, ?_⟩
  rintro v u w3 ⟨i, rfl, hi, hlo, hM⟩
  ((with_reducible (refine mop_c trivial ?_; refine mop_c trivial ?_; refine mm_ld hM ?_; refine mop_c trivial ?_)))
  ((with_reducible (refine mop_cS trivial ?_ ?_)))
  · intro hlt
    have hlt' : i < x.t.ps.length := by omega
    obtain ⟨q', hq1, C', c', rfl, hC, hcl⟩ := t3.at_ (i := i) hlt'
    simp only [maxLen] at hcl
    ((with_reducible (refine mif_true ?_; refine mop_c trivial ?_; refine mop_c trivial ?_; refine mm_ld hM ?_)))
    refine mm_ixs t2 (by omega) hq.symm (fun bb oo hB => ?_)
    cases hB
    ((with_reducible (refine mop_c trivial ?_)))
    refine mm_lds hM t2 hq1 ?_
    ((with_reducible (refine mop_c trivial ?_)))
    ((with_reducible (refine mop_cS trivial ?_ ?_)))
    · intro h
      ((with_reducible (refine mif_true ?_)))
      exact ⟨by rw [decide_eq_false (show ¬ x.few from fun hh => by have := hh.2.1 _ (List.getElem_mem hlt'); omega)], hM.st⟩
    · intro h
      ((with_reducible (refine mif_false ?_; refine mop_c ?_ ?_)); (focus omega))
      refine ⟨⟨i + 1, rfl, by omega, fun j hj hji => ?_, hM⟩, by simp only; omega⟩
      rcases Nat.lt_or_ge j i with h2 | h2
      · exact hlo j hj h2
      · obtain rfl : j = i := by omega
        omega
  intro hge
  ((with_reducible (refine mif_false ?_)))
  refine ⟨fun v w' => ∃ i : Nat, v = .int .i64 i ∧ i ≤ x.roll.length ∧ (∀ j (hj : j < x.roll.length), j < i → x.roll[j].cards.length ≤ 70) ∧ hM.now w', fun v _ => match v with | .int _ k => x.roll.length - k.toNat | _ => 0, ⟨0, rfl, by omega, fun j _ h => by omega, hM⟩, ?_⟩
  rintro v u w4 ⟨k, rfl, hk, hlo2, hM⟩
  ((with_reducible (refine mop_c trivial ?_; refine mm_ld hM ?_; refine mop_c trivial ?_)))
  ((with_reducible (refine mop_cS trivial ?_ ?_)))
  · intro hlt
    have hlt' : k < x.roll.length := by omega
    obtain ⟨q', hq1, C', c', rfl, hC, hcl⟩ := r2.at_ (i := k) hlt'
    simp only [maxLen] at hcl
    ((with_reducible (refine mif_true ?_; refine mop_c trivial ?_; refine mm_ld hM ?_)))
    refine mm_ixs r1 (by omega) hr.symm (fun bb oo hB => ?_)
    cases hB
    ((with_reducible (refine mop_c trivial ?_)))
    refine mm_lds hM r1 hq1 ?_
    ((with_reducible (refine mop_c trivial ?_)))
    ((with_reducible (refine mop_cS trivial ?_ ?_)))
    · intro h
      ((with_reducible (refine mif_true ?_)))
      exact ⟨by rw [decide_eq_false (show ¬ x.few from fun hh => by have := hh.2.2 _ (List.getElem_mem hlt'); omega)], hM.st⟩
    · intro h
      ((with_reducible (refine mif_false ?_; refine mop_c ?_ ?_)); (focus omega))
      refine ⟨⟨k + 1, rfl, by omega, fun j hj hji => ?_, hM⟩, by simp only; omega⟩
      rcases Nat.lt_or_ge j k with h2 | h2
      · exact hlo2 j hj h2
      · obtain rfl : j = k := by omega
        omega
  · intro hge2
    ((with_reducible (refine mif_false ?_)))
    refine ⟨?_, hM.st⟩
    rw [decide_eq_true (show x.few from ⟨hc, fun p hp => ?_, fun p hp => ?_⟩)]
    · obtain ⟨j, hj, rfl⟩ := List.getElem_of_mem hp
      exact hlo j hj (by omega)
    · obtain ⟨j, hj, rfl⟩ := List.getElem_of_mem hp
      exact hlo2 j hj (by omega)
end
end Go.Proofs.Ytopcnkejobomaaa
namespace Go.Proofs.Ytopcnkejobomaaa
open Go.RowKit
theorem rdr_crd : Rdr Try.prog 87 64 (fun _ fs (x : H32 × H32) => fs = crd x) :=
  (rdr_struct (sz := 64) Try.underlying87 (by kernel_rfl) (Rdf.cons rdr_hash rfl rfl rfl (Rdf.cons rdr_hash rfl rfl rfl (Rdf.nil _)))).map fun _ fs x _ h => by
    obtain ⟨g1, h1, rfl, _, rfl, g2, h2, rfl, _, rfl, rfl⟩ := h
    exact ⟨(x.1, x.2.1), rfl⟩
theorem rdr_crds : Rdr Try.prog 88 1 (fun H fs (xs : List (H32 × H32)) => ∃ A cap, fs = [.one (.slice A xs.length cap)] ∧ xs.length ≤ maxLen ∧ Sl H 64 A (xs.map crd)) :=
  (rdr_slice Try.underlying88 (by kernel_rfl) (by omega) rdr_crd).map fun H fs xs _ ⟨A, cap, ps, h1, h2, h3, h4⟩ => by
    obtain rfl : ps = xs.map crd := (All2.eq_map (good := fun _ => True) (All2.mono (fun _ _ k => ⟨k, trivial⟩) h4)).1
    exact ⟨xs, A, cap, h1, h2, h3⟩
theorem rdr_pers : Rdr Try.prog 90 33 PsF :=
  (rdr_struct (sz := 33) Try.underlying90 (by kernel_rfl) (Rdf.cons rdr_hash rfl rfl rfl (Rdf.cons rdr_crds rfl rfl rfl (Rdf.nil _)))).map fun _ fs x _ h => by
    obtain ⟨g1, h1, rfl, _, rfl, g2, h2, rfl, _, ⟨A, c, rfl, hl, hs⟩, rfl⟩ := h
    exact ⟨⟨x.1, x.2.1⟩, A, c, rfl, hs, hl⟩
theorem rdr_roll : Rdr Try.prog 71 1 (fun H fs (xs : List Pers) => ∃ A cap ps, fs = [.one (.slice A xs.length cap)] ∧ xs.length ≤ maxLen ∧ Sl H 33 A ps ∧ All2 (PsF H) ps xs) :=
  rdr_slice Try.underlying71 (by kernel_rfl) (by omega) rdr_pers
theorem rdr_ti : Rdr Try.prog 70 64 (fun _ fs (x : Ti) => fs = [.arr 64 (tis x.1)]) :=
  (rdr_arr Try.underlying70 Try.underlying3 (by kernel_rfl) (by kernel_rfl)).map fun _ _ x _ ⟨h1, h2, h3⟩ => ⟨⟨x, h2⟩, h1⟩
theorem rdr_chg : Rdr Try.prog 83 34 (fun _ fs (x : Int × Int × H32) => fs = [.one (.int .i64 x.1), .one (.int .i64 x.2.1), .arr 32 (u8s x.2.2.1)]) :=
  (rdr_struct (sz := 34) Try.underlying83 (by kernel_rfl) (Rdf.cons rdr_i64 rfl rfl rfl (Rdf.cons rdr_i64 rfl rfl rfl (Rdf.cons rdr_hash rfl rfl rfl (Rdf.nil _))))).map fun _ fs x _ h => by
    obtain ⟨g1, h1, rfl, _, ⟨rfl, _⟩, g2, h2, rfl, _, ⟨rfl, _⟩, g3, h3, rfl, _, rfl, rfl⟩ := h
    exact ⟨⟨x.1, x.2.1, x.2.2.1⟩, rfl⟩
theorem rdr_prp : Rdr Try.prog 85 101 (fun _ fs (x : Chg.Prp) => fs = x.fds) :=
  (rdr_struct (sz := 101) Try.underlying85 (by kernel_rfl) (Rdf.cons rdr_hash rfl rfl rfl (Rdf.cons rdr_i64 rfl rfl rfl (Rdf.cons rdr_i64 rfl rfl rfl (Rdf.cons rdr_i64 rfl rfl rfl (Rdf.cons rdr_chg rfl rfl rfl (Rdf.cons rdr_hash rfl rfl rfl (Rdf.nil _)))))))).map fun _ fs x _ h => by
    obtain ⟨g1, h1, rfl, _, rfl, g2, h2, rfl, _, ⟨rfl, _⟩, g3, h3, rfl, _, ⟨rfl, _⟩, g4, h4, rfl, _, ⟨rfl, _⟩, g5, h5, rfl, _, rfl, g6, h6, rfl, _, rfl, rfl⟩ := h
    exact ⟨⟨x.1, x.2.1, x.2.2.1, x.2.2.2.1, x.2.2.2.2.1.1, x.2.2.2.2.1.2.1, x.2.2.2.2.1.2.2, x.2.2.2.2.2.1⟩, rfl⟩
theorem rdr_prps : Rdr Try.prog 74 1 (fun H fs (xs : List Chg.Prp) => ∃ A cap, fs = [.one (.slice A xs.length cap)] ∧ xs.length ≤ maxLen ∧ Sl H 101 A (xs.map Chg.Prp.fds)) :=
  (rdr_slice Try.underlying74 (by kernel_rfl) (by omega) rdr_prp).map fun H fs xs _ ⟨A, cap, ps, h1, h2, h3, h4⟩ => by
    obtain rfl : ps = xs.map Chg.Prp.fds := (All2.eq_map (good := fun _ => True) (All2.mono (fun _ _ k => ⟨k, trivial⟩) h4)).1
    exact ⟨xs, A, cap, h1, h2, h3⟩
theorem rdr_tr2 : Rdr Try.prog 27 2 (fun H fs (t : Tr) => (∃ A a B b q, fs = tfd A t.ls.length a B t.ps.length b ∧ (Sl H 97 A (t.ls.map Lf.fds) ∧ Sl H 66 B q ∧ All2 (PnF H) q t.ps)) ∧ t.ls.length ≤ maxLen ∧ t.ps.length ≤ maxLen) :=
  (rdr_struct (sz := 2) Try.underlying27 (by kernel_rfl) (Rdf.cons rdr_lfs rfl rfl rfl (Rdf.cons rdr_pns rfl rfl rfl (Rdf.nil _)))).map fun _ fs x _ h => by
    obtain ⟨g1, h1, rfl, _, ⟨A, a, rfl, hl, hs⟩, g2, h2, rfl, _, ⟨B, b, q, rfl, hl2, hs2, ha⟩, rfl⟩ := h
    exact ⟨⟨x.1, x.2.1⟩, ⟨A, a, B, b, q, rfl, hs, hs2, ha⟩, hl, hl2⟩
theorem rdr_plc : Rdr Try.prog 73 101 (fun H fs (x : Plc) => PlF H (.agg (fl fs).toArray) x) :=
  (rdr_struct (sz := 101) Try.underlying73 (by kernel_rfl) (Rdf.cons rdr_tr2 rfl rfl rfl (Rdf.cons rdr_ti rfl rfl rfl (Rdf.cons rdr_roll rfl rfl rfl (Rdf.cons rdr_hash rfl rfl rfl (Rdf.cons rdr_i64 rfl rfl rfl (Rdf.cons rdr_i64 rfl rfl rfl (Rdf.nil _)))))))).map fun _ fs x _ h => by
    obtain ⟨g1, h1, rfl, _, ⟨⟨A, a, B, b, q, rfl, ht⟩, l1, l2⟩, g2, h2, rfl, _, rfl, g3, h3, rfl, _, ⟨C, c, r, rfl, l3, hs3, h3⟩, g4, h4, rfl, _, rfl, g5, h5, rfl, _, ⟨rfl, _⟩, g6, h6, rfl, _, ⟨rfl, _⟩, rfl⟩ := h
    exact ⟨⟨x.1, x.2.1, x.2.2.1, x.2.2.2.1, x.2.2.2.2.1, x.2.2.2.2.2.1⟩, ⟨A, a, B, b, q, C, c, r, rfl, ht, hs3, h3⟩, l1, l2, l3⟩
end Go.Proofs.Ytopcnkejobomaaa
namespace Go.Proofs.Ytopcnkejobomaaa
open Go.RowKit
def obR (g : Nat) (o : Obj) : Res := fun B => Obj.isOther o = true ∧ B = [⟨g, .ob o, [], true⟩]
section
variable {P : Program} {H : Hp} {w0 w w' : World} {L R : List Res} {g : Nat} {o o' : Obj}
theorem St.allocOb {L : List Bk} (h : St w0 L w) (o : Obj) (ho : Obj.isOther o = true) : St w0 (⟨w.heap.size, .ob o, [], true⟩ :: L) (w.alloc o) := by
  refine ⟨fun b hb => ?_, .cons (fun b hb => ?_) h.ne, fun b hb hn => ?_, ?_⟩
  · cases hb with
    | head => exact ⟨rfl, ho, heap_alloc_new w _⟩
    | tail _ hb => exact (h.own b hb).alloc _
  · have := (h.own b hb).lt
    simp only []
    omega
  · cases hb with
    | head => exact h.size
    | tail _ hb => exact h.new b hb hn
  · exact (h.only.alloc _).mono fun i _ ⟨b, hb, hn, hg⟩ => ⟨b, List.mem_cons_of_mem _ hb, hn, hg⟩
def putOb (w : World) (g : Nat) (o : Obj) : World := { w with heap := w.heap.setIfInBounds g o }
theorem putOb_other (w : World) (g k : Nat) (o : Obj) (h : g ≠ k) : (putOb w g o).heap[k]? = w.heap[k]? := by
  simp only [putOb]
  rw [Array.getElem?_setIfInBounds_ne h]
theorem St.setOb {L : List Bk} (h : St w0 (⟨g, .ob o, [], true⟩ :: L) w) (ho : Obj.isOther o' = true) : St w0 (⟨g, .ob o', [], true⟩ :: L) (putOb w g o') := by
  have hne := List.pairwise_cons.1 h.ne
  have hlt := (h.own _ (List.mem_cons_self ..)).lt
  simp only at hlt
  refine ⟨fun b hb => ?_, .cons (fun b hb => hne.1 b hb) hne.2, fun b hb hn => ?_, ?_⟩
  · cases hb with
    | head => exact ⟨rfl, ho, by simp [putOb, hlt]⟩
    | tail _ hb => exact (h.own b (List.mem_cons_of_mem _ hb)).same (putOb_other w g b.g _ (fun e => hne.1 b hb e))
  · cases hb with
    | head => exact h.new ⟨g, .ob o, [], true⟩ (List.mem_cons_self ..) hn
    | tail _ hb => exact h.new b (List.mem_cons_of_mem _ hb) hn
  · have ho' := h.only
    refine ⟨ho'.os, ho'.tape, ho'.output, by simpa [putOb] using ho'.size, fun k hk hn => ?_⟩
    refine (putOb_other w g k _ ?_).trans (ho'.block k hk fun ⟨b, hb, h1, h2⟩ => ?_)
    · rintro rfl
      have := h.new ⟨g, .ob o, [], true⟩ (List.mem_cons_self ..) rfl
      simp only [] at this
      omega
    · cases hb with
      | head => cases h1
      | tail _ hb => exact hn ⟨b, List.mem_cons_of_mem _ hb, h1, h2⟩
theorem Mem.obAt (h : Mem H w0 (obR g o :: L) w) : w.heap[g]? = some o := by
  obtain ⟨B, ⟨B1, B2, rfl, ⟨_, rfl⟩, _⟩, hs, _⟩ := h.own
  exact (hs.own ⟨g, .ob o, [], true⟩ (by simp)).2.2
theorem Mem.allocOb (h : Mem H w0 L w) (o : Obj) (ho : Obj.isOther o = true) : Mem H w0 (obR w.heap.size o :: L) (w.alloc o) := by
  obtain ⟨B, hl, hs, hb⟩ := h.own
  refine ⟨⟨⟨w.heap.size, .ob o, [], true⟩ :: B, ⟨[⟨w.heap.size, .ob o, [], true⟩], B, rfl, ⟨ho, rfl⟩, hl⟩, hs.allocOb o ho, fun b hm => ?_⟩, h.fz.ext ((Only.refl _ w).alloc _)⟩
  rcases List.mem_cons.1 hm with rfl | hm
  · refine ⟨rfl, ?_⟩
    cases hh : H w.heap.size with
    | none => rfl
    | some c => have := h.fz.lt hh; omega
  · exact hb b hm
theorem Mem.setOb (h : Mem H w0 (obR g o :: L) w) (ho : Obj.isOther o' = true) : Mem H w0 (obR g o' :: L) (putOb w g o') := by
  obtain ⟨B, ⟨B1, B2, rfl, ⟨_, rfl⟩, h4⟩, hs, hb⟩ := h.own
  have hs : St w0 (⟨g, .ob o, [], true⟩ :: B2) w := hs
  have hg := hb ⟨g, .ob o, [], true⟩ (by simp)
  refine ⟨⟨⟨g, .ob o', [], true⟩ :: B2, ⟨[⟨g, .ob o', [], true⟩], B2, rfl, ⟨ho, rfl⟩, h4⟩, hs.setOb ho, fun b hm => ?_⟩, h.fz.same fun b c hc => putOb_other w g b _ ?_⟩
  · rcases List.mem_cons.1 hm with rfl | hm
    · exact ⟨rfl, hg.2⟩
    · exact hb b (List.mem_append.2 (.inr hm))
  · rintro rfl
    have := hg.2
    simp only [hc] at this
    cases this
theorem run_zv {t : TypeId} {z : Value} (c : ZvC P t z) (w : World) : (zeroValue t).run P w = .ok z w := by
  have := c.ok
  cases hi : P.info? t with
  | none => simp [hi] at this
  | some i => simp [hi] at this; simp [zeroValue, typeInfo, hi, this]
end
end Go.Proofs.Ytopcnkejobomaaa
namespace Go.Proofs.Ytopcnkejobomaaa
open Go.RowKit Go.MapKept
def mpEs : List Int → Nat → List MapEntry
  | [], _ => []
  | k :: r, i => ⟨.int .i64 k, .bool true, i⟩ :: mpEs r (i + 1)
theorem mpEs_snoc (x : Int) : ∀ (ks : List Int) (i : Nat), mpEs (ks ++ [x]) i = mpEs ks i ++ [⟨.int .i64 x, .bool true, i + ks.length⟩]
  | [], i => rfl
  | k :: r, i => by
    simp only [List.cons_append, mpEs, mpEs_snoc x r, List.length_cons]
    rw [show i + 1 + r.length = i + (r.length + 1) by omega]
def mpR (g : Nat) (ks : List Int) : Res := obR g (.map (mpEs ks 0).toArray ks.length)
theorem find_mp (k : Int) : ∀ (ks : List Int) (i j : Nat), (k ∈ ks → ∃ n, Instr.findNow (.int .i64) (.int .i64 k) (mpEs ks i) j = some (some (n, .bool true))) ∧ (k ∉ ks → Instr.findNow (.int .i64) (.int .i64 k) (mpEs ks i) j = some none)
  | [], i, j => ⟨fun h => (by cases h), fun _ => rfl⟩
  | x :: r, i, j => by
    obtain ⟨h1, h2⟩ := find_mp k r (i + 1) (j + 1)
    have e : Instr.sameNow (.int .i64) (.int .i64 k) (.int .i64 x) = some (k == x) := by simp [Instr.sameNow]
    by_cases c : k = x
    · subst c
      have e : Instr.sameNow (.int .i64) (.int .i64 k) (.int .i64 k) = some true := by simp [Instr.sameNow]
      refine ⟨fun _ => ⟨j, ?_⟩, fun h => absurd (List.mem_cons_self ..) h⟩
      simp only [mpEs, Instr.findNow, e]
    · have e2 : (k == x) = false := by simpa using c
      rw [e2] at e
      refine ⟨fun h => ?_, fun h => ?_⟩
      · obtain ⟨n, hn⟩ := h1 ((List.mem_cons.1 h).resolve_left c)
        exact ⟨n, by simp only [mpEs, Instr.findNow, e, hn]⟩
      · simp only [mpEs, Instr.findNow, e]
        exact h2 fun h' => h (List.mem_cons_of_mem _ h')
class MpC (P : Program) (t : TypeId) (kt e : outParam TypeId) : Prop where
  ok : P.underlying t = some (.map kt e) ∧ P.underlying kt = some (.int .i64) ∧ ∀ w, (zeroValue e).run P w = .ok (.bool false) w
section
variable {P : Program} {H : Hp} {w0 w w' : World} {L R : List Res} {g : Nat} {t kt e : TypeId} {ks : List Int} {x : Int} {K : Value → World → Prop} {X : List PanicEntry → World → Prop} {Kq : Value → Prop}
class AtM (L : List Res) (g : Nat) (ks : outParam (List Int)) (R : outParam (List Res)) : Prop where
  perm : L.Perm (mpR g ks :: R)
instance (L : List Res) (g : Nat) (ks : List Int) : AtM (mpR g ks :: L) g ks L := ⟨.refl _⟩
instance (priority := 900) (L R : List Res) (g : Nat) (ks : List Int) (x : Res) [h : AtM L g ks R] : AtM (x :: L) g ks (x :: R) := ⟨(h.perm.cons x).trans (.swap ..)⟩
theorem isKey_i64 (x : Int) : IsKey (.int .i64) (.int .i64 x) := by simp [IsKey]
theorem run_mplook (c : MpC P t kt e) (hb : w.heap[g]? = some (.map (mpEs ks 0).toArray ks.length)) : (o_lookup t (.map (some g)) (.int .i64 x) false).run P w = .ok (.value (.bool (decide (x ∈ ks)))) w := by
  obtain ⟨c1, c2, c3⟩ := c.ok
  obtain ⟨h1, h2⟩ := find_mp x ks 0 0
  by_cases hx : x ∈ ks
  · obtain ⟨n, hn⟩ := h1 hx
    rw [decide_eq_true hx]
    simp [o_lookup, sv, Instr.lookup, run_underlying c1, Go.MapKept.run_getObj_map hb, Go.MapKept.run_checkKey c2 (isKey_i64 x), Go.MapKept.run_findKey c2 hn]
  · rw [decide_eq_false hx]
    simp [o_lookup, sv, Instr.lookup, run_underlying c1, Go.MapKept.run_getObj_map hb, Go.MapKept.run_checkKey c2 (isKey_i64 x), Go.MapKept.run_findKey c2 (h2 hx), c3]
theorem run_mpput (c : MpC P t kt e) (hb : w.heap[g]? = some (.map (mpEs ks 0).toArray ks.length)) (hx : x ∉ ks) : (o_mapUpdate t (.map (some g)) (.int .i64 x) (.bool true)).run P w = .ok .skip (putOb w g (.map (mpEs (ks ++ [x]) 0).toArray (ks ++ [x]).length)) := by
  obtain ⟨c1, c2, c3⟩ := c.ok
  obtain ⟨h1, h2⟩ := find_mp x ks 0 0
  have e1 : (mpEs (ks ++ [x]) 0).toArray = (mpEs ks 0).toArray.push ⟨.int .i64 x, .bool true, ks.length⟩ := by
    rw [mpEs_snoc]
    simp
  rw [e1, List.length_append, List.length_singleton]
  simp [o_mapUpdate, su, Instr.mapUpdate, run_underlying c1, Go.MapKept.run_getObj_map hb, Go.MapKept.run_checkKey c2 (isKey_i64 x), Go.MapKept.run_findKey c2 (h2 hx), Go.MapKept.run_setObj_map _ hb, putOb]
theorem mm_mkmp (h : Mem H w0 L w) (hk : ∀ g w', Mem H w0 (mpR g [] :: L) w' → K (.map (some g)) w') : mop P (o_makeMap t none) w K X :=
  mop_run (w' := w.alloc (.map #[] 0)) (u := .map (some w.heap.size)) (by simp [o_makeMap, sv, Instr.makeMap]) (hk _ _ (h.allocOb (.map #[] 0) rfl))
theorem Mem.mpAt (h : Mem H w0 L w) (k : AtM L g ks R) : w.heap[g]? = some (.map (mpEs ks 0).toArray ks.length) := by
  have h2 : Mem H w0 (obR g (.map (mpEs ks 0).toArray ks.length) :: R) w := h.perm k.perm
  exact h2.obAt
theorem dm_mplk (h : Mem H w0 L w) [c : MpC P t kt e] [k : AtM L g ks R] (hk : Kq (.bool (decide (x ∈ ks)))) : dq P w (o_lookup t (.map (some g)) (.int .i64 x) false) Kq :=
  ⟨_, fun w' hw => by
    have hg : w'.heap[g]? = some (.map (mpEs ks 0).toArray ks.length) := by
      have h1 := h.mpAt k
      rw [← h1]
      exact hw.block g (by
        cases hh : w.heap[g]? with
        | none => rw [hh] at h1; cases h1
        | some o => exact (Array.getElem?_eq_some_iff.1 hh).1) (fun e => e)
    unfold opq
    rw [run_mplook c hg]
    exact ⟨rfl, Drawn.refl w'⟩, hk⟩
theorem mm_mpput (h : Mem H w0 L w) [c : MpC P t kt e] [k : AtM L g ks R] (hx : x ∉ ks) (hk : ∀ w', Mem H w0 (mpR g (ks ++ [x]) :: R) w' → K undef w') : mop P (o_mapUpdate t (.map (some g)) (.int .i64 x) (.bool true)) w K X := by
  have h2 : Mem H w0 (obR g (.map (mpEs ks 0).toArray ks.length) :: R) w := h.perm k.perm
  exact mop_skip (run_mpput c (h.mpAt k) hx) (hk _ (h2.setOb (o' := .map (mpEs (ks ++ [x]) 0).toArray (ks ++ [x]).length) rfl))
end
end Go.Proofs.Ytopcnkejobomaaa
namespace Go.Proofs.Ytopcnkejobomaaa
open Go.RowKit Go.Lib
theorem plc_some {t : Tr} {x : Int} (h : 0 ≤ t.place x) : 1 ≤ x ∧ ∃ i : Nat, t.place x = i ∧ ∃ hi : i < t.ls.length, t.ls[i].name = x := by
  have h1 : ¬ x < 1 := fun c => by
    unfold Tr.place at h
    rw [if_pos c] at h
    omega
  have e : t.place x = fix (fun l => decide (l.name = x)) t.ls := if_neg h1
  rw [e] at h ⊢
  unfold fix at h ⊢
  by_cases h2 : t.ls.findIdx (fun l => decide (l.name = x)) < t.ls.length
  · rw [if_pos h2]
    refine ⟨by omega, _, rfl, h2, ?_⟩
    simpa using List.findIdx_getElem (w := h2)
  · rw [if_neg h2] at h
    omega
theorem plc_iff {t : Tr} {x : Int} : 0 ≤ t.place x ↔ 1 ≤ x ∧ ∃ l ∈ t.ls, l.name = x := by
  constructor
  · intro h
    obtain ⟨a, i, -, hi, e⟩ := plc_some h
    exact ⟨a, _, List.getElem_mem hi, e⟩
  · rintro ⟨a, l, hl, e⟩
    exact Decidable.byContradiction fun hn => place_none a hn l hl e
theorem plc_at {t : Tr} (h : t.Rt) {i : Nat} (hi : i < t.ls.length) (hn : t.ls[i].name ≠ 0) : t.place t.ls[i].name = i := by
  obtain ⟨a, -⟩ := h.parts
  have hx : 1 ≤ t.ls[i].name := by
    rcases a.1 _ (List.getElem_mem hi) with e | e
    · rw [e] at hn
      exact absurd rfl hn
    · omega
  obtain ⟨-, j, e, hj, e2⟩ := plc_some (plc_iff.2 ⟨hx, _, List.getElem_mem hi, rfl⟩)
  rw [e]
  rcases Nat.lt_trichotomy i j with c | c | c
  · exact absurd e2.symm (a.2.2 i j hi hj c hn)
  · rw [c]
  · exact absurd e2 (a.2.2 j i hj hi c (by rw [e2]; exact hn))
theorem plc_name {t : Tr} {x : Int} (h : 0 ≤ t.place x) : nameAt t.ls (t.place x) = x := by
  obtain ⟨a, i, e, hi, e2⟩ := plc_some h
  rw [e, nameAt_get hi, e2]
theorem plc_out {t : Tr} {x : Int} (h : ¬ 0 ≤ t.place x) : t.nobody (t.place x) := .inl (.inl (by omega))
def Tr.leaf (t : Tr) (x : Int) (k : H32) : Prop := ∃ l ∈ t.ls, l.name = x ∧ l.pub = k
theorem leaf_at {t : Tr} (h : t.Rt) {x : Int} {k : H32} (hx : 1 ≤ x) (hl : t.leaf x k) : ∃ i : Nat, t.place x = i ∧ ∃ hi : i < t.ls.length, t.ls[i].pub = k := by
  obtain ⟨l, hl, rfl, rfl⟩ := hl
  obtain ⟨i, hi, rfl⟩ := List.getElem_of_mem hl
  exact ⟨i, plc_at h hi (by omega), hi, rfl⟩
theorem add_parts {t : Tr} {l : Lf} (h0 : (t.addR l).2.2 = 0) : (1 ≤ l.name ∧ l.name ≤ 64) ∧ ¬ 0 ≤ t.place l.name ∧ (t.addR l).1.ls = addL t l := by
  unfold Tr.addR at h0 ⊢
  by_cases h1 : l.name < 1 ∨ 64 < l.name
  · rw [if_pos h1] at h0
    cases h0
  rw [if_neg h1] at h0 ⊢
  by_cases h2 : 0 ≤ t.place l.name
  · rw [if_pos h2] at h0
    cases h0
  rw [if_neg h2] at h0 ⊢
  by_cases h3 : t.gap = 64
  · rw [if_pos h3] at h0
    cases h0
  rw [if_neg h3]
  exact ⟨by omega, h2, rfl⟩
theorem addL_mem {t : Tr} {l m : Lf} (hm : m ∈ addL t l) : m = l ∨ m ∈ t.ls := by
  obtain ⟨i, hi, rfl⟩ := List.getElem_of_mem hm
  rcases addL_get hi with ⟨e, -⟩ | ⟨h, e, -⟩
  · exact .inl e
  · exact .inr (e ▸ List.getElem_mem h)
theorem addL_self (t : Tr) (l : Lf) : l ∈ addL t l := by
  have hgl := t.gap_le
  have hll := addL_len t l
  have hi : t.gap < (addL t l).length := by split at hll <;> omega
  rcases addL_get hi with ⟨e, -⟩ | ⟨h, e, e2⟩
  · have h2 := List.getElem_mem hi
    rw [e] at h2
    exact h2
  · exact absurd rfl e2
theorem addL_old {t : Tr} {l m : Lf} (hm : m ∈ t.ls) (hn : m.name ≠ 0) : m ∈ addL t l := by
  obtain ⟨i, hi, rfl⟩ := List.getElem_of_mem hm
  have hll := addL_len t l
  have hi2 : i < (addL t l).length := by split at hll <;> omega
  have hg : i ≠ t.gap := fun e => hn (by
    have := gap_blank t
    rw [← e, nameAt_get hi] at this
    exact this)
  rcases addL_get hi2 with ⟨-, e⟩ | ⟨h, e, e2⟩
  · exact absurd e hg
  · exact e ▸ List.getElem_mem hi2
theorem add_plc {t : Tr} {l : Lf} (h0 : (t.addR l).2.2 = 0) (x : Int) : 0 ≤ (t.addR l).1.place x ↔ x = l.name ∨ 0 ≤ t.place x := by
  obtain ⟨h1, -, h3⟩ := add_parts h0
  rw [plc_iff, plc_iff, h3]
  constructor
  · rintro ⟨a, m, hm, e⟩
    rcases addL_mem hm with rfl | hm
    · exact .inl e.symm
    · exact .inr ⟨a, m, hm, e⟩
  · rintro (rfl | ⟨a, m, hm, e⟩)
    · exact ⟨h1.1, l, addL_self t l, rfl⟩
    · exact ⟨a, m, addL_old hm (by omega), e⟩
theorem add_leaf {t : Tr} {l : Lf} (h0 : (t.addR l).2.2 = 0) {x : Int} {k : H32} (hx : 1 ≤ x) (h : t.leaf x k) : (t.addR l).1.leaf x k := by
  obtain ⟨-, -, h3⟩ := add_parts h0
  obtain ⟨m, hm, e1, e2⟩ := h
  exact ⟨m, by rw [h3]; exact addL_old hm (by omega), e1, e2⟩
theorem add_leaf_new {t : Tr} {l : Lf} (h0 : (t.addR l).2.2 = 0) : (t.addR l).1.leaf l.name l.pub := by
  obtain ⟨-, -, h3⟩ := add_parts h0
  exact ⟨l, by rw [h3]; exact addL_self t l, rfl, rfl⟩
theorem key_mem {ls : List Lf} {k : Nat} {pub abv : H32} {m : Lf} (hm : m ∈ ls.modify k (·.key pub abv)) : ∃ m' ∈ ls, m'.name = m.name := by
  obtain ⟨i, hi, rfl⟩ := List.getElem_of_mem hm
  exact ⟨_, List.getElem_mem (by simpa using hi), (key_names i hi).symm⟩
theorem key_mem2 {ls : List Lf} {k : Nat} {pub abv : H32} {m : Lf} (hm : m ∈ ls) : ∃ m' ∈ ls.modify k (·.key pub abv), m'.name = m.name := by
  obtain ⟨i, hi, rfl⟩ := List.getElem_of_mem hm
  have hi2 : i < (ls.modify k (·.key pub abv)).length := by simpa using hi
  exact ⟨_, List.getElem_mem hi2, key_names i hi2⟩
theorem keyed_plc {t : Tr} {k : Nat} {pub abv : H32} {ps : List Pn} (x : Int) : 0 ≤ (⟨t.ls.modify k (·.key pub abv), ps⟩ : Tr).place x ↔ 0 ≤ t.place x := by
  rw [plc_iff, plc_iff]
  constructor
  · rintro ⟨a, m, hm, e⟩
    obtain ⟨m', hm', e'⟩ := key_mem hm
    exact ⟨a, m', hm', by omega⟩
  · rintro ⟨a, m, hm, e⟩
    obtain ⟨m', hm', e'⟩ := key_mem2 (k := k) (pub := pub) (abv := abv) hm
    exact ⟨a, m', hm', by omega⟩
theorem ren_parts {t : Tr} {p : Int} {pub : H32} (h0 : (t.renR p pub).2 = 0) : ¬ t.nobody p ∧ (t.renR p pub).1 = ⟨t.ls.modify p.toNat (·.key pub hzero), blankR t.size p t.ps⟩ := by
  unfold Tr.renR at h0 ⊢
  by_cases hp : t.nobody p
  · rw [if_pos hp] at h0
    cases h0
  · rw [if_neg hp]
    exact ⟨hp, rfl⟩
theorem ren_plc {t : Tr} {p : Int} {pub : H32} (h0 : (t.renR p pub).2 = 0) (x : Int) : 0 ≤ (t.renR p pub).1.place x ↔ 0 ≤ t.place x := by
  rw [(ren_parts h0).2]
  exact keyed_plc x
theorem ren_leaf {t : Tr} {p : Int} {pub : H32} (h0 : (t.renR p pub).2 = 0) {x : Int} {k : H32} (hx : x ≠ nameAt t.ls p) (h : t.leaf x k) : (t.renR p pub).1.leaf x k := by
  obtain ⟨hp, e⟩ := ren_parts h0
  obtain ⟨b0, b1, b2⟩ := Tr.body hp
  rw [e]
  obtain ⟨m, hm, e1, e2⟩ := h
  obtain ⟨i, hi, rfl⟩ := List.getElem_of_mem hm
  have hi2 : i < (t.ls.modify p.toNat (·.key pub hzero)).length := by simpa using hi
  refine ⟨(t.ls.modify p.toNat (·.key pub hzero))[i], List.getElem_mem hi2, ?_⟩
  have hne : ¬ p.toNat = i := fun c => hx (by rw [← e1, nameAt_at b0 b1]; simp only [c])
  rw [List.getElem_modify, if_neg hne]
  exact ⟨e1, e2⟩
theorem ren_leaf_new {t : Tr} {p : Int} {pub : H32} (h0 : (t.renR p pub).2 = 0) : (t.renR p pub).1.leaf (nameAt t.ls p) pub := by
  obtain ⟨hp, e⟩ := ren_parts h0
  obtain ⟨b0, b1, b2⟩ := Tr.body hp
  rw [e]
  have hi2 : p.toNat < (t.ls.modify p.toNat (·.key pub hzero)).length := by simpa using b1
  refine ⟨(t.ls.modify p.toNat (·.key pub hzero))[p.toNat], List.getElem_mem hi2, ?_⟩
  rw [List.getElem_modify, if_pos rfl, nameAt_at b0 b1]
  exact ⟨rfl, rfl⟩
theorem rem_parts {t : Tr} {p : Int} (h0 : (t.remR p).2 = 0) : ¬ t.nobody p ∧ (t.remR p).1.ls = (t.ls.set p.toNat Lf.zero).take (keepN (t.ls.set p.toNat Lf.zero) (t.ls.set p.toNat Lf.zero).length) := by
  unfold Tr.remR at h0 ⊢
  by_cases hp : t.nobody p
  · rw [if_pos hp] at h0
    cases h0
  · rw [if_neg hp]
    exact ⟨hp, rfl⟩
theorem rem_mem {t : Tr} {p : Int} (h0 : (t.remR p).2 = 0) {m : Lf} (hn : m.name ≠ 0) : m ∈ (t.remR p).1.ls ↔ ∃ (i : Nat) (hi : i < t.ls.length), (i : Int) ≠ p ∧ t.ls[i] = m := by
  obtain ⟨hp, e⟩ := rem_parts h0
  obtain ⟨b0, b1, b2⟩ := Tr.body hp
  rw [e]
  constructor
  · intro h
    obtain ⟨i, hi, rfl⟩ := List.getElem_of_mem (List.mem_of_mem_take h)
    have hi' : i < t.ls.length := by simpa using hi
    rw [List.getElem_set] at hn ⊢
    by_cases c : p.toNat = i
    · rw [if_pos c] at hn
      exact absurd rfl hn
    · rw [if_neg c]
      exact ⟨i, hi', by omega, rfl⟩
  · rintro ⟨i, hi, hne, rfl⟩
    obtain ⟨ks, -⟩ := keepN_spec (t.ls.set p.toNat Lf.zero) (t.ls.set p.toNat Lf.zero).length
    have hi2 : i < (t.ls.set p.toNat Lf.zero).length := by simpa using hi
    have hg : (t.ls.set p.toNat Lf.zero)[i] = t.ls[i] := by
      rw [List.getElem_set, if_neg (by omega)]
    have hk := ks i hi2 (by rw [nameAt_get hi2, hg]; exact hn)
    rw [← hg]
    exact List.mem_take_iff_getElem.2 ⟨i, by omega, by simp⟩
theorem rem_plc {t : Tr} (h : t.Rt) {p : Int} (h0 : (t.remR p).2 = 0) (x : Int) : 0 ≤ (t.remR p).1.place x ↔ x ≠ nameAt t.ls p ∧ 0 ≤ t.place x := by
  obtain ⟨hp, -⟩ := rem_parts h0
  obtain ⟨b0, b1, b2⟩ := Tr.body hp
  obtain ⟨a, -⟩ := h.parts
  rw [plc_iff, plc_iff]
  constructor
  · rintro ⟨c, m, hm, rfl⟩
    obtain ⟨i, hi, hne, rfl⟩ := (rem_mem h0 (by omega)).1 hm
    refine ⟨fun e => ?_, c, _, List.getElem_mem hi, rfl⟩
    have e1 := plc_at h hi (by omega)
    have e2 := plc_at h b1 (by rw [nameAt_at b0 b1] at e; omega)
    rw [nameAt_at b0 b1] at e
    rw [← e, e1] at e2
    omega
  · rintro ⟨hne, c, m, hm, rfl⟩
    obtain ⟨i, hi, rfl⟩ := List.getElem_of_mem hm
    refine ⟨c, _, (rem_mem h0 (by omega)).2 ⟨i, hi, fun e => hne ?_, rfl⟩, rfl⟩
    rw [← e, nameAt_get hi]
theorem rem_leaf {t : Tr} {p : Int} (h0 : (t.remR p).2 = 0) {x : Int} {k : H32} (h1 : 1 ≤ x) (hx : x ≠ nameAt t.ls p) (h : t.leaf x k) : (t.remR p).1.leaf x k := by
  obtain ⟨m, hm, rfl, rfl⟩ := h
  obtain ⟨i, hi, rfl⟩ := List.getElem_of_mem hm
  refine ⟨_, (rem_mem h0 (by omega)).2 ⟨i, hi, fun e => hx ?_, rfl⟩, rfl, rfl⟩
  rw [← e, nameAt_get hi]
end Go.Proofs.Ytopcnkejobomaaa
namespace Go.Proofs.Ytopcnkejobomaaa
open Go.RowKit Go.Lib
instance : MpC Try.prog 133 3 4 := ⟨Try.underlying133, Try.underlying3, fun w => run_zv ⟨by kernel_rfl⟩ w⟩
section
variable {H : Hp} {w0 w : World} {L R : List Res} {A K : Option Addr} {a kc : Nat} {qs : List (List Fd)} {v : Value}
theorem fit_ok (x : Plc) (l : List Chg.Prp) (hl : l.length ≤ maxLen) (h : TrF H v x.t) (h1 : Sl H 33 A qs) (h2 : All2 (PsF H) qs x.roll) (hrl : x.roll.length ≤ maxLen) (hs : Sl H 101 K (l.map Chg.Prp.fds)) (hf : Fz H w) :
    Calls Try.prog 44 #[v, .agg (tis x.ti.1).toArray, .slice A x.roll.length a, ha x.ep, .int .i64 x.depth, .int .i64 x.me, .slice K l.length kc] w fun en w' => en = .returned (.int .i64 (x.fit l)) ∧ St w [] w' := by
  obtain ⟨w1, hw1⟩ : ∃ w1, w1 = w := ⟨_, rfl⟩
  rw [← hw1]
  rw [← hw1] at hf
  obtain ⟨A0, a0, B0, b0, q0, hv, t1, t2, t3⟩ := h.ex
  rw [hv] at h ⊢
  have hl' : l.length ≤ 9223372036854775807 := hl
  have hM := Mem.start hf
  refine C_change_Fit ?_
  unfold F_change_Fit
  ((with_reducible (refine mm_box hM ?_; clear hM; intro _ _ hM; refine mm_box hM ?_; clear hM; intro _ _ hM; refine mm_box hM ?_; clear hM; intro _ _ hM; refine mm_ld hM ?_)))
  rename_i g7 _ g8 _ g10 _
  refine mm_pure hM (right_c h hM.fz) (fun w hM => ?_)
  cases hr : x.t.right
  · ((with_reducible (refine mop_c trivial ?_; refine mif_true ?_)))
    exact ⟨by rw [show x.fit l = 1 from if_pos (by rw [hr]; exact Bool.false_ne_true)], hM.st⟩
  have hR := Tr.rt.1 hr
  have hlen := hR.len
  ((with_reducible (refine mop_c trivial ?_; refine mif_false ?_; refine mop_c trivial ?_)))
  ((with_reducible (refine mop_cS trivial ?_ ?_)))
  · intro c16
    ((with_reducible (refine mif_true ?_)))
    refine ⟨?_, hM.st⟩
    unfold Plc.fit
    rw [if_neg (fun c => c hr), if_pos (by omega)]
  intro c16
  ((with_reducible (refine mif_false ?_)))
  refine mm_mkmp hM ?_
  clear hM
  intro gm w3 hM
  ((with_reducible (refine mop_c trivial ?_)))
  refine ⟨fun v w' => ∃ i : Nat, v = .int .i64 i ∧ i ≤ l.length ∧ (∀ j, j < i → x.at_ l j = 0) ∧ Mem H w1 [mpR gm ((l.take i).map (·.name)), fb g10 34 [.arr 32 (u8s x.ep.1)], fb g8 70 [.arr 64 (tis x.ti.1)], fb g7 27 (tfd A0 x.t.ls.length a0 B0 x.t.ps.length b0)] w', fun v _ => match v with | .int _ k => l.length - k.toNat | _ => 0, ⟨0, rfl, by omega, fun j h => by omega, hM⟩, ?_⟩
  clear hM
  rintro v u w4 ⟨i, rfl, hi, hj, hM⟩
  ((with_reducible (refine mop_cS trivial ?_ ?_)))
  · intro hlt
    have hlt' : i < l.length := by omega
    have herr := fun e => x.fit_err (e := e) hr (by omega) hlt' hj
    have hone := x.at_get hlt'
    ((with_reducible (refine mif_true ?_)))
    refine ⟨fun w' => x.one l i l[i] = 0 ∧ Mem H w1 [mpR gm ((l.take (i + 1)).map (·.name)), fb g10 34 [.arr 32 (u8s x.ep.1)], fb g8 70 [.arr 64 (tis x.ti.1)], fb g7 27 (tfd A0 x.t.ls.length a0 B0 x.t.ps.length b0)] w', ?_, ?_⟩
    · ((with_reducible refine mm_ixs ‹_› ?_ ?_ ?_); (focus (simp only [List.length_map]; omega)); (focus (simp only [List.length_map]; first | done | omega)); (with_reducible (intro _ _ hA)); (cases hA); (with_reducible refine mm_lds0 hM ‹_› (map_atI ?_) ?_); (focus omega); (with_reducible (refine mm_new hM ?_; clear hM; intro _ _ hM; refine mm_st hM ?_; clear hM; intro _ hM; refine mm_ld hM ?_; refine mop_c trivial ?_; refine mm_ld hM ?_)))
      rename_i g17 _ _
      refine mm_pure hM (place_c2 l[i].author hR h hM.fz) (fun w hM => ?_)
      ((with_reducible (refine mm_ld hM ?_; refine mm_purC hM ?_ ?_)); (focus (first | exact trivial | assumption | omega)); (with_reducible (clear hM; intro _ hM; refine mop_c trivial ?_)))
      by_cases c1 : l[i].right
      case neg =>
        rw [decide_eq_false c1]
        ((with_reducible (refine mif_nf ?_)))
        exact ⟨by rw [herr 3 (by unfold Plc.one; rw [if_pos c1]) (by decide)], hM.st⟩
      rw [decide_eq_true c1]
      ((with_reducible (refine mif_nt ?_)))
      refine ⟨fun v w' => v = .bool (decide (l[i].epoch ≠ x.ep ∨ l[i].depth ≠ x.depth)) ∧ hM.now w', ?_, ?_⟩
      · ((with_reducible (refine mop_c trivial ?_; refine mm_ld hM ?_; refine mm_ld hM ?_)))
        ((with_reducible (refine mop_cS trivial ?_ ?_)))
        · intro e1
          ((with_reducible ((iterate 4 refine mguard_n1 ?_); refine mop_c trivial ?_)))
          exact ⟨by rw [decide_eq_true (.inl e1)], hM⟩
        · intro e1
          ((with_reducible (refine mguard_yes ?_; refine mop_c trivial ?_; refine mguard_yes ?_; refine mm_ld hM ?_; refine mguard_yes ?_; refine mop_c trivial ?_; refine mguard_yes ?_)))
          refine ⟨?_, hM⟩
          rw [if_neg (by simp), Value.bool.injEq]
          by_cases e2 : l[i].depth = x.depth
          · rw [decide_eq_false (show ¬ (l[i].epoch ≠ x.ep ∨ l[i].depth ≠ x.depth) from fun c => c.elim e1 fun k => k e2), e2]
            simp
          · rw [decide_eq_true (show l[i].epoch ≠ x.ep ∨ l[i].depth ≠ x.depth from .inr e2)]
            simpa using e2
      rintro v u2 w5 ⟨rfl, hM⟩
      by_cases c2 : l[i].epoch ≠ x.ep ∨ l[i].depth ≠ x.depth
      · rw [decide_eq_true c2]
        ((with_reducible (refine mif_true ?_)))
        exact ⟨by rw [herr 1 (by unfold Plc.one; rw [if_neg (fun c => c c1), if_pos c2]) (by decide)], hM.st⟩
      rw [decide_eq_false c2]
      ((with_reducible (refine mif_false ?_)))
      ((with_reducible (refine mop_cS trivial ?_ ?_)))
      · intro c3
        ((with_reducible (refine mif_true ?_)))
        exact ⟨by rw [herr 12 (by unfold Plc.one; rw [if_neg (fun c => c c1), if_neg c2, if_pos c3]) (by decide)], hM.st⟩
      intro c3
      obtain ⟨-, k, hk, hkl, -⟩ := plc_some (show 0 ≤ x.t.place l[i].author by omega)
      rw [hk]
      ((with_reducible (refine mif_false ?_; refine dm_ld hM ?_; refine dp_c trivial ?_; refine dm_ld hM ?_)); (with_reducible refine dp_ixs ‹_› ?_ ?_ ?_); (focus (simp only [List.length_map]; omega)); (focus (simp only [List.length_map]; first | done | omega)); (with_reducible (intro _ _ hA)); (cases hA); (with_reducible (refine dp_c trivial ?_)); (with_reducible refine dm_lds hM ‹_› (map_atI ?_) ?_); (focus omega); (with_reducible (refine dm_purC hM ?_ (fun _ _ hM => ?_))); (focus (first | exact trivial | assumption | omega)); (with_reducible (refine dp_c trivial ?_; refine mm_end hM ?_; clear hM; intro _ hM)))
      have hver : x.t.verOf l[i].author = x.t.ls[k].ver := by
        unfold Tr.verOf
        rw [hk, Int.toNat_natCast, getD_at hkl]
      have c3' : ¬ x.t.place l[i].author < 0 := c3
      by_cases c4 : l[i].checks x.t.ls[k].ver
      case neg =>
        rw [decide_eq_false c4]
        ((with_reducible (refine mif_nf ?_)))
        exact ⟨by rw [herr 18 (by unfold Plc.one; rw [if_neg (fun c => c c1), if_neg c2, if_neg c3, hver, if_pos c4]) (by decide)], hM.st⟩
      rw [decide_eq_true c4]
      ((with_reducible (refine mif_nt ?_)))
      refine ⟨fun v w' => v = .bool (decide (x.late l i l[i])) ∧ hM.now w', ?_, ?_⟩
      · by_cases hi0 : 0 < i
        · have hi1 : ((i : Int) - 1).toNat = i - 1 := by omega
          have hprev : l.getD (i - 1) prp0 = l[((i : Int) - 1).toNat] := by
            rw [getD_at (by omega)]
            simp only [hi1]
          ((with_reducible (refine dp_cT trivial ?_ ?_)); (focus (first | assumption | omega | with_reducible rfl | exact fun h => Bool.noConfusion h)); (with_reducible (refine qguard_yes ?_; refine dp_c trivial ?_; refine qguard_yes ?_; refine dp_c trivial ?_; refine qguard_yes ?_; refine dp_c ?_ ?_)); (focus omega); (with_reducible (refine qguard_yes ?_)); (with_reducible refine dp_ixs ‹_› ?_ ?_ ?_); (focus (simp only [List.length_map]; omega)); (focus (simp only [List.length_map]; first | done | omega)); (with_reducible (intro _ _ hA)); (cases hA); (with_reducible (refine qguard_yes ?_)); (with_reducible refine dm_lds0 hM ‹_› (map_at ?_) ?_); (focus omega); (with_reducible (refine qguard_yes ?_; refine dm_ld hM ?_; refine mguard_yes ?_; refine dm_purC hM ?_ (fun _ _ hM => ?_))); (focus (first | exact trivial | assumption | omega)); (with_reducible (refine qguard_yes ?_; refine dp_c trivial ?_; refine dp_c trivial ?_)))
          by_cases c5' : l[((i : Int) - 1).toNat].lt l[i]
          case neg =>
            rw [decide_eq_false c5', Bool.not_false]
            ((with_reducible ((iterate 5 refine qguard_n1 ?_); refine dp_c trivial ?_; (iterate 5 refine qguard_n1 ?_); (iterate 5 refine qguard_un ?_); refine qguard_n1 ?_; refine dp_c trivial ?_; refine mm_end hM ?_; clear hM; intro _ hM)))
            exact ⟨by rw [decide_eq_true (show x.late l i l[i] from .inl ⟨hi0, by rw [hprev]; exact c5'⟩)], hM⟩
          rw [decide_eq_true c5', Bool.not_true]
          have c5 : ¬ (0 < i ∧ ¬ (l.getD (i - 1) prp0).lt l[i]) := fun c => c.2 (by rw [hprev]; exact c5')
          ((with_reducible (refine qguard_yes ?_; refine dp_c trivial ?_; refine qguard_yes ?_; refine dp_c trivial ?_; refine qguard_yes ?_; refine dp_c trivial ?_; refine qguard_yes ?_; refine dm_ld hM ?_; refine qguard_yes ?_)))
          refine dm_mplk hM ?_
          by_cases c6 : l[i].name ∈ (l.take i).map (·.name)
          · rw [decide_eq_true c6]
            ((with_reducible (refine dp_c trivial ?_; (iterate 5 refine qguard_n1 ?_); (iterate 5 refine qguard_un ?_); refine qguard_n1 ?_; refine dp_c trivial ?_; refine mm_end hM ?_; clear hM; intro _ hM)))
            exact ⟨by rw [decide_eq_true (show x.late l i l[i] from .inr (.inl c6))], hM⟩
          rw [decide_eq_false c6]
          ((with_reducible (refine dp_c trivial ?_; refine qguard_yes ?_; refine dp_c trivial ?_; refine qguard_yes ?_; refine dp_c trivial ?_; refine qguard_yes ?_; refine dm_ld hM ?_; refine qguard_yes ?_)))
          ((with_reducible (refine dp_cS trivial ?_ ?_)))
          · intro c7
            ((with_reducible (refine qguard_yes ?_; refine dp_c trivial ?_; refine qguard_yes ?_; refine dp_c trivial ?_; refine qguard_yes ?_; refine dp_c trivial ?_; refine qguard_yes ?_; refine dm_ld hM ?_; refine qguard_yes ?_; refine dp_c trivial ?_; refine qguard_yes ?_)))
            ((with_reducible (refine dp_cS trivial ?_ ?_)))
            · intro c8
              ((with_reducible (refine qguard_yes ?_; refine dp_c trivial ?_; refine dp_c trivial ?_; refine mm_end hM ?_; clear hM; intro _ hM)))
              exact ⟨by rw [decide_eq_true (show x.late l i l[i] from .inr (.inr ⟨c7, c8⟩))], hM⟩
            · intro c8
              ((with_reducible (refine qguard_yes ?_; refine dp_c trivial ?_; refine dp_c trivial ?_; refine mm_end hM ?_; clear hM; intro _ hM)))
              exact ⟨by rw [decide_eq_false (show ¬ x.late l i l[i] from fun c => c.elim c5 fun k => k.elim c6 fun k => c8 k.2)], hM⟩
          · intro c7
            ((with_reducible (refine qguard_yes ?_; refine dp_c trivial ?_; (iterate 5 refine qguard_n2 ?_); refine qguard_yes ?_; refine dp_c trivial ?_; refine dp_c trivial ?_; refine mm_end hM ?_; clear hM; intro _ hM)))
            exact ⟨by rw [decide_eq_false (show ¬ x.late l i l[i] from fun c => c.elim c5 fun k => k.elim c6 fun k => c7 k.1)], hM⟩
        · have c5 : ¬ (0 < i ∧ ¬ (l.getD (i - 1) prp0).lt l[i]) := fun c => hi0 c.1
          ((with_reducible (refine dp_cF trivial ?_ ?_)); (focus (first | assumption | omega | with_reducible rfl | exact fun h => Bool.noConfusion h)); (with_reducible ((iterate 6 refine qguard_n2 ?_); refine mguard_n2 ?_; refine qguard_n2 ?_; refine dp_c trivial ?_; refine qguard_yes ?_; refine dp_c trivial ?_; refine qguard_yes ?_; refine dp_c trivial ?_; refine qguard_yes ?_; refine dp_c trivial ?_; refine qguard_yes ?_; refine dm_ld hM ?_; refine qguard_yes ?_)))
          refine dm_mplk hM ?_
          by_cases c6 : l[i].name ∈ (l.take i).map (·.name)
          · rw [decide_eq_true c6]
            ((with_reducible (refine dp_c trivial ?_; (iterate 5 refine qguard_n1 ?_); (iterate 5 refine qguard_un ?_); refine qguard_n1 ?_; refine dp_c trivial ?_; refine mm_end hM (fun _ hM2 => ?_); replace hM := hM2; clear hM2)))
            exact ⟨by rw [decide_eq_true (show x.late l i l[i] from .inr (.inl c6))], hM⟩
          rw [decide_eq_false c6]
          ((with_reducible (refine dp_c trivial ?_; refine qguard_yes ?_; refine dp_c trivial ?_; refine qguard_yes ?_; refine dp_c trivial ?_; refine qguard_yes ?_; refine dm_ld hM ?_; refine qguard_yes ?_)))
          ((with_reducible (refine dp_cS trivial ?_ ?_)))
          · intro c7
            ((with_reducible (refine qguard_yes ?_; refine dp_c trivial ?_; refine qguard_yes ?_; refine dp_c trivial ?_; refine qguard_yes ?_; refine dp_c trivial ?_; refine qguard_yes ?_; refine dm_ld hM ?_; refine qguard_yes ?_; refine dp_c trivial ?_; refine qguard_yes ?_)))
            ((with_reducible (refine dp_cS trivial ?_ ?_)))
            · intro c8
              ((with_reducible (refine qguard_yes ?_; refine dp_c trivial ?_; refine dp_c trivial ?_; refine mm_end hM (fun _ hM2 => ?_); replace hM := hM2; clear hM2)))
              exact ⟨by rw [decide_eq_true (show x.late l i l[i] from .inr (.inr ⟨c7, c8⟩))], hM⟩
            · intro c8
              ((with_reducible (refine qguard_yes ?_; refine dp_c trivial ?_; refine dp_c trivial ?_; refine mm_end hM (fun _ hM2 => ?_); replace hM := hM2; clear hM2)))
              exact ⟨by rw [decide_eq_false (show ¬ x.late l i l[i] from fun c => c.elim c5 fun k => k.elim c6 fun k => c8 k.2)], hM⟩
          · intro c7
            ((with_reducible (refine qguard_yes ?_; refine dp_c trivial ?_; (iterate 5 refine qguard_n2 ?_); refine qguard_yes ?_; refine dp_c trivial ?_; refine dp_c trivial ?_; refine mm_end hM (fun _ hM2 => ?_); replace hM := hM2; clear hM2)))
            exact ⟨by rw [decide_eq_false (show ¬ x.late l i l[i] from fun c => c.elim c5 fun k => k.elim c6 fun k => c7 k.1)], hM⟩
      rintro v u3 w6 ⟨rfl, hM⟩
      by_cases c5 : x.late l i l[i]
      · rw [decide_eq_true c5]
        ((with_reducible (refine mif_true ?_)))
        exact ⟨by rw [herr 17 (by unfold Plc.one; rw [if_neg (fun c => c c1), if_neg c2, if_neg c3, hver, if_neg (fun c => c c4), if_pos c5]) (by decide)], hM.st⟩
      rw [decide_eq_false c5]
      ((with_reducible (refine mif_false ?_; refine mop_c trivial ?_; refine mop_c trivial ?_; refine mm_ld hM ?_)))
      refine mm_mpput hM (fun c => c5 (.inr (.inl c))) ?_
      clear hM
      intro w7 hM
      have hmt : (l.take i).map (·.name) ++ [l[i].name] = (l.take (i + 1)).map (·.name) := by rw [List.take_succ_eq_append_getElem hlt', List.map_append]; rfl
      rw [hmt] at hM
      have htail : x.one l i l[i] = if l[i].kind = 1 then (if 0 ≤ x.t.place l[i].name then 8 else (cardR x.ti x.roll l[i].name).2) else if 0 ≤ x.t.place l[i].name then 0 else 7 := by
        unfold Plc.one
        rw [if_neg (fun c => c c1), if_neg c2, if_neg c3, hver, if_neg (fun c => c c4), if_neg c5]
      ((with_reducible (refine mm_ld hM ?_; refine mop_c trivial ?_; refine mop_c trivial ?_; refine mm_ld hM ?_)))
      refine mm_pure hM (place_c2 l[i].name hR h hM.fz) (fun w hM => ?_)
      by_cases c8 : 0 ≤ x.t.place l[i].name
      · by_cases k1 : l[i].kind = 1
        · rw [if_pos k1, if_pos c8] at htail
          ((with_reducible (refine mop_cT trivial ?_ ?_)); (focus (first | assumption | omega | with_reducible rfl | exact fun h => Bool.noConfusion h)))
          refine ⟨fun v w' => v = .bool true ∧ hM.now w', ?_, ?_⟩
          · ((with_reducible (refine mop_c trivial ?_; refine mop_c trivial ?_; refine mm_ld hM ?_; refine mop_cT trivial ?_ ?_)); (focus (first | assumption | omega | with_reducible rfl | exact fun h => Bool.noConfusion h)); (with_reducible (refine mguard_yes ?_; refine mop_c trivial ?_; refine mop_c trivial ?_)))
            exact ⟨rfl, hM⟩
          rintro v u3 w8 ⟨rfl, hM⟩
          ((with_reducible (refine mif_true ?_)))
          exact ⟨by rw [herr 8 htail (by decide)], hM.st⟩
        · rw [if_neg k1, if_pos c8] at htail
          ((with_reducible (refine mop_cT trivial ?_ ?_)); (focus (first | assumption | omega | with_reducible rfl | exact fun h => Bool.noConfusion h)))
          refine ⟨fun v w' => v = .bool false ∧ hM.now w', ?_, ?_⟩
          · ((with_reducible (refine mop_c trivial ?_; refine mop_c trivial ?_; refine mm_ld hM ?_; refine mop_cF trivial ?_ ?_)); (focus (first | assumption | omega | with_reducible rfl | exact fun h => Bool.noConfusion h)); (with_reducible (refine mguard_n2 ?_; refine mop_c trivial ?_)))
            exact ⟨rfl, hM⟩
          rintro v u3 w8 ⟨rfl, hM⟩
          ((with_reducible (refine mif_false ?_; refine mop_c trivial ?_; refine mop_c trivial ?_; refine mm_ld hM ?_; refine mop_cF trivial ?_ ?_)); (focus (first | assumption | omega | with_reducible rfl | exact fun h => Bool.noConfusion h)); (with_reducible (refine mif_false ?_; refine mop_c trivial ?_; refine mif_false ?_)))
          exact ⟨htail, hM.sub⟩
      · by_cases k1 : l[i].kind = 1
        · rw [if_pos k1, if_neg c8] at htail
          ((with_reducible (refine mop_cF trivial ?_ ?_)); (focus (first | assumption | omega | with_reducible rfl | exact fun h => Bool.noConfusion h)))
          refine ⟨fun v w' => v = .bool false ∧ hM.now w', ?_, ?_⟩
          · ((with_reducible (refine mop_c trivial ?_; refine mop_c trivial ?_; refine mm_ld hM ?_; refine mop_cT trivial ?_ ?_)); (focus (first | assumption | omega | with_reducible rfl | exact fun h => Bool.noConfusion h)); (with_reducible (refine mguard_yes ?_; refine mop_c trivial ?_; refine mop_c trivial ?_)))
            exact ⟨rfl, hM⟩
          rintro v u3 w8 ⟨rfl, hM⟩
          ((with_reducible (refine mif_false ?_; refine mop_c trivial ?_; refine mop_c trivial ?_; refine mm_ld hM ?_; refine mop_cT trivial ?_ ?_)); (focus (first | assumption | omega | with_reducible rfl | exact fun h => Bool.noConfusion h)); (with_reducible (refine mif_true ?_; refine mm_ld hM ?_; refine mop_c trivial ?_; refine mop_c trivial ?_; refine mm_ld hM ?_)))
          refine mm_pure hM (card_ok x.ti x.roll l[i].name h1 h2 hrl hM.fz) (fun w hM => ?_)
          ((with_reducible (refine mop_c trivial ?_; refine mop_c trivial ?_; refine mm_new hM ?_; clear hM; intro _ _ hM; refine mm_st hM ?_; clear hM; intro _ hM)))
          ((with_reducible (refine mop_cS trivial ?_ ?_)))
          · intro c9
            ((with_reducible (refine mif_true ?_)))
            exact ⟨by rw [herr _ htail c9], hM.st⟩
          · intro c9
            ((with_reducible (refine mif_false ?_)))
            exact ⟨htail.trans (Decidable.of_not_not c9), hM.sub⟩
        · rw [if_neg k1, if_neg c8] at htail
          ((with_reducible (refine mop_cF trivial ?_ ?_)); (focus (first | assumption | omega | with_reducible rfl | exact fun h => Bool.noConfusion h)))
          refine ⟨fun v w' => v = .bool false ∧ hM.now w', ?_, ?_⟩
          · ((with_reducible (refine mop_c trivial ?_; refine mop_c trivial ?_; refine mm_ld hM ?_; refine mop_cF trivial ?_ ?_)); (focus (first | assumption | omega | with_reducible rfl | exact fun h => Bool.noConfusion h)); (with_reducible (refine mguard_n2 ?_; refine mop_c trivial ?_)))
            exact ⟨rfl, hM⟩
          rintro v u3 w8 ⟨rfl, hM⟩
          ((with_reducible (refine mif_false ?_; refine mop_c trivial ?_; refine mop_c trivial ?_; refine mm_ld hM ?_; refine mop_cF trivial ?_ ?_)); (focus (first | assumption | omega | with_reducible rfl | exact fun h => Bool.noConfusion h)); (with_reducible (refine mif_false ?_; refine mop_c trivial ?_; refine mif_true ?_)))
          exact ⟨by rw [herr 7 htail (by decide)], hM.st⟩
    clear hM
    rintro u5 w9 ⟨h0, hM⟩
    ((with_reducible (refine mop_c ?_ ?_)); (focus omega))
    refine ⟨⟨i + 1, rfl, by omega, fun j hji => ?_, hM⟩, by simp only; omega⟩
    rcases Nat.lt_or_ge j i with c | c
    · exact hj j c
    · obtain rfl : j = i := by omega
      rw [hone]
      exact h0
  · intro hge
    obtain rfl : i = l.length := by omega
    ((with_reducible (refine mif_false ?_; refine mm_ld hM ?_; refine mm_ld hM ?_)))
    obtain ⟨s, e, hse⟩ : ∃ s e, appR x.t x.ti x.roll l = (s, e) := ⟨_, _, rfl⟩
    have hfa : x.fit l = e := by
      rw [x.fit_app hr (by omega) hj]
      show (appR x.t x.ti x.roll l).2 = e
      rw [hse]
    refine mm_call hM (capply_ok x.t x.ti x.roll l (by omega) h h1 h2 hrl hs hM.fz) ?_
    rintro H2 v w5 le2 hM hQ
    obtain ⟨v1, F, fc, rfl, hT1, hs1⟩ := hQ s e hse
    clear hQ
    obtain ⟨C1, c1, D1, d1, q1, rfl, -⟩ := hT1.ex
    ((with_reducible ((iterate 4 refine mop_c trivial ?_); refine mm_new hM ?_; clear hM; intro _ _ hM; refine mm_new hM ?_; clear hM; intro _ _ hM; refine mm_st hM ?_; clear hM; intro _ hM; refine mm_st hM ?_; clear hM; intro _ hM)))
    exact ⟨by rw [hfa], hM.st⟩
end
end Go.Proofs.Ytopcnkejobomaaa
namespace Go.Proofs.Ytopcnkejobomaaa
open Go.RowKit Go.Lib
def inS (nm : Int) (b : Bool) (p : Chg.Prp) : Bool := if p.name = nm then (if p.kind = 1 then true else if p.kind = 3 then false else b) else b
def inF (x : Plc) (pre : List Chg.Prp) (nm : Int) : Bool := pre.foldl (inS nm) (decide (0 ≤ x.t.place nm))
def addsN (pre : List Chg.Prp) (nm : Int) : Nat := (pre.filter fun p => decide (p.name = nm ∧ p.kind = 1)).length
def wantF (x : Plc) (pre : List Chg.Prp) (nm : Int) : Int := timeAt x.ti nm + addsN pre nm
def addsA (pre : List Chg.Prp) : Nat := (pre.filter fun p => decide (p.kind = 1)).length
def addsTo (pre : List Chg.Prp) (k : Nat) : Nat := (pre.filter fun p => decide (p.name ≤ (k : Int) ∧ p.kind = 1)).length
theorem inF_snoc (x : Plc) (pre : List Chg.Prp) (p : Chg.Prp) (nm : Int) : inF x (pre ++ [p]) nm = inS nm (inF x pre nm) p := by
  unfold inF
  rw [List.foldl_append]
  rfl
theorem addsN_snoc (pre : List Chg.Prp) (p : Chg.Prp) (nm : Int) : addsN (pre ++ [p]) nm = addsN pre nm + if p.name = nm ∧ p.kind = 1 then 1 else 0 := by
  unfold addsN
  rw [List.filter_append, List.length_append]
  congr 1
  by_cases c : p.name = nm ∧ p.kind = 1 <;> simp [c]
theorem addsA_snoc (pre : List Chg.Prp) (p : Chg.Prp) : addsA (pre ++ [p]) = addsA pre + if p.kind = 1 then 1 else 0 := by
  unfold addsA
  rw [List.filter_append, List.length_append]
  congr 1
  by_cases c : p.kind = 1 <;> simp [c]
theorem addsN_none {pre : List Chg.Prp} {nm : Int} (h : nm ∉ pre.map (·.name)) : addsN pre nm = 0 := by
  unfold addsN
  rw [List.length_eq_zero_iff, List.filter_eq_nil_iff]
  intro p hp
  simp only [decide_eq_true_eq, not_and]
  intro e
  exact absurd (e ▸ List.mem_map_of_mem hp) h
theorem addsTo_zero {l : List Chg.Prp} (h : ∀ p ∈ l, 1 ≤ p.name) : addsTo l 0 = 0 := by
  unfold addsTo
  rw [List.length_eq_zero_iff, List.filter_eq_nil_iff]
  intro p hp
  have := h p hp
  simp only [decide_eq_true_eq, not_and]
  omega
theorem addsTo_succ (l : List Chg.Prp) (k : Nat) : addsTo l (k + 1) = addsTo l k + addsN l ((k : Int) + 1) := by
  unfold addsTo addsN
  induction l with
  | nil => rfl
  | cons p r ih =>
    simp only [List.filter_cons, decide_eq_true_eq]
    by_cases c1 : p.kind = 1
    · rcases Int.lt_trichotomy p.name ((k : Int) + 1) with c | c | c
      · rw [if_pos ⟨by omega, c1⟩, if_pos ⟨by omega, c1⟩, if_neg (by omega)]
        simp only [List.length_cons]
        omega
      · rw [if_pos ⟨by omega, c1⟩, if_neg (by omega), if_pos ⟨by omega, c1⟩]
        simp only [List.length_cons]
        omega
      · rw [if_neg (by omega), if_neg (by omega), if_neg (by omega)]
        exact ih
    · rw [if_neg (fun c => c1 c.2), if_neg (fun c => c1 c.2), if_neg (fun c => c1 c.2)]
      exact ih
theorem addsTo_all {l : List Chg.Prp} {k : Nat} (h : ∀ p ∈ l, p.name ≤ k) : addsTo l k = addsA l := by
  unfold addsTo addsA
  congr 1
  refine List.filter_congr fun p hp => ?_
  have := h p hp
  rw [decide_eq_decide]
  exact ⟨fun c => c.2, fun c => ⟨this, c⟩⟩
theorem timeAt_set {ti : Ti} {a nm v : Int} (ha : 1 ≤ a ∧ a ≤ 64) (hn : 1 ≤ nm ∧ nm ≤ 64) : timeAt (ti.set (a - 1).toNat v) nm = if nm = a then v else timeAt ti nm := by
  have hl : (nm - 1).toNat < ti.1.length := by rw [ti.2]; omega
  have hl2 : (nm - 1).toNat < (ti.1.set (a - 1).toNat v).length := by rw [List.length_set]; exact hl
  unfold timeAt Ti.set
  simp only
  rw [getD_at hl2, getD_at hl, List.getElem_set]
  by_cases c : nm = a
  · rw [if_pos c, if_pos (by rw [c])]
  · rw [if_neg c, if_neg (by omega)]
theorem cardR_same {ti ti' : Ti} {roll : List Pers} {nm : Int} (h : timeAt ti nm = timeAt ti' nm) : cardR ti roll nm = cardR ti' roll nm := by
  unfold cardR
  rw [h]
structure Plc.Inv (x : Plc) (pre : List Chg.Prp) (s : Ap) : Prop where
  rt : s.t.Rt
  has : ∀ nm, 1 ≤ nm → nm ≤ 64 → (0 ≤ s.t.place nm ↔ inF x pre nm = true)
  time : ∀ nm, 1 ≤ nm → nm ≤ 64 → timeAt s.ti nm = wantF x pre nm
  fr : s.fr.length = addsA pre
  add : ∀ p ∈ pre, p.kind = 1 → s.t.leaf p.name (cardR x.ti x.roll p.name).1.2
  upd : ∀ p ∈ pre, p.kind = 2 → s.t.leaf p.name p.pub
theorem Plc.inv0 {x : Plc} (h : x.t.Rt) : x.Inv [] ⟨x.t, x.ti, []⟩ :=
  ⟨h, fun nm _ _ => by simp [inF], fun nm _ _ => by simp [wantF, addsN], rfl, fun _ h => (by cases h), fun _ h => (by cases h)⟩
theorem Plc.Inv.step {x : Plc} {pre : List Chg.Prp} {s : Ap} {p : Chg.Prp} (h : x.Inv pre s) (hr : p.right) (hn : p.name ∉ pre.map (·.name)) (h0 : (s.step x.roll p).2 = 0) (hpre : ∀ q ∈ pre, q.right) : x.Inv (pre ++ [p]) (s.step x.roll p).1 := by
  have hnm := hr.2.2.1
  have hne : ∀ q ∈ pre, q.name ≠ p.name := fun q hq e => hn (e ▸ List.mem_map_of_mem hq)
  unfold Ap.step at h0 ⊢
  by_cases k2 : p.kind = 2
  · rw [if_pos k2] at h0 ⊢
    simp only at h0
    obtain ⟨hb, -⟩ := ren_parts h0
    have hp0 : 0 ≤ s.t.place p.name := Decidable.byContradiction fun c => hb (plc_out c)
    have hnp := plc_name hp0
    refine ⟨ren_rt h.rt _ _ h0, fun nm a b => ?_, fun nm a b => ?_, ?_, fun q hq hk => ?_, fun q hq hk => ?_⟩
    · simp only
      rw [ren_plc h0, h.has nm a b, inF_snoc]
      unfold inS
      rw [if_neg (show ¬ p.kind = 1 by omega), if_neg (show ¬ p.kind = 3 by omega), ite_self]
    · simp only
      rw [h.time nm a b]
      unfold wantF
      rw [addsN_snoc, if_neg (by omega)]
      rfl
    · simp only
      rw [addsA_snoc, if_neg (by omega)]
      exact h.fr
    · rcases List.mem_append.1 hq with hq | hq
      · exact ren_leaf h0 (by rw [hnp]; exact hne q hq) (h.add q hq hk)
      · rw [List.mem_singleton.1 hq] at hk
        omega
    · rcases List.mem_append.1 hq with hq | hq
      · exact ren_leaf h0 (by rw [hnp]; exact hne q hq) (h.upd q hq hk)
      · rw [List.mem_singleton.1 hq]
        have := ren_leaf_new h0
        rw [hnp] at this
        exact this
  rw [if_neg k2] at h0 ⊢
  by_cases k3 : p.kind = 3
  · rw [if_pos k3] at h0 ⊢
    simp only at h0
    obtain ⟨hb, -⟩ := rem_parts h0
    have hp0 : 0 ≤ s.t.place p.name := Decidable.byContradiction fun c => hb (plc_out c)
    have hnp := plc_name hp0
    refine ⟨rem_rt h.rt _ h0, fun nm a b => ?_, fun nm a b => ?_, ?_, fun q hq hk => ?_, fun q hq hk => ?_⟩
    · simp only
      rw [rem_plc h.rt h0, h.has nm a b, inF_snoc, hnp]
      unfold inS
      by_cases c : p.name = nm
      · rw [if_pos c, if_neg (show ¬ p.kind = 1 by omega), if_pos k3]
        exact ⟨fun k => absurd c.symm k.1, fun k => by cases k⟩
      · rw [if_neg c]
        exact ⟨fun k => k.2, fun k => ⟨fun e => c e.symm, k⟩⟩
    · simp only
      rw [h.time nm a b]
      unfold wantF
      rw [addsN_snoc, if_neg (by omega)]
      rfl
    · simp only
      rw [addsA_snoc, if_neg (by omega)]
      exact h.fr
    · rcases List.mem_append.1 hq with hq | hq
      · exact rem_leaf h0 (hpre q hq).2.2.1.1 (by rw [hnp]; exact hne q hq) (h.add q hq hk)
      · rw [List.mem_singleton.1 hq] at hk
        omega
    · rcases List.mem_append.1 hq with hq | hq
      · exact rem_leaf h0 (hpre q hq).2.2.1.1 (by rw [hnp]; exact hne q hq) (h.upd q hq hk)
      · rw [List.mem_singleton.1 hq] at hk
        omega
  rw [if_neg k3] at h0 ⊢
  by_cases k1 : p.kind = 1
  · rw [if_pos k1] at h0 ⊢
    have ht : timeAt s.ti p.name = timeAt x.ti p.name := by
      rw [h.time _ hnm.1 hnm.2]
      unfold wantF
      rw [addsN_none hn]
      simp
    rw [cardR_same ht] at h0 ⊢
    by_cases c1 : (cardR x.ti x.roll p.name).2 ≠ 0
    · rw [if_pos c1] at h0
      exact absurd h0 c1
    rw [if_neg c1] at h0 ⊢
    generalize hl : (⟨p.name, (cardR x.ti x.roll p.name).1.2, (persAt x.roll p.name).ver, hzero⟩ : Lf) = lf at h0 ⊢
    have hln : lf.name = p.name := by rw [← hl]
    have hlp : lf.pub = (cardR x.ti x.roll p.name).1.2 := by rw [← hl]
    simp only at h0 ⊢
    by_cases c2 : (s.t.addR lf).2.2 ≠ 0
    · rw [if_pos c2] at h0
      exact absurd h0 c2
    rw [if_neg c2]
    have c3 : (s.t.addR lf).2.2 = 0 := Decidable.of_not_not c2
    refine ⟨add_rt h.rt _ c3, fun nm a b => ?_, fun nm a b => ?_, ?_, fun q hq hk => ?_, fun q hq hk => ?_⟩
    · simp only
      rw [add_plc c3, h.has nm a b, inF_snoc, hln]
      unfold inS
      by_cases c : p.name = nm
      · rw [if_pos c, if_pos k1]
        exact ⟨fun _ => rfl, fun _ => .inl c.symm⟩
      · rw [if_neg c]
        exact ⟨fun k => k.resolve_left fun e => c e.symm, .inr⟩
    · simp only
      rw [timeAt_set hnm ⟨a, b⟩, ht]
      have h2 := h.time nm a b
      unfold wantF at h2 ⊢
      rw [addsN_snoc]
      by_cases c : nm = p.name
      · rw [if_pos c, if_pos ⟨c.symm, k1⟩, c, addsN_none hn]
        simp
      · rw [if_neg c, if_neg (fun k => c k.1.symm), h2]
        rfl
    · simp only
      rw [addsA_snoc, if_pos k1, List.length_append, h.fr]
      rfl
    · rcases List.mem_append.1 hq with hq | hq
      · exact add_leaf c3 (hpre q hq).2.2.1.1 (h.add q hq hk)
      · rw [List.mem_singleton.1 hq]
        have := add_leaf_new c3
        rw [hln, hlp] at this
        exact this
    · rcases List.mem_append.1 hq with hq | hq
      · exact add_leaf c3 (hpre q hq).2.2.1.1 (h.upd q hq hk)
      · rw [List.mem_singleton.1 hq] at hk
        omega
  · rw [if_neg k1] at h0
    cases h0
theorem Plc.Inv.run {x : Plc} : ∀ (rest pre : List Chg.Prp) (s : Ap), x.Inv pre s → (∀ i (hi : i < (pre ++ rest).length), (pre ++ rest)[i].right ∧ (pre ++ rest)[i].name ∉ ((pre ++ rest).take i).map (·.name)) → (s.run x.roll rest).2 = 0 → x.Inv (pre ++ rest) (s.run x.roll rest).1
  | [], pre, s, h, _, _ => by rw [List.append_nil]; exact h
  | p :: r, pre, s, h, hl, h0 => by
    unfold Ap.run at h0 ⊢
    by_cases c : (s.step x.roll p).2 ≠ 0
    · rw [if_pos c] at h0
      exact absurd h0 c
    rw [if_neg c] at h0 ⊢
    have h1 := hl pre.length (by simp)
    rw [List.take_left] at h1
    rw [List.getElem_append_right (Nat.le_refl _)] at h1
    simp only [Nat.sub_self, List.getElem_cons_zero] at h1
    have hpre : ∀ q ∈ pre, q.right := fun q hq => by
      obtain ⟨i, hi, rfl⟩ := List.getElem_of_mem hq
      have := (hl i (by simp; omega)).1
      rwa [List.getElem_append_left hi] at this
    have h2 := Plc.Inv.run r (pre ++ [p]) _ (h.step h1.1 h1.2 (Decidable.of_not_not c) hpre) (by simpa using hl) h0
    simpa using h2
theorem Plc.fit_inv {x : Plc} {l : List Chg.Prp} (h : x.fit l = 0) : x.Inv l (x.app l).1 := by
  obtain ⟨h1, h2, h3, h4⟩ := Plc.fit_parts h
  have hR := Tr.rt.1 h1
  unfold Plc.app at h4 ⊢
  rw [if_neg (fun c => c h1)] at h4 ⊢
  exact Plc.Inv.run l [] _ (Plc.inv0 hR) (fun i hi => ⟨(Plc.one_parts (h3 i hi)).1, (Plc.one_parts (h3 i hi)).2.1⟩) h4
end Go.Proofs.Ytopcnkejobomaaa
namespace Go.Proofs.Ytopcnkejobomaaa
open Go.RowKit Go.Lib
end Go.Proofs.Ytopcnkejobomaaa
