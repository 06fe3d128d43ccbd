/- SHA-256 in plain terms: words as integers below 2^32, the schedule, the rounds, a block, bytes one by one. No program is named here. -/
import Derived.Test.YtopcnkejobomaaaBase
import Derived.Test.YtopcnkejobomaaaF
import Derived.Test.YtopcnkejobomaaaRow
namespace Go.Proofs.Ytopcnkejobomaaa
open Go.RowKit

def M32 : Int := 4294967296
theorem bits_or_comm (a b : Int) : bits .or .u32 a b = bits .or .u32 b a := by
  show IntKind.u32.wrap ((BitVec.ofInt 32 a ||| BitVec.ofInt 32 b).toNat : Int) = IntKind.u32.wrap ((BitVec.ofInt 32 b ||| BitVec.ofInt 32 a).toNat : Int)
  rw [BitVec.or_comm]
theorem wrap_u32_bd (a : Int) : 0 ≤ IntKind.u32.wrap a ∧ IntKind.u32.wrap a < 4294967296 := by
  have : IntKind.u32.wrap a = a % 4294967296 := by simp [IntKind.wrap, IntKind.bits, IntKind.signed]
  rw [this]; omega
theorem wrap_u32_mod (a : Int) : IntKind.u32.wrap a = a % 4294967296 := by simp [IntKind.wrap, IntKind.bits, IntKind.signed]
/-- A word. -/
def Wd (x : Int) : Prop := 0 ≤ x ∧ x < 4294967296
theorem wd_xor (a b : Int) : Wd (bits .xor .u32 a b) := wrap_u32_bd _
theorem wd_or (a b : Int) : Wd (bits .or .u32 a b) := wrap_u32_bd _
theorem wd_and (a b : Int) : Wd (bits .and .u32 a b) := wrap_u32_bd _
theorem wd_mod (a : Int) : Wd (a % 4294967296) := ⟨by omega, by omega⟩
/-- Turned right by k. -/
def rotr (x : Int) (k : Nat) : Int := bits .or .u32 (x / 2 ^ k) (x * 2 ^ (32 - k) % 4294967296)
theorem wd_rotr (x : Int) (k : Nat) : Wd (rotr x k) := wd_or _ _
/-- Four bytes as a word. -/
def word4 (a b c d : Int) : Int := bits .or .u32 (bits .or .u32 (bits .or .u32 (a * 16777216 % 4294967296) (b * 65536 % 4294967296)) (c * 256 % 4294967296)) d
def sig0 (x : Int) : Int := bits .xor .u32 (bits .xor .u32 (rotr x 7) (rotr x 18)) (x / 8)
def sig1 (x : Int) : Int := bits .xor .u32 (bits .xor .u32 (rotr x 17) (rotr x 19)) (x / 1024)
/-- The next word of the schedule. -/
def nextw (a b x y : Int) : Int := (((a + b) % 4294967296 + sig0 x) % 4294967296 + sig1 y) % 4294967296
/-- The first i words of a block's schedule. -/
def wl (bs : List Int) : Nat → List Int
  | 0 => []
  | i + 1 => wl bs i ++ [if i < 16 then word4 (bs.getD (4 * i) 0) (bs.getD (4 * i + 1) 0) (bs.getD (4 * i + 2) 0) (bs.getD (4 * i + 3) 0)
      else nextw ((wl bs i).getD (i - 16) 0) ((wl bs i).getD (i - 7) 0) ((wl bs i).getD (i - 15) 0) ((wl bs i).getD (i - 2) 0)]
/-- The eight words. -/
structure S8 where
  a : Int
  b : Int
  c : Int
  d : Int
  e : Int
  f : Int
  g : Int
  h : Int
  deriving DecidableEq
def S8.t1 (s : S8) (k w : Int) : Int :=
  ((((s.h + bits .xor .u32 (bits .xor .u32 (rotr s.e 6) (rotr s.e 11)) (rotr s.e 25)) % 4294967296 + bits .xor .u32 (bits .and .u32 s.e s.f) (bits .and .u32 (bits .xor .u32 4294967295 s.e) s.g)) % 4294967296 + k) % 4294967296 + w) % 4294967296
def S8.t2 (s : S8) : Int :=
  (bits .xor .u32 (bits .xor .u32 (rotr s.a 2) (rotr s.a 13)) (rotr s.a 22) + bits .xor .u32 (bits .xor .u32 (bits .and .u32 s.a s.b) (bits .and .u32 s.a s.c)) (bits .and .u32 s.b s.c)) % 4294967296
def S8.rnd (s : S8) (k w : Int) : S8 := ⟨(s.t1 k w + s.t2) % 4294967296, s.a, s.b, s.c, (s.d + s.t1 k w) % 4294967296, s.e, s.f, s.g⟩
def kl : List Int := [1116352408, 1899447441, 3049323471, 3921009573, 961987163, 1508970993, 2453635748, 2870763221, 3624381080, 310598401, 607225278, 1426881987, 1925078388, 2162078206, 2614888103, 3248222580, 3835390401, 4022224774, 264347078, 604807628, 770255983, 1249150122, 1555081692, 1996064986, 2554220882, 2821834349, 2952996808, 3210313671, 3336571891, 3584528711, 113926993, 338241895, 666307205, 773529912, 1294757372, 1396182291, 1695183700, 1986661051, 2177026350, 2456956037, 2730485921, 2820302411, 3259730800, 3345764771, 3516065817, 3600352804, 4094571909, 275423344, 430227734, 506948616, 659060556, 883997877, 958139571, 1322822218, 1537002063, 1747873779, 1955562222, 2024104815, 2227730452, 2361852424, 2428436474, 2756734187, 3204031479, 3329325298]
def rl (ws : List Int) : Nat → S8 → S8
  | 0, s => s
  | i + 1, s => (rl ws i s).rnd (kl.getD i 0) (ws.getD i 0)
def S8.add (s t : S8) : S8 := ⟨(s.a + t.a) % 4294967296, (s.b + t.b) % 4294967296, (s.c + t.c) % 4294967296, (s.d + t.d) % 4294967296, (s.e + t.e) % 4294967296, (s.f + t.f) % 4294967296, (s.g + t.g) % 4294967296, (s.h + t.h) % 4294967296⟩
/-- A block of 64 bytes. -/
def compress (s : S8) (bs : List Int) : S8 := s.add (rl (wl bs 64) 64 s)
def h0 : S8 := ⟨1779033703, 3144134277, 1013904242, 2773480762, 1359893119, 2600822924, 528734635, 1541459225⟩
/-- Bytes taken in one by one: the words, and what does not fill a block yet. -/
def feed (x : S8 × List Int) (b : Int) : S8 × List Int := if x.2.length = 63 then (compress x.1 (x.2 ++ [b]), []) else (x.1, x.2 ++ [b])
end Go.Proofs.Ytopcnkejobomaaa
/- The walks of the turns: bits.RotateLeft32 at the program's own counts, and the reference's turned and word. -/
namespace Go.Proofs.Ytopcnkejobomaaa
@[simp] theorem kd_lit (n : Nat) : (OfNat.ofNat n : Kd) = Kd.ty n := rfl
theorem rot_k (x : Int) (k : Int) (c : Nat) (w : World) (h : Wd x) (hc : 0 < c ∧ c < 32) (hk : bits .and .u64 (k % 18446744073709551616) 31 = ((32 - c : Nat) : Int)) :
    Calls Try.prog 151 #[.int .u32 x, .int .i64 k] w fun e w' => e = .returned (.int .u32 (rotr x c)) ∧ w = w' := by
  obtain ⟨h0, h1⟩ := h
  refine C_math_bits_RotateLeft32 ?_
  unfold F_math_bits_RotateLeft32
  refine mop_c trivial ?_
  refine mop_c trivial ?_
  rw [hk]
  (repeat (first | (refine mop_c ?_ ?_; first | exact trivial | omega) | (refine dp_c ?_ ?_; first | exact trivial | omega)))
  refine ⟨?_, rfl⟩
  have e1 : ((32 - c : Nat) : Int).toNat = 32 - c := by omega
  have e2 : ((32 - ((32 - c : Nat) : Int)) % 18446744073709551616).toNat = c := by omega
  rw [e1, e2, bits_or_comm]
  rfl
theorem turned_k (x : Int) (c : Nat) (w : World) (h : Wd x) (hc : 0 < c ∧ c < 32) :
    Calls Try.prog 101 #[.int .u32 x, .int .u64 (c : Int)] w fun e w' => e = .returned (.int .u32 (rotr x c)) ∧ w = w' := by
  obtain ⟨h0, h1⟩ := h
  refine C_bevyref02_turned ?_
  unfold F_bevyref02_turned
  (repeat (first | (refine mop_c ?_ ?_; first | exact trivial | omega) | (refine dp_c ?_ ?_; first | exact trivial | omega)))
  refine ⟨?_, rfl⟩
  have e1 : ((c : Nat) : Int).toNat = c := by omega
  have e2 : ((32 - (c : Int)) % 18446744073709551616).toNat = 32 - c := by omega
  rw [e1, e2]
  rfl
end Go.Proofs.Ytopcnkejobomaaa
/- Where the program's running digest lies in memory, and its turn: one block. -/
namespace Go.Proofs.Ytopcnkejobomaaa
open Go.RowKit

theorem wl_len (bs : List Int) : ∀ i, (wl bs i).length = i
  | 0 => rfl
  | i + 1 => by rw [wl, List.length_append, wl_len bs i]; rfl
theorem wl_old (bs : List Int) (i j : Nat) (h : j < i) : (wl bs (i + 1)).getD j 0 = (wl bs i).getD j 0 := by
  rw [wl, List.getD_eq_getElem?_getD, List.getElem?_append_left (by rw [wl_len]; exact h)]
  rfl
theorem wl_new (bs : List Int) (i : Nat) : (wl bs (i + 1)).getD i 0 = if i < 16 then word4 (bs.getD (4 * i) 0) (bs.getD (4 * i + 1) 0) (bs.getD (4 * i + 2) 0) (bs.getD (4 * i + 3) 0)
      else nextw ((wl bs i).getD (i - 16) 0) ((wl bs i).getD (i - 7) 0) ((wl bs i).getD (i - 15) 0) ((wl bs i).getD (i - 2) 0) := by
  conv => lhs; rw [wl]
  rw [List.getD_eq_getElem?_getD, List.getElem?_append_right (by rw [wl_len]; exact Nat.le_refl _), wl_len, Nat.sub_self]
  rfl
theorem wl_wd (bs : List Int) : ∀ i j, Wd ((wl bs i).getD j 0)
  | 0, j => by simp [wl, Wd]
  | i + 1, j => by
    rcases Nat.lt_trichotomy j i with h | h | h
    · rw [wl_old bs i j h]; exact wl_wd bs i j
    · subst h
      rw [wl_new]
      split
      · exact wd_or _ _
      · exact wd_mod _
    · rw [List.getD_eq_getElem?_getD, List.getElem?_eq_none (by rw [wl_len]; omega)]
      simp [Wd]
/-- The cells of the running digest: eight words, the block, the count, the constants. -/
def stCells (hs bl : List Int) (n : Int) : List Value := u32s hs ++ (u8s bl ++ (Value.int .i64 n :: u32s kl))
theorem kl_len : kl.length = 64 := by decide
section
variable {hs bl : List Int} {n : Int}
theorem st_len (hh : hs.length = 8) (hb : bl.length = 64) : (stCells hs bl n).length = 137 := by
  simp [stCells, u32s, u8s, hh, hb, kl_len]
theorem st_h (hh : hs.length = 8) (i : Nat) (hi : i < 8) : (stCells hs bl n)[i]? = some (.int .u32 (hs.getD i 0)) := by
  rw [stCells, List.getElem?_append_left (by simp [u32s]; omega), u32s_at _ _ (by omega)]
theorem st_b (hh : hs.length = 8) (hb : bl.length = 64) (i : Nat) (hi : i < 64) : (stCells hs bl n)[8 + i]? = some (.int .u8 (bl.getD i 0)) := by
  rw [stCells, List.getElem?_append_right (by simp [u32s]; omega), List.getElem?_append_left (by simp [u32s, u8s]; omega)]
  rw [show 8 + i - (u32s hs).length = i by simp [u32s]; omega, u8s_at _ _ (by omega)]
theorem st_n (hh : hs.length = 8) (hb : bl.length = 64) : (stCells hs bl n)[72]? = some (.int .i64 n) := by
  rw [stCells, List.getElem?_append_right (by simp [u32s]; omega), List.getElem?_append_right (by simp [u32s, u8s]; omega)]
  rw [show 72 - (u32s hs).length - (u8s bl).length = 0 by simp [u32s, u8s]; omega]
  rfl
theorem st_k (hh : hs.length = 8) (hb : bl.length = 64) (i : Nat) (hi : i < 64) : (stCells hs bl n)[73 + i]? = some (.int .u32 (kl.getD i 0)) := by
  rw [stCells, List.getElem?_append_right (by simp [u32s]; omega), List.getElem?_append_right (by simp [u32s, u8s]; omega)]
  rw [show 73 + i - (u32s hs).length - (u8s bl).length = i + 1 by simp [u32s, u8s]; omega, List.getElem?_cons_succ, u32s_at _ _ (by rw [kl_len]; exact hi)]
theorem st_set_h (hh : hs.length = 8) (i : Nat) (hi : i < 8) (v : Int) : (stCells hs bl n).set i (.int .u32 v) = stCells (hs.set i v) bl n := by
  rw [stCells, stCells, List.set_append, if_pos (by simp [u32s]; omega)]
  simp [u32s, List.map_set]
theorem st_set_n (hh : hs.length = 8) (hb : bl.length = 64) (v : Int) : (stCells hs bl n).set 72 (.int .i64 v) = stCells hs bl v := by
  rw [stCells, stCells, List.set_append, if_neg (by simp [u32s]; omega), List.set_append, if_neg (by simp [u32s, u8s]; omega)]
  rw [show 72 - (u32s hs).length - (u8s bl).length = 0 by simp [u32s, u8s]; omega]
  rfl
end
theorem getD_bd (l : List Int) (i : Nat) (h : ∀ x ∈ l, 0 ≤ x ∧ x < 256) : 0 ≤ l.getD i 0 ∧ l.getD i 0 < 256 := by
  rw [List.getD_eq_getElem?_getD]
  cases hx : l[i]? with
  | none => simp
  | some x => exact h x (List.mem_of_getElem? hx)
theorem getD_wd (l : List Int) (i : Nat) (h : ∀ x ∈ l, Wd x) : Wd (l.getD i 0) := by
  rw [List.getD_eq_getElem?_getD]
  cases hx : l[i]? with
  | none => simp [Wd]
  | some x => exact h x (List.mem_of_getElem? hx)
/-- The first k words of the schedule, and noughts. -/
def wk (bl : List Int) (k : Nat) : List Int := wl bl k ++ List.replicate (64 - k) 0
theorem wk_len (bl : List Int) (k : Nat) (h : k ≤ 64) : (wk bl k).length = 64 := by simp [wk, wl_len]; omega
theorem wk_at (bl : List Int) (k j : Nat) (h : j < k) : (u32s (wk bl k))[j]? = some (.int .u32 ((wl bl k).getD j 0)) := by
  rw [u32s_at _ _ (by simp [wk, wl_len]; omega), wk]
  congr 2
  rw [List.getD_eq_getElem?_getD, List.getElem?_append_left (by rw [wl_len]; exact h)]
  rfl
theorem wk_set (bl : List Int) (k : Nat) (h : k < 64) (v : Int) (hv : (wl bl (k + 1)).getD k 0 = v) : (u32s (wk bl k)).set k (.int .u32 v) = u32s (wk bl (k + 1)) := by
  have e : wl bl (k + 1) = wl bl k ++ [v] := by
    rw [wl]
    rw [wl_new] at hv
    rw [hv]
  unfold u32s wk
  rw [← List.map_set, List.set_append, if_neg (by rw [wl_len]; omega), wl_len, Nat.sub_self, e, List.append_assoc]
  congr 2
  rw [show 64 - k = (64 - (k + 1)) + 1 by omega, List.replicate_succ]
  rfl
def s8 (hs : List Int) : S8 := ⟨hs.getD 0 0, hs.getD 1 0, hs.getD 2 0, hs.getD 3 0, hs.getD 4 0, hs.getD 5 0, hs.getD 6 0, hs.getD 7 0⟩
def S8.list (s : S8) : List Int := [s.a, s.b, s.c, s.d, s.e, s.f, s.g, s.h]
structure S8.Ok (s : S8) : Prop where
  a : Wd s.a
  b : Wd s.b
  c : Wd s.c
  d : Wd s.d
  e : Wd s.e
  f : Wd s.f
  g : Wd s.g
  h : Wd s.h
theorem rl_ok (ws : List Int) {s : S8} (h : s.Ok) : ∀ i, (rl ws i s).Ok
  | 0 => h
  | i + 1 => by
    have h := rl_ok ws h i
    exact ⟨wd_mod _, h.a, h.b, h.c, wd_mod _, h.e, h.f, h.g⟩
/-- The words behind i of the last additions. -/
def addK (hs ts : List Int) : Nat → List Int
  | 0 => hs
  | i + 1 => (addK hs ts i).set i ((hs.getD i 0 + ts.getD i 0) % 4294967296)
theorem addK_len (hs ts : List Int) : ∀ i, (addK hs ts i).length = hs.length
  | 0 => rfl
  | i + 1 => by rw [addK, List.length_set, addK_len hs ts i]
theorem addK_at (hs ts : List Int) : ∀ i j, i ≤ j → (addK hs ts i).getD j 0 = hs.getD j 0
  | 0, j, _ => rfl
  | i + 1, j, h => by
    rw [addK, List.getD_eq_getElem?_getD, List.getElem?_set_ne (by omega), ← List.getD_eq_getElem?_getD]
    exact addK_at hs ts i j (by omega)
theorem addK_end (hs : List Int) (s : S8) (hh : hs.length = 8) : addK hs s.list 8 = ((s8 hs).add s).list := by
  match hs, hh with
  | [a, b, c, d, e, f, g, h], _ => rfl
theorem build8 (a b c d e f g h : Int) : Pur Try.prog (o_build 140 [(0, .int .u32 a), (1, .int .u32 b), (2, .int .u32 c), (3, .int .u32 d), (4, .int .u32 e), (5, .int .u32 f), (6, .int .u32 g), (7, .int .u32 h)])
  (.agg (u32s [a, b, c, d, e, f, g, h]).toArray) := fun w => by kernel_rfl

set_option maxRecDepth 100000 in
set_option maxHeartbeats 2000000 in
theorem turn_ok (b : Nat) (hs bl : List Int) (n : Int) (w : World) (hb : Blf w b 145 (stCells hs bl n)) (hh : hs.length = 8) (hbl : bl.length = 64) (hby : ∀ x ∈ bl, 0 ≤ x ∧ x < 256) (hhw : ∀ x ∈ hs, Wd x) :
    Calls Try.prog 127 #[.pointer (some ⟨b, 0, none⟩)] w fun e w' => e = .returned (.tuple #[]) ∧ St w [⟨b, 145, stCells (compress (s8 hs) bl).list bl n, false⟩] w' := by
  refine C_sha_state_turn ?_
  unfold F_sha_state_turn
  refine mop_new (St.oneF hb) (fun g w1 h1 => ?_)
  refine ⟨fun x w2 => ∃ k : Nat, k ≤ 16 ∧ x = .int .i64 k ∧ St w [⟨g, 141, u32s (wk bl k), true⟩, ⟨b, 145, stCells hs bl n, false⟩] w2, fun x _ => 16 - (intOf x).toNat, ⟨0, by omega, rfl, h1⟩, ?_⟩
  rintro x21 u w2 ⟨k, hk, rfl, h2⟩
  refine mop_c trivial ?_
  refine mif_dec (fun hlt => ?_) (fun hge => ?_)
  · have q0 := getD_bd bl (4 * k) hby
    have q1 := getD_bd bl (4 * k + 1) hby
    have q2 := getD_bd bl (4 * k + 2) hby
    have q3 := getD_bd bl (4 * k + 3) hby
    (repeat (first | (refine mop_c ?_ ?_; first | exact trivial | omega) | (refine dp_c ?_ ?_; first | exact trivial | omega)))
    refine dq_ld ((h2.cell 1 rfl (8 + 4 * k)).trans (st_b hh hbl (4 * k) (by omega))) (by omega) ?_
    (repeat (first | (refine mop_c ?_ ?_; first | exact trivial | omega) | (refine dp_c ?_ ?_; first | exact trivial | omega)))
    refine dq_ld ((h2.cell 1 rfl (8 + (4 * k + 1))).trans (st_b hh hbl (4 * k + 1) (by omega))) (by omega) ?_
    (repeat (first | (refine mop_c ?_ ?_; first | exact trivial | omega) | (refine dp_c ?_ ?_; first | exact trivial | omega)))
    refine dq_ld ((h2.cell 1 rfl (8 + (4 * k + 2))).trans (st_b hh hbl (4 * k + 2) (by omega))) (by omega) ?_
    (repeat (first | (refine mop_c ?_ ?_; first | exact trivial | omega) | (refine dp_c ?_ ?_; first | exact trivial | omega)))
    refine dq_ld ((h2.cell 1 rfl (8 + (4 * k + 3))).trans (st_b hh hbl (4 * k + 3) (by omega))) (by omega) ?_
    (repeat (first | (refine mop_c ?_ ?_; first | exact trivial | omega) | (refine dp_c ?_ ?_; first | exact trivial | omega)))
    refine df_st (j := k) h2 (by omega) (by simp [u32s, wk_len bl k (by omega)]; omega) rfl (fun w3 h3 => ?_)
    refine dend_intro fun w4 hd => ?_
    have h4 := h3.drawn hd
    (repeat (first | (refine mop_c ?_ ?_; first | exact trivial | omega) | (refine dp_c ?_ ?_; first | exact trivial | omega)))
    refine ⟨⟨k + 1, by omega, rfl, ?_⟩, by simp [intOf]; omega⟩
    rw [wk_set bl k (by omega)] at h4
    · exact h4
    · rw [wl_new, if_pos (by omega)]
      rfl
  · obtain rfl : k = 16 := by omega
    refine ⟨fun x w2 => ∃ k : Nat, 16 ≤ k ∧ k ≤ 64 ∧ x = .int .i64 k ∧ St w [⟨g, 141, u32s (wk bl k), true⟩, ⟨b, 145, stCells hs bl n, false⟩] w2, fun x _ => 64 - (intOf x).toNat, ⟨16, by omega, by omega, rfl, h2⟩, ?_⟩
    clear h1 h2
    rintro x5 u2 w3 ⟨k, hk0, hk, rfl, h3⟩
    refine mop_c trivial ?_
    refine mif_dec (fun hlt => ?_) (fun hge => ?_)
    · have d15 := wl_wd bl k (k - 15)
      have d2 := wl_wd bl k (k - 2)
      (repeat (first | (refine mop_c ?_ ?_; first | exact trivial | omega) | (refine dp_c ?_ ?_; first | exact trivial | omega)))
      refine dq_ld ((h3.cell 0 rfl (k - 15)).trans (wk_at bl k (k - 15) (by omega))) (by omega) ?_
      (repeat (first | (refine mop_c ?_ ?_; first | exact trivial | omega) | (refine dp_c ?_ ?_; first | exact trivial | omega)))
      refine dq_ld ((h3.cell 0 rfl (k - 2)).trans (wk_at bl k (k - 2) (by omega))) (by omega) ?_
      refine dend_intro fun w4 hd => ?_
      have h4 := h3.drawn hd
      (repeat (first | (refine mop_c ?_ ?_; first | exact trivial | omega) | (refine dp_c ?_ ?_; first | exact trivial | omega)))
      refine dq_ld ((h4.cell 0 rfl (k - 16)).trans (wk_at bl k (k - 16) (by omega))) (by omega) ?_
      (repeat (first | (refine mop_c ?_ ?_; first | exact trivial | omega) | (refine dp_c ?_ ?_; first | exact trivial | omega)))
      refine dq_ld ((h4.cell 0 rfl (k - 7)).trans (wk_at bl k (k - 7) (by omega))) (by omega) ?_
      (repeat (first | (refine mop_c ?_ ?_; first | exact trivial | omega) | (refine dp_c ?_ ?_; first | exact trivial | omega)))
      refine df_eq (fun w => rot_k _ (-7) 7 w d15 (by decide) (by decide)) fun w5 hd5 => ?_
      refine df_eq (fun w => rot_k _ (-18) 18 w d15 (by decide) (by decide)) fun w6 hd6 => ?_
      (repeat (first | (refine mop_c ?_ ?_; first | exact trivial | omega) | (refine dp_c ?_ ?_; first | exact trivial | omega)))
      refine df_eq (fun w => rot_k _ (-17) 17 w d2 (by decide) (by decide)) fun w7 hd7 => ?_
      refine df_eq (fun w => rot_k _ (-19) 19 w d2 (by decide) (by decide)) fun w8 hd8 => ?_
      (repeat (first | (refine mop_c ?_ ?_; first | exact trivial | omega) | (refine dp_c ?_ ?_; first | exact trivial | omega)))
      have h8 := h4.drawn (((hd5.trans hd6).trans hd7).trans hd8)
      refine df_st (j := k) h8 (by omega) (by simp [u32s, wk_len bl k hk]; omega) rfl (fun w9 h9 => ?_)
      refine dend_intro fun w10 hd10 => ?_
      have h10 := h9.drawn hd10
      (repeat (first | (refine mop_c ?_ ?_; first | exact trivial | omega) | (refine dp_c ?_ ?_; first | exact trivial | omega)))
      refine ⟨⟨k + 1, by omega, by omega, rfl, ?_⟩, by simp [intOf]; omega⟩
      rw [wk_set bl k (by omega)] at h10
      · exact h10
      · rw [wl_new, if_neg (by omega)]
        rfl
    · obtain rfl : k = 64 := by omega
      have hw : wk bl 64 = wl bl 64 := by simp [wk]
      have hWl : (wl bl 64).length = 64 := wl_len bl 64
      have hcomp : compress (s8 hs) bl = (s8 hs).add (rl (wl bl 64) 64 (s8 hs)) := rfl
      rw [hw] at h3
      rw [hcomp]
      clear hw hcomp
      generalize wl bl 64 = W at h3 hWl ⊢
      (repeat (first | (refine mop_c ?_ ?_; first | exact trivial | omega) | (refine dp_c ?_ ?_; first | exact trivial | omega)))
      refine dq_ld ((h3.cell 1 rfl 0).trans (st_h hh 0 (by omega))) rfl ?_
      (repeat (first | (refine mop_c ?_ ?_; first | exact trivial | omega) | (refine dp_c ?_ ?_; first | exact trivial | omega)))
      refine dq_ld ((h3.cell 1 rfl 1).trans (st_h hh 1 (by omega))) rfl ?_
      (repeat (first | (refine mop_c ?_ ?_; first | exact trivial | omega) | (refine dp_c ?_ ?_; first | exact trivial | omega)))
      refine dq_ld ((h3.cell 1 rfl 2).trans (st_h hh 2 (by omega))) rfl ?_
      (repeat (first | (refine mop_c ?_ ?_; first | exact trivial | omega) | (refine dp_c ?_ ?_; first | exact trivial | omega)))
      refine dq_ld ((h3.cell 1 rfl 3).trans (st_h hh 3 (by omega))) rfl ?_
      (repeat (first | (refine mop_c ?_ ?_; first | exact trivial | omega) | (refine dp_c ?_ ?_; first | exact trivial | omega)))
      refine dq_ld ((h3.cell 1 rfl 4).trans (st_h hh 4 (by omega))) rfl ?_
      (repeat (first | (refine mop_c ?_ ?_; first | exact trivial | omega) | (refine dp_c ?_ ?_; first | exact trivial | omega)))
      refine dq_ld ((h3.cell 1 rfl 5).trans (st_h hh 5 (by omega))) rfl ?_
      (repeat (first | (refine mop_c ?_ ?_; first | exact trivial | omega) | (refine dp_c ?_ ?_; first | exact trivial | omega)))
      refine dq_ld ((h3.cell 1 rfl 6).trans (st_h hh 6 (by omega))) rfl ?_
      (repeat (first | (refine mop_c ?_ ?_; first | exact trivial | omega) | (refine dp_c ?_ ?_; first | exact trivial | omega)))
      refine dq_ld ((h3.cell 1 rfl 7).trans (st_h hh 7 (by omega))) rfl ?_
      refine dend_intro fun w4 hd => ?_
      have h4 := h3.drawn hd
      clear h3
      have hok : (s8 hs).Ok := ⟨getD_wd _ _ hhw, getD_wd _ _ hhw, getD_wd _ _ hhw, getD_wd _ _ hhw, getD_wd _ _ hhw, getD_wd _ _ hhw, getD_wd _ _ hhw, getD_wd _ _ hhw⟩
      refine ⟨fun xa xb xc xd xe xf xg xh x w2 => ∃ i : Nat, i ≤ 64 ∧ x = .int .i64 i ∧ xa = .int .u32 (rl W i (s8 hs)).a ∧ xb = .int .u32 (rl W i (s8 hs)).b ∧ xc = .int .u32 (rl W i (s8 hs)).c ∧ xd = .int .u32 (rl W i (s8 hs)).d ∧
          xe = .int .u32 (rl W i (s8 hs)).e ∧ xf = .int .u32 (rl W i (s8 hs)).f ∧ xg = .int .u32 (rl W i (s8 hs)).g ∧ xh = .int .u32 (rl W i (s8 hs)).h ∧
          St w [⟨g, 141, u32s W, true⟩, ⟨b, 145, stCells hs bl n, false⟩] w2, fun _ _ _ _ _ _ _ _ x _ => 64 - (intOf x).toNat, ⟨0, by omega, rfl, rfl, rfl, rfl, rfl, rfl, rfl, rfl, rfl, h4⟩, ?_⟩
      clear h4 hd
      rintro xa xb xc xd xe xf xg xh x u3 w5 ⟨i, hi, rfl, rfl, rfl, rfl, rfl, rfl, rfl, rfl, rfl, h5⟩
      have hr := rl_ok W hok i
      have hrs : rl W (i + 1) (s8 hs) = (rl W i (s8 hs)).rnd (kl.getD i 0) (W.getD i 0) := rfl
      obtain ⟨s', hs'⟩ : ∃ s', s' = rl W (i + 1) (s8 hs) := ⟨_, rfl⟩
      obtain ⟨s, hs64⟩ : ∃ s, rl W i (s8 hs) = s := ⟨_, rfl⟩
      rw [← hs'] at hrs
      rw [hs64] at hr hrs
      rw [hs64]
      refine mop_c trivial ?_
      refine mif_dec (fun hlt => ?_) (fun hge => ?_)
      · refine df_eq (fun w => rot_k _ (-6) 6 w hr.e (by decide) (by decide)) fun w6 hd6 => ?_
        refine df_eq (fun w => rot_k _ (-11) 11 w hr.e (by decide) (by decide)) fun w7 hd7 => ?_
        (repeat (first | (refine mop_c ?_ ?_; first | exact trivial | omega) | (refine dp_c ?_ ?_; first | exact trivial | omega)))
        refine df_eq (fun w => rot_k _ (-25) 25 w hr.e (by decide) (by decide)) fun w8 hd8 => ?_
        (repeat (first | (refine mop_c ?_ ?_; first | exact trivial | omega) | (refine dp_c ?_ ?_; first | exact trivial | omega)))
        refine dq_ld ((h5.cell 1 rfl (73 + i)).trans (st_k hh hbl i (by omega))) (by omega) ?_
        (repeat (first | (refine mop_c ?_ ?_; first | exact trivial | omega) | (refine dp_c ?_ ?_; first | exact trivial | omega)))
        refine dq_ld ((h5.cell 0 rfl i).trans (u32s_at W i (by omega))) (by omega) ?_
        (repeat (first | (refine mop_c ?_ ?_; first | exact trivial | omega) | (refine dp_c ?_ ?_; first | exact trivial | omega)))
        refine dend_intro fun w9 hd9 => ?_
        have h9 := h5.drawn (((hd6.trans hd7).trans hd8).trans hd9)
        refine mop_eq (rot_k _ (-2) 2 _ hr.a (by decide) (by decide)) ?_
        refine mop_eq (rot_k _ (-13) 13 _ hr.a (by decide) (by decide)) ?_
        (repeat (first | (refine mop_c ?_ ?_; first | exact trivial | omega) | (refine dp_c ?_ ?_; first | exact trivial | omega)))
        refine mop_eq (rot_k _ (-22) 22 _ hr.a (by decide) (by decide)) ?_
        (repeat (first | (refine mop_c ?_ ?_; first | exact trivial | omega) | (refine dp_c ?_ ?_; first | exact trivial | omega)))
        refine ⟨⟨i + 1, by omega, rfl, ?_, ?_, ?_, ?_, ?_, ?_, ?_, ?_, h9⟩, by simp [intOf]; omega⟩
        all_goals (rw [← hs', hrs]; rfl)
      · obtain rfl : i = 64 := by omega
        refine mop_pur (build8 _ _ _ _ _ _ _ _) ?_
        have hrs : rl W 64 (s8 hs) = s := hs64
        refine ⟨fun x w2 => ∃ i : Nat, i ≤ 8 ∧ x = .int .i64 i ∧ St w [⟨b, 145, stCells (addK hs s.list i) bl n, false⟩, ⟨g, 141, u32s W, true⟩] w2, fun x _ => 8 - (intOf x).toNat, ⟨0, by omega, rfl, h5.swap⟩, ?_⟩
        clear h5
        rintro x u4 w6 ⟨i, hi, rfl, h6⟩
        refine mop_c trivial ?_
        refine mif_dec (fun hlt => ?_) (fun hge => ?_)
        · refine mop_pur (p_index_array _ 139 8 _ _ _ (.int .u32 (s.list.getD i 0)) (by kernel_rfl) (by kernel_rfl) (by omega) (by omega) ?_) ?_
          · have := u32s_at s.list i (by simp [S8.list]; omega)
            have e : ((i : Nat) : Int).toNat = i := by omega
            rw [e, List.getElem?_toArray]
            exact this
          have hal := addK_len hs s.list i
          (repeat (first | (refine mop_c ?_ ?_; first | exact trivial | omega) | (refine dp_c ?_ ?_; first | exact trivial | omega)))
          refine dq_ld ((h6.cell 0 rfl i).trans (st_h (by omega) i (by omega))) (by omega) ?_
          (repeat (first | (refine mop_c ?_ ?_; first | exact trivial | omega) | (refine dp_c ?_ ?_; first | exact trivial | omega)))
          refine df_st (j := i) h6 (by omega) (by rw [st_len (by omega) hbl]; omega) rfl (fun w7 h7 => ?_)
          refine dend_intro fun w8 hd8 => ?_
          have h8 := h7.drawn hd8
          (repeat (first | (refine mop_c ?_ ?_; first | exact trivial | omega) | (refine dp_c ?_ ?_; first | exact trivial | omega)))
          refine ⟨⟨i + 1, by omega, rfl, ?_⟩, by simp [intOf]; omega⟩
          rw [st_set_h (by omega) i (by omega), addK_at hs s.list i i (Nat.le_refl i)] at h8
          exact h8
        · obtain rfl : i = 8 := by omega
          refine ⟨rfl, ?_⟩
          rw [hrs, ← addK_end hs s hh]
          exact h6.swap.drop
end Go.Proofs.Ytopcnkejobomaaa
/- put: bytes taken into the running digest. -/
namespace Go.Proofs.Ytopcnkejobomaaa
open Go.RowKit

def feedAll (x : S8 × List Int) (bs : List Int) : S8 × List Int := bs.foldl feed x
theorem feedAll_append (x : S8 × List Int) (a b : List Int) : feedAll x (a ++ b) = feedAll (feedAll x a) b := by simp [feedAll]
theorem feedAll_short (s : S8) : ∀ (bs p : List Int), p.length + bs.length < 64 → feedAll (s, p) bs = (s, p ++ bs)
  | [], p, _ => by simp [feedAll]
  | b :: bs, p, h => by
    have h1 : feed (s, p) b = (s, p ++ [b]) := by
      unfold feed
      rw [if_neg (by simp at h ⊢; omega)]
    show feedAll (feed (s, p) b) bs = _
    rw [h1, feedAll_short s bs (p ++ [b]) (by simp at h ⊢; omega)]
    simp
theorem feedAll_full (s : S8) (bs p : List Int) (hb : 0 < bs.length) (h : p.length + bs.length = 64) : feedAll (s, p) bs = (compress s (p ++ bs), []) := by
  obtain ⟨cs, c, rfl⟩ : ∃ cs c, bs = cs ++ [c] := ⟨bs.dropLast, bs.getLast (by intro e; simp [e] at hb), (List.dropLast_concat_getLast _).symm⟩
  rw [feedAll_append, feedAll_short s cs p (by simp at h; omega)]
  show feed (s, p ++ cs) c = _
  unfold feed
  rw [if_pos (by simp at h ⊢; omega)]
  simp
theorem compress_ok {s : S8} (bs : List Int) : (compress s bs).Ok := ⟨wd_mod _, wd_mod _, wd_mod _, wd_mod _, wd_mod _, wd_mod _, wd_mod _, wd_mod _⟩
/-- What has come in so far: x, and n bytes in all; the block. -/
structure Dig (x : S8 × List Int) (n : Nat) (bl : List Int) : Prop where
  ok : x.1.Ok
  len : bl.length = 64
  by_ : ∀ c ∈ bl, 0 ≤ c ∧ c < 256
  pend : x.2.length = n % 64
  has : bl.take x.2.length = x.2
theorem s8_list (s : S8) : s8 s.list = s := rfl
theorem list_wd {s : S8} (h : s.Ok) : ∀ x ∈ s.list, Wd x := by
  intro x hx
  simp only [S8.list, List.mem_cons, List.not_mem_nil, or_false] at hx
  rcases hx with rfl | rfl | rfl | rfl | rfl | rfl | rfl | rfl
  · exact h.a
  · exact h.b
  · exact h.c
  · exact h.d
  · exact h.e
  · exact h.f
  · exact h.g
  · exact h.h
/-- The block behind a copy. -/
def blCopy (bl bs : List Int) (i : Nat) : List Int := bl.take i ++ bs ++ bl.drop (i + bs.length)
theorem st_lay (hs bl bs : List Int) (n : Int) (i : Nat) (hh : hs.length = 8) (hb : bl.length = 64) (hi : i + bs.length ≤ 64) : lay (stCells hs bl n) (u8s bs) (8 + i) = stCells hs (blCopy bl bs i) n := by
  have e8 : (u32s hs).length = 8 := by simp [u32s, hh]
  have ebs : (u8s bs).length = bs.length := by simp [u8s]
  unfold lay stCells
  rw [List.take_append, List.take_of_length_le (by omega), List.drop_append, List.drop_eq_nil_of_le (by omega), e8, ebs]
  rw [show 8 + i - 8 = i by omega, show 8 + i + bs.length - 8 = i + bs.length by omega]
  rw [List.take_append_of_le_length (by simp [u8s]; omega), List.drop_append_of_le_length (by simp [u8s]; omega)]
  simp [u8s, blCopy]
theorem put_step {x : S8 × List Int} {n : Nat} {bl bs : List Int} (h : Dig x n bl) (hbs : ∀ c ∈ bs, 0 ≤ c ∧ c < 256) (hl : n % 64 + bs.length ≤ 64) (h0 : 0 < bs.length) :
    let bl' := blCopy bl bs (n % 64)
    (∀ c ∈ bl', 0 ≤ c ∧ c < 256) ∧ bl'.length = 64 ∧ (n % 64 + bs.length < 64 → Dig (feedAll x bs) (n + bs.length) bl' ∧ (feedAll x bs).1 = x.1) ∧ (n % 64 + bs.length = 64 → (feedAll x bs).1 = compress x.1 bl' ∧ Dig (feedAll x bs) (n + bs.length) bl') := by
  obtain ⟨s, p⟩ := x
  obtain ⟨hok, hlen, hby, hp, hhas⟩ := h
  simp only [] at hp hhas hok
  have hpn : p.length ≤ 64 := by omega
  have hb1 : ∀ c ∈ blCopy bl bs (n % 64), 0 ≤ c ∧ c < 256 := fun c hc => by
    simp only [blCopy, List.mem_append] at hc
    rcases hc with (hc | hc) | hc
    · exact hby c (List.mem_of_mem_take hc)
    · exact hbs c hc
    · exact hby c (List.mem_of_mem_drop hc)
  have hb2 : (blCopy bl bs (n % 64)).length = 64 := by simp [blCopy, hlen]; omega
  have hpre : (blCopy bl bs (n % 64)).take (p.length + bs.length) = p ++ bs := by
    unfold blCopy
    rw [hp] at hhas
    rw [hhas, hp, List.take_append_of_le_length (by simp [hp]), List.take_of_length_le (by simp [hp])]
  refine ⟨hb1, hb2, fun hlt => ?_, fun heq => ?_⟩
  · have e := feedAll_short s bs p (by omega)
    rw [e]
    exact ⟨⟨hok, hb2, hb1, by simp [hp]; omega, by simpa using hpre⟩, rfl⟩
  · have e := feedAll_full s bs p h0 (by omega)
    rw [e]
    have hall : blCopy bl bs (n % 64) = p ++ bs := by
      rw [← hpre, List.take_of_length_le (by omega)]
    refine ⟨by rw [hall], compress_ok _, hb2, hb1, ?_, rfl⟩
    simp
    omega
def strLen : Value → Nat
  | .string s => s.size
  | _ => 0
theorem ints_extract (s : ByteArray) (i j : Nat) : ints (s.extract i j) = ((ints s).take j).drop i := by
  simp [ints, List.map_drop, List.map_take]
  rw [List.drop_take]
theorem extract_extract (s : ByteArray) (k m : Nat) (h : k + m ≤ s.size) : (s.extract k s.size).extract m (s.size - k) = s.extract (k + m) s.size := by
  rw [← str_ints ((s.extract k s.size).extract m (s.size - k)), ← str_ints (s.extract (k + m) s.size), ints_extract, ints_extract, ints_extract]
  congr 1
  have hl := ints_length s
  have e : (ints s).take s.size = ints s := List.take_of_length_le (by omega)
  rw [e, List.take_of_length_le (by rw [List.length_drop]; omega), List.drop_drop]

set_option maxRecDepth 100000 in
theorem put_ok (b : Nat) (x : S8 × List Int) (n : Nat) (bl : List Int) (t : ByteArray) (w : World) (hb : Blf w b 145 (stCells x.1.list bl n)) (hd : Dig x n bl) (hn : n + t.size < 9223372036854775808) :
    Calls Try.prog 94 #[.pointer (some ⟨b, 0, none⟩), .string t] w fun e w' => e = .returned (.tuple #[]) ∧ ∃ bl', Dig (feedAll x (ints t)) (n + t.size) bl' ∧ St w [⟨b, 145, stCells (feedAll x (ints t)).1.list bl' ((n + t.size : Nat) : Int), false⟩] w' := by
  refine C_sha_state_put ?_
  unfold F_sha_state_put
  refine ⟨fun v w2 => ∃ (k : Nat) (bl' : List Int), k ≤ t.size ∧ v = .string (t.extract k t.size) ∧ Dig (feedAll x ((ints t).take k)) (n + k) bl' ∧ St w [⟨b, 145, stCells (feedAll x ((ints t).take k)).1.list bl' ((n + k : Nat) : Int), false⟩] w2, fun v _ => strLen v, ⟨0, bl, by omega, by simp, by simpa [feedAll] using hd, by simp [feedAll]; exact St.oneF hb⟩, ?_⟩
  rintro v u w1 ⟨k, bl', hk, rfl, hd1, h1⟩
  have hsz : (t.extract k t.size).size = t.size - k := by simp
  refine mop_c trivial ?_
  rw [hsz]
  refine mop_c trivial ?_
  refine mif_dec (fun hlt => ?_) (fun hge => ?_)
  · have hll : 0 < t.size - k := by omega
    (repeat (first | (refine mop_c ?_ ?_; first | exact trivial | omega) | (refine dp_c ?_ ?_; first | exact trivial | omega)))
    have hlist : (feedAll x ((ints t).take k)).1.list.length = 8 := rfl
    refine dq_ld ((h1.cell 0 rfl 72).trans (st_n hlist hd1.len)) rfl ?_
    (repeat (first | (refine mop_c ?_ ?_; first | exact trivial | omega) | (refine dp_c ?_ ?_; first | exact trivial | omega)))
    refine df_mop fun w2 hd2 => ?_
    have hi : ((((n + k : Nat) : Int)) % 64).toNat = (n + k) % 64 := by omega
    rw [hi]
    obtain ⟨w3, hr, h3⟩ := run_copy_string (P := Try.prog) (o := 0 + 8 + (n + k) % 64) (m := 64 - (n + k) % 64) (c := 64 - (n + k) % 64) (s := t.extract k t.size) (dT := 106) (sT := 9) (ty := 3) (e := 5) (ks := [false, false]) (h1.drawn hd2) (by kernel_rfl) (by kernel_rfl) (by rw [st_len hlist hd1.len]; omega)
    refine mop_run hr ⟨(fun e => by cases e), ?_⟩
    have hm : min (t.extract k t.size).size (64 - (n + k) % 64) = min (t.size - k) (64 - (n + k) % 64) := by rw [hsz]
    rw [hm] at h3 ⊢
    obtain ⟨m, hmm⟩ : ∃ m, m = min (t.size - k) (64 - (n + k) % 64) := ⟨_, rfl⟩
    rw [← hmm] at h3 ⊢
    have hbl : ((ints (t.extract k t.size)).take m).length = m := by rw [List.length_take, ints_length, hsz]; omega
    have hbr : ∀ c ∈ (ints (t.extract k t.size)).take m, 0 ≤ c ∧ c < 256 := fun c hc => ints_range _ c (List.mem_of_mem_take hc)
    rw [show 0 + 8 + (n + k) % 64 = 8 + (n + k) % 64 by omega, st_lay _ _ _ _ _ hlist hd1.len (by rw [hbl]; omega)] at h3
    have hstep := put_step hd1 hbr (by rw [hbl]; omega) (by rw [hbl]; omega)
    have hfeed : feedAll (feedAll x ((ints t).take k)) ((ints (t.extract k t.size)).take m) = feedAll x ((ints t).take (k + m)) := by
      have e : (ints t).take t.size = ints t := List.take_of_length_le (by rw [ints_length]; omega)
      rw [← feedAll_append, ints_extract, e, ← List.take_add]
    rw [hfeed, hbl] at hstep
    have hext := extract_extract t k m (by omega)
    generalize blCopy bl' ((ints (t.extract k t.size)).take m) ((n + k) % 64) = bl2 at h3 hstep
    obtain ⟨hby2, hlen2, hs1, hs2⟩ := hstep
    refine dend_intro fun w4 hd4 => ?_
    have h4 := h3.drawn hd4
    clear h1 h3 hr hfeed
    refine mop_c (by rw [hsz]; omega) ?_
    rw [hsz, Int.toNat_natCast, hext]
    (repeat (first | (refine mop_c ?_ ?_; first | exact trivial | omega) | (refine dp_c ?_ ?_; first | exact trivial | omega)))
    refine mop_ld ((h4.cell 0 rfl 72).trans (st_n hlist hlen2)) rfl ?_
    (repeat (first | (refine mop_c ?_ ?_; first | exact trivial | omega) | (refine dp_c ?_ ?_; first | exact trivial | omega)))
    refine mop_st (j := 72) h4 rfl (by rw [st_len hlist hlen2]; omega) rfl (fun w5 h5 => ?_)
    rw [st_set_n hlist hlen2] at h5
    (repeat (first | (refine mop_c ?_ ?_; first | exact trivial | omega) | (refine dp_c ?_ ?_; first | exact trivial | omega)))
    refine mop_ld ((h5.cell 0 rfl 72).trans (st_n hlist hlen2)) rfl ?_
    (repeat (first | (refine mop_c ?_ ?_; first | exact trivial | omega) | (refine dp_c ?_ ?_; first | exact trivial | omega)))
    have hsz2 : (t.extract (k + m) t.size).size = t.size - (k + m) := by simp
    have hnk : ((n + k : Nat) : Int) + (m : Int) = ((n + (k + m) : Nat) : Int) := by omega
    rw [hnk] at h5 ⊢
    refine mif_dec (fun hz => ?_) (fun hnz => ?_)
    · obtain ⟨hs3, hs4⟩ := hs2 (by omega)
      refine mop_to (turn_ok b _ bl2 _ w5 h5.head hlist hlen2 hby2 (list_wd hd1.ok)) ?_
      rintro e w6 ⟨rfl, h6⟩
      have h7 := h5.call1 h6
      rw [s8_list, ← hs3] at h7
      exact ⟨⟨k + m, bl2, by omega, rfl, by rw [← Nat.add_assoc]; exact hs4, h7⟩, by simp only [strLen, hsz, hsz2]; omega⟩
    · obtain ⟨hs3, hs4⟩ := hs1 (by omega)
      rw [← hs4] at h5
      exact ⟨⟨k + m, bl2, by omega, rfl, by rw [← Nat.add_assoc]; exact hs3, h5⟩, by simp only [strLen, hsz, hsz2]; omega⟩
  · obtain rfl : k = t.size := by omega
    have e : (ints t).take t.size = ints t := List.take_of_length_le (by rw [ints_length]; omega)
    rw [e] at hd1 h1
    exact ⟨rfl, bl', hd1, h1⟩
end Go.Proofs.Ytopcnkejobomaaa
/- Sum: the program's digest of parts. -/
namespace Go.Proofs.Ytopcnkejobomaaa
open Go.RowKit

/-- What stands behind n bytes: a one, noughts, the length. -/
def lenB (n : Nat) (i : Nat) : Int := ((n : Int) % 18446744073709551616 * 8 % 18446744073709551616) / 2 ^ (56 - 8 * (i : Int)).toNat % 256
def padding (n : Nat) : List Int := (128 :: List.replicate (63 - (n + 8) % 64) 0) ++ (List.range 8).map (lenB n)
def outAt (l : List Int) (i : Nat) : Int := l.getD (i / 4) 0 / 2 ^ (24 - 8 * (i % 4)) % 256
def outB (s : S8) : List Int := (List.range 32).map (outAt s.list)
/-- The digest. -/
def shaSum (bs : List Int) : List Int := outB (feedAll (h0, []) (bs ++ padding bs.length)).1
theorem shaSum_length (bs : List Int) : (shaSum bs).length = 32 := by simp [shaSum, outB]
theorem outB_range (s : S8) : ∀ x ∈ outB s, 0 ≤ x ∧ x < 256 := by
  intro x hx
  obtain ⟨i, _, rfl⟩ := List.mem_map.1 hx
  unfold outAt
  omega
theorem shaSum_range (bs : List Int) : ∀ x ∈ shaSum bs, 0 ≤ x ∧ x < 256 := outB_range _
/-- A row that is filled from its head. -/
def fill (f : Nat → Int) (n i : Nat) : List Int := (List.range i).map f ++ List.replicate (n - i) 0
theorem fill_length (f : Nat → Int) (n i : Nat) (h : i ≤ n) : (fill f n i).length = n := by simp [fill]; omega
theorem fill_set (f : Nat → Int) (n i : Nat) (h : i < n) : (fill f n i).set i (f i) = fill f n (i + 1) := by
  unfold fill
  rw [List.set_append, if_neg (by simp), List.length_map, List.length_range, Nat.sub_self, List.range_succ, List.map_append, List.append_assoc]
  congr 1
  rw [show n - i = (n - (i + 1)) + 1 by omega, List.replicate_succ]
  rfl
theorem set_u8s (l : List Int) (i : Nat) (v : Int) : (u8s l).set i (.int .u8 v) = u8s (l.set i v) := by simp [u8s, List.map_set]
theorem u8s_length (l : List Int) : (u8s l).length = l.length := by simp [u8s]
/-- A digest as a value. -/
def hv (l : List Int) : Value := .agg (u8s l).toArray
theorem hv_cells (l : List Int) : (hv l).cells = (u8s l).toArray := rfl
theorem cells_of_row {w : World} {b : Nat} {t : TypeId} {cs : List Value} (h : Blf w b t cs) : ∀ k v, cs[k]? = some v → w.cell? ⟨b, 0 + k, none⟩ = some v := fun k v hk => by
  rw [Nat.zero_add, h.cell]; exact hk
theorem lay_all (cs vs : List Value) (h : vs.length = cs.length) : lay cs vs 0 = vs := by
  unfold lay
  rw [List.take_zero, List.nil_append, List.drop_eq_nil_of_le (by omega), List.append_nil]

set_option maxRecDepth 100000 in
theorem rounds_ok (w : World) : Calls Try.prog 93 #[] w fun e w' => e = .returned (.agg (u32s kl).toArray) ∧ St w [] w' := by
  refine C_sha_rounds ?_
  unfold F_sha_rounds
  refine mop_new (St.nil w) (fun g w1 h1 => ?_)
  refine mop_pur (v := .agg (u32s kl).toArray) (fun w => by kernel_rfl) ?_
  refine mop_storeN (q := true) (k := 64) (by kernel_rfl) h1 rfl (by intro u hu; obtain ⟨x, _, rfl⟩ := List.mem_map.1 (show u ∈ kl.map (Value.int .u32) from hu); rfl) (by simp) (fun w2 h2 => ?_)
  have e : lay (List.replicate 64 (Value.int .u32 0)) (Value.agg (u32s kl).toArray).cells.toList 0 = u32s kl := lay_all _ _ rfl
  rw [e] at h2
  refine rcell_ldN (cells_of_row h2.head) rfl ?_
  exact ⟨rfl, h2.drop⟩
def cat (ss : List ByteArray) : List Int := (ss.map ints).flatten
theorem cat_take (ss : List ByteArray) (k : Nat) (h : k < ss.length) : cat (ss.take (k + 1)) = cat (ss.take k) ++ ints ss[k] := by
  unfold cat
  rw [List.take_succ_eq_append_getElem h, List.map_append, List.flatten_append]
  simp only [List.map_cons, List.map_nil, List.flatten_cons, List.flatten_nil, List.append_nil]
theorem cat_append (a b : List ByteArray) : cat (a ++ b) = cat a ++ cat b := by simp only [cat, List.map_append, List.flatten_append]
theorem cat_le (ss : List ByteArray) (k : Nat) : (cat (ss.take k)).length ≤ (cat ss).length := by
  conv => rhs; rw [← List.take_append_drop k ss, cat_append, List.length_append]
  omega
theorem cat_range (ss : List ByteArray) : ∀ x ∈ cat ss, 0 ≤ x ∧ x < 256 := by
  intro x hx
  obtain ⟨l, hl, hx⟩ := List.mem_flatten.1 hx
  obtain ⟨s, _, rfl⟩ := List.mem_map.1 hl
  exact ints_range s x hx
theorem lenB_range (n i : Nat) : 0 ≤ lenB n i ∧ lenB n i < 256 := by unfold lenB; omega
theorem padding_range (n : Nat) : ∀ x ∈ padding n, 0 ≤ x ∧ x < 256 := by
  intro x hx
  simp only [padding, List.mem_append, List.mem_cons, List.mem_replicate, List.mem_map] at hx
  rcases hx with (rfl | ⟨_, rfl⟩) | ⟨i, _, rfl⟩
  · omega
  · omega
  · exact lenB_range n i
theorem dig0 : Dig (h0, []) 0 (List.replicate 64 0) := by
  refine ⟨⟨?_, ?_, ?_, ?_, ?_, ?_, ?_, ?_⟩, by simp, ?_, rfl, by simp⟩
  all_goals first
    | (constructor <;> decide)
    | (intro c hc; rw [List.eq_of_mem_replicate hc]; omega)
/-- The tail behind i of its last eight bytes. -/
def tailK (n z i : Nat) : List Int := (128 :: List.replicate z 0) ++ fill (lenB n) (71 - z) i
theorem tailK_length (n z i : Nat) (hz : z ≤ 63) (hi : i ≤ 8) : (tailK n z i).length = 72 := by
  simp [tailK, fill_length (lenB n) (71 - z) i (by omega)]; omega
theorem tailK_set (n z i : Nat) (hz : z ≤ 63) (hi : i < 8) : (tailK n z i).set (z + 1 + i) (lenB n i) = tailK n z (i + 1) := by
  unfold tailK
  rw [List.set_append, if_neg (by simp), List.length_cons, List.length_replicate, show z + 1 + i - (z + 1) = i by omega, fill_set _ _ _ (by omega)]
theorem tailK_zero (n z : Nat) (hz : z ≤ 63) : (List.replicate 72 (0 : Int)).set 0 128 = tailK n z 0 := by
  unfold tailK fill
  rw [show 72 = (z + (71 - z)) + 1 by omega, List.replicate_succ, List.set_cons_zero, ← List.replicate_append_replicate]
  simp
theorem tailK_end (n : Nat) : (tailK n (63 - (n + 8) % 64) 8).take (63 - (n + 8) % 64 + 9) = padding n := by
  unfold tailK fill padding
  rw [← List.append_assoc, List.take_append_of_le_length (by simp), List.take_of_length_le (by simp)]

set_option maxRecDepth 100000 in
set_option maxHeartbeats 1000000 in
theorem sum_ok (A : Option Addr) (ss : List ByteArray) (c : Nat) (w : World) (hr : Rd w A (ss.map .string)) (hss : ss.length < 9223372036854775807) (hsz : (cat ss).length < 4611686018427387904) :
    Calls Try.prog 53 #[.slice A ss.length c] w fun e w' => e = .returned (hv (shaSum (cat ss))) ∧ St w [] w' := by
  refine C_sha_Sum ?_
  unfold F_sha_Sum
  refine mop_new (St.nil w) (fun go w1 h1 => ?_)
  refine mop_pur (build8 _ _ _ _ _ _ _ _) ?_
  refine mop_to (rounds_ok w1) ?_
  rintro e w2 ⟨rfl, h2⟩
  have h2 := h1.call0 h2
  refine mop_pur (v := .agg (stCells h0.list (List.replicate 64 0) 0).toArray) (fun w => by kernel_rfl) ?_
  refine mop_box h2 (fun b w3 h3 => ?_)
  have h3 : St w [⟨b, 145, stCells h0.list (List.replicate 64 0) 0, true⟩, ⟨go, 34, u8s (List.replicate 32 0), true⟩] w3 := h3
  clear h1 h2
  refine mop_c trivial ?_
  refine ⟨fun v w2 => ∃ (k : Nat) (bl : List Int), k ≤ ss.length ∧ v = .int .i64 k ∧ Dig (feedAll (h0, []) (cat (ss.take k))) (cat (ss.take k)).length bl ∧
      St w [⟨b, 145, stCells (feedAll (h0, []) (cat (ss.take k))).1.list bl ((cat (ss.take k)).length : Int), true⟩, ⟨go, 34, u8s (List.replicate 32 0), true⟩] w2, fun v _ => ss.length - (intOf v).toNat, ⟨0, _, by omega, rfl, dig0, h3⟩, ?_⟩
  clear h3
  rintro v u w4 ⟨k, bl, hk, rfl, hd, h4⟩
  refine mop_c trivial ?_
  refine mif_dec (fun hlt => ?_) (fun hge => ?_)
  · have hk' : k < ss.length := by omega
    have x0 : (ss.map Value.string)[k]? = some (.string ss[k]) := by simp [hk']
    obtain ⟨ab, ao, rfl, hab, hc⟩ := hr.at_ x0
    (repeat (first | (refine mop_c ?_ ?_; first | exact trivial | omega) | (refine dp_c ?_ ?_; first | exact trivial | omega)))
    refine mop_ld (j := ao + k) ((h4.old (p := ⟨ab, ao + k, none⟩) hab (by intro q hq hn; simp at hq; rcases hq with rfl | rfl <;> cases hn)).trans (hc k _ x0)) (by omega) ?_
    have hcl := cat_le ss (k + 1)
    rw [cat_take ss k hk', List.length_append, ints_length] at hcl
    refine mop_to (put_ok b _ _ bl ss[k] w4 h4.head hd (by omega)) ?_
    rintro e w5 ⟨rfl, bl', hd5, h5⟩
    have h6 := h4.call1 h5
    (repeat (first | (refine mop_c ?_ ?_; first | exact trivial | omega) | (refine dp_c ?_ ?_; first | exact trivial | omega)))
    rw [← feedAll_append, ← ints_length, ← List.length_append, ← cat_take ss k hk'] at hd5 h6
    exact ⟨⟨k + 1, bl', hk', rfl, hd5, h6⟩, by simp [intOf]; omega⟩
  · obtain rfl : k = ss.length := by omega
    rw [List.take_length] at hd h4
    obtain ⟨n, hn⟩ : ∃ n, n = (cat ss).length := ⟨_, rfl⟩
    have hsum : shaSum (cat ss) = outB (feedAll (feedAll (h0, []) (cat ss)) (padding n)).1 := by rw [shaSum, feedAll_append, hn]
    rw [hsum]
    rw [← hn] at hd h4 hsz
    generalize feedAll (h0, []) (cat ss) = x at hd h4
    have hl8 : x.1.list.length = 8 := rfl
    refine mop_new h4 (fun gt w5 h5 => ?_)
    (repeat (first | (refine mop_c ?_ ?_; first | exact trivial | omega) | (refine dp_c ?_ ?_; first | exact trivial | omega)))
    refine mop_st (j := 0) h5 rfl (by simp) rfl (fun w6 h6 => ?_)
    (repeat (first | (refine mop_c ?_ ?_; first | exact trivial | omega) | (refine dp_c ?_ ?_; first | exact trivial | omega)))
    refine mop_ld ((h6.cell 1 rfl 72).trans (st_n hl8 hd.len)) rfl ?_
    (repeat (first | (refine mop_c ?_ ?_; first | exact trivial | omega) | (refine dp_c ?_ ?_; first | exact trivial | omega)))
    have hz : (64 : Int) - ((n : Int) + 8) % 64 = ((63 - (n + 8) % 64 + 1 : Nat) : Int) := by omega
    rw [hz]
    have h6 : St w [⟨gt, 147, u8s (tailK n (63 - (n + 8) % 64) 0), true⟩, ⟨b, 145, stCells x.1.list bl (n : Int), true⟩, ⟨go, 34, u8s (List.replicate 32 0), true⟩] w6 := by
      rw [← tailK_zero n (63 - (n + 8) % 64) (by omega), ← set_u8s]
      exact h6
    have hend := tailK_end n
    obtain ⟨z, hzz⟩ : ∃ z, z = 63 - (n + 8) % 64 := ⟨_, rfl⟩
    rw [← hzz] at h6 hend ⊢
    have hz63 : z ≤ 63 := by omega
    clear hz hzz
    refine ⟨fun v w2 => ∃ i : Nat, i ≤ 8 ∧ v = .int .i64 i ∧ St w [⟨gt, 147, u8s (tailK n z i), true⟩, ⟨b, 145, stCells x.1.list bl (n : Int), true⟩, ⟨go, 34, u8s (List.replicate 32 0), true⟩] w2, fun v _ => 8 - (intOf v).toNat, ⟨0, by omega, rfl, h6⟩, ?_⟩
    clear h4 h5 h6
    rintro v u2 w7 ⟨i, hi, rfl, h7⟩
    refine mop_c trivial ?_
    refine mif_dec (fun hlt => ?_) (fun hge => ?_)
    · (repeat (first | (refine mop_c ?_ ?_; first | exact trivial | omega) | (refine dp_c ?_ ?_; first | exact trivial | omega)))
      refine mop_ld ((h7.cell 1 rfl 72).trans (st_n hl8 hd.len)) rfl ?_
      (repeat (first | (refine mop_c ?_ ?_; first | exact trivial | omega) | (refine dp_c ?_ ?_; first | exact trivial | omega)))
      refine mop_st (j := z + 1 + i) h7 (by omega) (by rw [u8s_length, tailK_length n z i hz63 (by omega)]; omega) rfl (fun w8 h8 => ?_)
      have h8 : St w [⟨gt, 147, u8s (tailK n z (i + 1)), true⟩, ⟨b, 145, stCells x.1.list bl (n : Int), true⟩, ⟨go, 34, u8s (List.replicate 32 0), true⟩] w8 := by
        rw [← tailK_set n z i hz63 (by omega), ← set_u8s]
        exact h8
      (repeat (first | (refine mop_c ?_ ?_; first | exact trivial | omega) | (refine dp_c ?_ ?_; first | exact trivial | omega)))
      exact ⟨⟨i + 1, by omega, rfl, h8⟩, by simp [intOf]; omega⟩
    · obtain rfl : i = 8 := by omega
      (repeat (first | (refine mop_c ?_ ?_; first | exact trivial | omega) | (refine dp_c ?_ ?_; first | exact trivial | omega)))
      have hto : (((z + 1 : Nat) : Int) + 8).toNat = z + 9 := by omega
      rw [hto]
      have htl := tailK_length n z 8 hz63 (by omega)
      refine mop_purW (pw_conv_bytes 106 9 5 gt 0 (z + 9) 72 (padding n) (by kernel_rfl) (by kernel_rfl) (by kernel_rfl) (by rw [← hend, List.length_take, htl]; omega) (fun i hi => ?_)) ?_
      · rw [h7.head.cell, ← hend, Nat.zero_add, u8s_at _ _ (by omega)]
        congr 2
        simp [List.getD, hi]
      have hpl : (padding n).length = z + 9 := by rw [← hend, List.length_take, htl]; omega
      have hps : (strOfNums (padding n)).size = z + 9 := by rw [← ints_length, ints_str _ (padding_range n), hpl]
      have h7 := h7.swap
      refine mop_to (put_ok b x n bl (strOfNums (padding n)) w7 h7.head hd (by omega)) ?_
      rintro e w8 ⟨rfl, bl', hd8, h8⟩
      rw [ints_str _ (padding_range n)] at hd8 h8
      have h9 := h7.call1 h8
      generalize feedAll x (padding n) = y at hd8 h9 ⊢
      clear h7 h8
      have hy8 : y.1.list.length = 8 := rfl
      refine mop_new h9 (fun gu w9 h10 => ?_)
      refine ⟨fun v w2 => ∃ i : Nat, i ≤ 32 ∧ v = .int .i64 i ∧ ∃ L, St w (⟨gu, 34, u8s (fill (outAt y.1.list) 32 i), true⟩ :: ⟨b, 145, stCells y.1.list bl' ((n + (strOfNums (padding n)).size : Nat) : Int), true⟩ :: ⟨gt, 147, L, true⟩ :: ⟨go, 34, u8s (List.replicate 32 0), true⟩ :: []) w2, fun v _ => 32 - (intOf v).toNat, ⟨0, by omega, rfl, _, h10⟩, ?_⟩
      clear h9 h10
      rintro v u3 w10 ⟨i, hi, rfl, L, h11⟩
      refine mop_c trivial ?_
      refine mif_dec (fun hlt => ?_) (fun hge => ?_)
      · (repeat (first | (refine mop_c ?_ ?_; first | exact trivial | omega) | (refine dp_c ?_ ?_; first | exact trivial | omega)))
        have hq : (0 + 0 + ((i : Int) / 4).toNat) = 0 + i / 4 := by omega
        refine mop_ld ((h11.cell 1 rfl (i / 4)).trans (st_h hy8 (i / 4) (by omega))) (by omega) ?_
        (repeat (first | (refine mop_c ?_ ?_; first | exact trivial | omega) | (refine dp_c ?_ ?_; first | exact trivial | omega)))
        refine mop_st (j := i) h11 (by omega) (by rw [u8s_length, fill_length _ _ _ hi]; omega) rfl (fun w11 h12 => ?_)
        have h12 : St w (⟨gu, 34, u8s (fill (outAt y.1.list) 32 (i + 1)), true⟩ :: ⟨b, 145, stCells y.1.list bl' ((n + (strOfNums (padding n)).size : Nat) : Int), true⟩ :: ⟨gt, 147, L, true⟩ :: ⟨go, 34, u8s (List.replicate 32 0), true⟩ :: []) w11 := by
          rw [← fill_set _ _ _ (by omega), ← set_u8s]
          have e : outAt y.1.list i = y.1.list.getD (i / 4) 0 / 2 ^ ((24 : Int) - 8 * ((i : Int) % 4)).toNat % 256 := by
            unfold outAt
            congr 3
            omega
          rw [e]
          exact h12
        (repeat (first | (refine mop_c ?_ ?_; first | exact trivial | omega) | (refine dp_c ?_ ?_; first | exact trivial | omega)))
        exact ⟨⟨i + 1, by omega, rfl, L, h12⟩, by simp [intOf]; omega⟩
      · obtain rfl : i = 32 := by omega
        have hf : fill (outAt y.1.list) 32 32 = outB y.1 := by simp [fill, outB]
        rw [hf] at h11
        have hol : (u8s (outB y.1)).length = 32 := by simp [outB, u8s]
        refine mop_ldN (cells_of_row h11.head) hol rfl ?_
        have h13 := h11.drop.drop.drop
        refine mop_storeN (q := true) (k := 32) (by kernel_rfl) h13 (by simpa [Value.cells] using hol) (by intro u hu; exact u8s_one _ u hu) (by simp [u8s]) (fun w12 h14 => ?_)
        have e : lay (u8s (List.replicate 32 0)) (Value.agg (u8s (outB y.1)).toArray).cells.toList 0 = u8s (outB y.1) := lay_all _ _ (by show (u8s (outB y.1)).length = _; rw [hol]; simp [u8s])
        rw [e] at h14
        refine rcell_ldN (cells_of_row h14.head) hol ?_
        exact ⟨rfl, h14.drop⟩
end Go.Proofs.Ytopcnkejobomaaa
/- The reference's digest of a text. -/
namespace Go.Proofs.Ytopcnkejobomaaa
open Go.RowKit

theorem word_ok (g o n c : Nat) (i : Nat) (a0 a1 a2 a3 : Int) (w : World) (hn : i + 4 ≤ n) (hi : i < 4611686018427387904)
    (h0 : w.cell? ⟨g, o + i, none⟩ = some (.int .u8 a0)) (h1 : w.cell? ⟨g, o + (i + 1), none⟩ = some (.int .u8 a1)) (h2 : w.cell? ⟨g, o + (i + 2), none⟩ = some (.int .u8 a2)) (h3 : w.cell? ⟨g, o + (i + 3), none⟩ = some (.int .u8 a3))
    (b0 : 0 ≤ a0 ∧ a0 < 256) (b1 : 0 ≤ a1 ∧ a1 < 256) (b2 : 0 ≤ a2 ∧ a2 < 256) (b3 : 0 ≤ a3 ∧ a3 < 256) :
    Calls Try.prog 100 #[.slice (some ⟨g, o, none⟩) n c, .int .i64 (i : Int)] w fun e w' => e = .returned (.int .u32 (word4 a0 a1 a2 a3)) ∧ Drawn w w' := by
  refine C_bevyref02_word ?_
  unfold F_bevyref02_word
  (repeat (first | (refine mop_c ?_ ?_; first | exact trivial | omega) | (refine dp_c ?_ ?_; first | exact trivial | omega)))
  refine dq_ld h0 (by omega) ?_
  (repeat (first | (refine mop_c ?_ ?_; first | exact trivial | omega) | (refine dp_c ?_ ?_; first | exact trivial | omega)))
  refine dq_ld h1 (by omega) ?_
  (repeat (first | (refine mop_c ?_ ?_; first | exact trivial | omega) | (refine dp_c ?_ ?_; first | exact trivial | omega)))
  refine dq_ld h2 (by omega) ?_
  (repeat (first | (refine mop_c ?_ ?_; first | exact trivial | omega) | (refine dp_c ?_ ?_; first | exact trivial | omega)))
  refine dq_ld h3 (by omega) ?_
  (repeat (first | (refine mop_c ?_ ?_; first | exact trivial | omega) | (refine dp_c ?_ ?_; first | exact trivial | omega)))
  refine dend_intro fun w1 hd => ?_
  exact ⟨rfl, hd⟩
/-- The words behind j blocks. -/
def blocks (M : List Int) : Nat → S8
  | 0 => h0
  | j + 1 => compress (blocks M j) ((M.drop (64 * j)).take 64)
theorem blocks_feed (M : List Int) : ∀ j, 64 * j ≤ M.length → feedAll (h0, []) (M.take (64 * j)) = (blocks M j, [])
  | 0, _ => rfl
  | j + 1, h => by
    rw [show 64 * (j + 1) = 64 * j + 64 by omega, List.take_add, feedAll_append, blocks_feed M j (by omega)]
    rw [feedAll_full _ _ _ (by simp; omega) (by simp; omega)]
    rfl
theorem blocks_ok (M : List Int) : ∀ j, (blocks M j).Ok
  | 0 => dig0.ok
  | _ + 1 => compress_ok _
theorem block_at (M : List Int) (j i : Nat) (hi : i < 64) : ((M.drop (64 * j)).take 64).getD i 0 = M.getD (64 * j + i) 0 := by
  simp [List.getD, hi]
theorem buildb (v : Int) (w : World) : (o_buildSlice 106 1 [(0, .int .u8 v)]).run Try.prog w = .ok (.value (.slice (some ⟨w.heap.size, 0, none⟩) 1 1)) (w.alloc (.cells (Value.int .u8 v).cells.toList.toArray 5)) := by kernel_rfl
theorem row_at (M : List Int) (sp : List Value) (i : Nat) (h : i < M.length) : (u8s M ++ sp)[i]? = some (.int .u8 (M.getD i 0)) := by
  rw [List.getElem?_append_left (by rw [u8s_length]; exact h), u8s_at M i h]
def slen : Value → Nat
  | .slice _ n _ => n
  | _ => 0
theorem u8s_append (a b : List Int) : u8s (a ++ b) = u8s a ++ u8s b := by simp [u8s]
theorem u32s_one (l : List Int) : ∀ u ∈ u32s l, u.oneCell' = true := by
  intro u hu
  obtain ⟨x, _, rfl⟩ := List.mem_map.1 hu
  rfl
theorem u32s_length (l : List Int) : (u32s l).length = l.length := by simp [u32s]
theorem set_u32s (l : List Int) (i : Nat) (v : Int) : (u32s l).set i (.int .u32 v) = u32s (l.set i v) := by simp [u32s, List.map_set]

set_option maxRecDepth 100000 in
set_option maxHeartbeats 2000000 in
theorem refsum_ok (s : ByteArray) (w : World) (hsz : s.size < 1099511627776) : Calls Try.prog 56 #[.string s] w fun e w' => e = .returned (hv (shaSum (ints s))) ∧ St w [] w' := by
  refine C_bevyref02_Sum ?_
  unfold F_bevyref02_Sum
  refine mop_new (St.nil w) (fun go w1 h1 => ?_)
  refine mop_pur (v := .agg (u32s kl).toArray) (fun w => by kernel_rfl) ?_
  refine mop_new h1 (fun gk w2 h2 => ?_)
  refine mop_storeN (q := true) (k := 64) (by kernel_rfl) h2 rfl (u32s_one kl) (by simp) (fun w3 h3 => ?_)
  have e1 : lay (List.replicate 64 (Value.int .u32 0)) (Value.agg (u32s kl).toArray).cells.toList 0 = u32s kl := lay_all _ _ rfl
  rw [e1] at h3
  clear h1 h2
  obtain ⟨A, cap, w4, hr4, h4⟩ := run_bytes_of_text (P := Try.prog) 9 106 5 s (by kernel_rfl) (by kernel_rfl) (by kernel_rfl) (by unfold maxLen; omega) h3
  refine mop_run hr4 ?_
  refine mop_push h4 rfl (by intro u hu; cases hu with | head => rfl | tail _ hu => cases hu) (buildb _ _) (by unfold maxLen; omega) (by omega) (fun A1 cap1 w5 h5 => ?_)
  obtain ⟨n, hn⟩ : ∃ n, n = s.size := ⟨_, rfl⟩
  have hil : (ints s).length = n := by rw [ints_length, hn]
  rw [← hn] at h5 hsz ⊢
  refine ⟨fun v w2 => ∃ (z cap : Nat) (A : Option Addr), z ≤ 63 - (n + 8) % 64 ∧ v = .slice A (n + 1 + z) cap ∧ RowSt w 5 1 [⟨gk, 141, u32s kl, true⟩, ⟨go, 33, List.replicate 32 (.int .u8 0), true⟩] A (n + 1 + z) cap (u8s (ints s ++ (128 :: List.replicate z 0))) w2, fun v _ => n + 100 - slen v, ⟨0, _, _, by omega, rfl, by rw [u8s_append]; exact h5⟩, ?_⟩
  clear h3 h4 h5 hr4
  rintro v u w6 ⟨z, cap, A, hz, rfl, h6⟩
  (repeat (first | (refine mop_c ?_ ?_; first | exact trivial | omega) | (refine dp_c ?_ ?_; first | exact trivial | omega)))
  refine mif_dec (fun hne => ?_) (fun heq => ?_)
  · refine mop_push h6 rfl (by intro u hu; cases hu with | head => rfl | tail _ hu => cases hu) (buildb _ _) (by unfold maxLen; omega) (by omega) (fun A1 cap1 w7 h7 => ?_)
    refine ⟨⟨z + 1, cap1, A1, by omega, rfl, ?_⟩, by simp [slen]; omega⟩
    have e : ints s ++ (128 :: List.replicate (z + 1) 0) = (ints s ++ (128 :: List.replicate z 0)) ++ [0] := by
      rw [List.append_assoc, List.cons_append, ← List.replicate_succ']
    rw [e, u8s_append]
    exact h7
  · obtain rfl : z = 63 - (n + 8) % 64 := by omega
    refine mop_c trivial ?_
    rw [← hn]
    (repeat (first | (refine mop_c ?_ ?_; first | exact trivial | omega) | (refine dp_c ?_ ?_; first | exact trivial | omega)))
    refine ⟨fun v x w2 => ∃ (i cap : Nat) (A : Option Addr), i ≤ 8 ∧ x = .int .i64 i ∧ v = .slice A (n + 1 + (63 - (n + 8) % 64) + i) cap ∧ RowSt w 5 1 [⟨gk, 141, u32s kl, true⟩, ⟨go, 33, List.replicate 32 (.int .u8 0), true⟩] A (n + 1 + (63 - (n + 8) % 64) + i) cap (u8s ((ints s ++ (128 :: List.replicate (63 - (n + 8) % 64) 0)) ++ (List.range i).map (lenB n))) w2,
      fun _ x _ => 8 - (intOf x).toNat, ⟨0, _, _, by omega, rfl, rfl, by simpa using h6⟩, ?_⟩
    clear h6
    rintro v x u2 w7 ⟨i, cap, A, hi, rfl, rfl, h7⟩
    refine mop_c trivial ?_
    refine mif_dec (fun hlt => ?_) (fun hge => ?_)
    · (repeat (first | (refine mop_c ?_ ?_; first | exact trivial | omega) | (refine dp_c ?_ ?_; first | exact trivial | omega)))
      refine mop_push h7 rfl (by intro u hu; cases hu with | head => rfl | tail _ hu => cases hu) (buildb _ _) (by unfold maxLen; omega) (by omega) (fun A1 cap1 w8 h8 => ?_)
      (repeat (first | (refine mop_c ?_ ?_; first | exact trivial | omega) | (refine dp_c ?_ ?_; first | exact trivial | omega)))
      refine ⟨⟨i + 1, cap1, A1, by omega, rfl, rfl, ?_⟩, by simp [intOf]; omega⟩
      have e : lenB n i = ((n : Int) % 18446744073709551616 * 8 % 18446744073709551616) / 2 ^ ((56 - 8 * (i : Int)) % 18446744073709551616).toNat % 256 := by
        unfold lenB
        congr 4
        omega
      rw [List.range_succ, List.map_append, ← List.append_assoc, u8s_append, List.map_cons, List.map_nil, e]
      exact h8
    · obtain rfl : i = 8 := by omega
      have hM : (ints s ++ (128 :: List.replicate (63 - (n + 8) % 64) 0)) ++ (List.range 8).map (lenB n) = ints s ++ padding n := by rw [padding, List.append_assoc]
      rw [hM] at h7
      have hfin : shaSum (ints s) = outB (feedAll (h0, []) (ints s ++ padding n)).1 := by rw [shaSum, hil]
      rw [hfin]
      have hMl : (ints s ++ padding n).length = n + 1 + (63 - (n + 8) % 64) + 8 := by simp [padding, hil]; omega
      have hMr : ∀ c ∈ ints s ++ padding n, 0 ≤ c ∧ c < 256 := fun c hc => by
        rcases List.mem_append.1 hc with hc | hc
        · exact ints_range s c hc
        · exact padding_range n c hc
      generalize ints s ++ padding n = M at h7 hMl hMr ⊢
      obtain ⟨N, hN⟩ : ∃ N, N = n + 1 + (63 - (n + 8) % 64) + 8 := ⟨_, rfl⟩
      rw [← hN] at h7 hMl ⊢
      have hN64 : N % 64 = 0 := by omega
      have hNb : N < 1099511627776 + 200 := by omega
      clear hM hfin hil
      obtain ⟨gm, sp, rfl, h8, _, _⟩ := h7.at_ (by omega)
      clear h7
      refine mop_pur (build8 _ _ _ _ _ _ _ _) ?_
      refine mop_new h8 (fun gv w8 h9 => ?_)
      refine mop_storeN (q := true) (k := 8) (by kernel_rfl) h9 rfl (u32s_one h0.list) (by simp) (fun w9 h10 => ?_)
      have e8 : lay (List.replicate 8 (Value.int .u32 0)) (Value.agg (u32s h0.list).toArray).cells.toList 0 = u32s h0.list := lay_all _ _ rfl
      have h10 : St w [⟨gv, 140, u32s h0.list, true⟩, ⟨gm, 5, u8s M ++ sp, true⟩, ⟨gk, 141, u32s kl, true⟩, ⟨go, 33, List.replicate 32 (.int .u8 0), true⟩] w9 := by
        rw [← e8]; exact h10
      refine ⟨fun x w2 => ∃ j : Nat, 64 * j ≤ N ∧ x = .int .i64 ((64 * j : Nat) : Int) ∧ St w [⟨gv, 140, u32s (blocks M j).list, true⟩, ⟨gm, 5, u8s M ++ sp, true⟩, ⟨gk, 141, u32s kl, true⟩, ⟨go, 33, List.replicate 32 (.int .u8 0), true⟩] w2,
        fun x _ => N - (intOf x).toNat, ⟨0, by omega, rfl, h10⟩, ?_⟩
      clear h8 h9 h10
      rintro x u3 w10 ⟨j, hj, rfl, h10⟩
      (repeat (first | (refine mop_c ?_ ?_; first | exact trivial | omega) | (refine dp_c ?_ ?_; first | exact trivial | omega)))
      refine mif_dec (fun hlt => ?_) (fun hge => ?_)
      · have hj2 : 64 * j + 64 ≤ N := by omega
        have hbl : blocks M (j + 1) = (blocks M j).add (rl (wl ((M.drop (64 * j)).take 64) 64) 64 (blocks M j)) := rfl
        have hbat := fun i hi => block_at M j i hi
        have hsok := blocks_ok M j
        generalize (M.drop (64 * j)).take 64 = bl at hbl hbat
        obtain ⟨S', hS⟩ : ∃ S', S' = blocks M (j + 1) := ⟨_, rfl⟩
        rw [← hS] at hbl
        refine mop_new h10 (fun gw w11 h11 => ?_)
        refine ⟨fun x w2 => ∃ i : Nat, i ≤ 16 ∧ x = .int .i64 i ∧ St w [⟨gw, 141, u32s (wk bl i), true⟩, ⟨gv, 140, u32s (blocks M j).list, true⟩, ⟨gm, 5, u8s M ++ sp, true⟩, ⟨gk, 141, u32s kl, true⟩, ⟨go, 33, List.replicate 32 (.int .u8 0), true⟩] w2,
          fun x _ => 16 - (intOf x).toNat, ⟨0, by omega, rfl, h11⟩, ?_⟩
        clear h10 h11
        rintro x u4 w12 ⟨i, hi, rfl, h12⟩
        (repeat (first | (refine mop_c ?_ ?_; first | exact trivial | omega) | (refine dp_c ?_ ?_; first | exact trivial | omega)))
        refine mif_dec (fun hlt2 => ?_) (fun hge2 => ?_)
        · (repeat (first | (refine mop_c ?_ ?_; first | exact trivial | omega) | (refine dp_c ?_ ?_; first | exact trivial | omega)))
          rw [show ((64 * j : Nat) : Int) + 4 * (i : Int) = ((64 * j + 4 * i : Nat) : Int) by omega]
          refine mop_to (word_ok gm 0 N cap (64 * j + 4 * i) (M.getD (64 * j + 4 * i) 0) (M.getD (64 * j + 4 * i + 1) 0) (M.getD (64 * j + 4 * i + 2) 0) (M.getD (64 * j + 4 * i + 3) 0) w12 (by omega) (by omega)
            ?_ ?_ ?_ ?_ (getD_bd M _ hMr) (getD_bd M _ hMr) (getD_bd M _ hMr) (getD_bd M _ hMr)) ?_
          · rw [Nat.zero_add]; exact (h12.cell 2 rfl _).trans (row_at M sp _ (by omega))
          · rw [Nat.zero_add]; exact (h12.cell 2 rfl _).trans (row_at M sp _ (by omega))
          · rw [Nat.zero_add]; exact (h12.cell 2 rfl _).trans (row_at M sp _ (by omega))
          · rw [Nat.zero_add]; exact (h12.cell 2 rfl _).trans (row_at M sp _ (by omega))
          rintro e w13 ⟨rfl, hd13⟩
          have h13 := h12.drawn hd13
          (repeat (first | (refine mop_c ?_ ?_; first | exact trivial | omega) | (refine dp_c ?_ ?_; first | exact trivial | omega)))
          refine mop_st (j := i) h13 (by omega) (by rw [u32s_length, wk_len bl i (by omega)]; omega) rfl (fun w14 h14 => ?_)
          (repeat (first | (refine mop_c ?_ ?_; first | exact trivial | omega) | (refine dp_c ?_ ?_; first | exact trivial | omega)))
          refine ⟨⟨i + 1, by omega, rfl, ?_⟩, by simp [intOf]; omega⟩
          rw [wk_set bl i (by omega)] at h14
          · exact h14
          · rw [wl_new, if_pos (by omega), hbat _ (by omega), hbat _ (by omega), hbat _ (by omega), hbat _ (by omega), ← Nat.add_assoc, ← Nat.add_assoc, ← Nat.add_assoc]
        · obtain rfl : i = 16 := by omega
          refine ⟨fun x w2 => ∃ k : Nat, 16 ≤ k ∧ k ≤ 64 ∧ x = .int .i64 k ∧ St w [⟨gw, 141, u32s (wk bl k), true⟩, ⟨gv, 140, u32s (blocks M j).list, true⟩, ⟨gm, 5, u8s M ++ sp, true⟩, ⟨gk, 141, u32s kl, true⟩, ⟨go, 33, List.replicate 32 (.int .u8 0), true⟩] w2,
            fun x _ => 64 - (intOf x).toNat, ⟨16, by omega, by omega, rfl, h12⟩, ?_⟩
          clear h12
          rintro x u5 w13 ⟨k, hk0, hk, rfl, h13⟩
          (repeat (first | (refine mop_c ?_ ?_; first | exact trivial | omega) | (refine dp_c ?_ ?_; first | exact trivial | omega)))
          refine mif_dec (fun hlt3 => ?_) (fun hge3 => ?_)
          · have d15 := wl_wd bl k (k - 15)
            have d2 := wl_wd bl k (k - 2)
            (repeat (first | (refine mop_c ?_ ?_; first | exact trivial | omega) | (refine dp_c ?_ ?_; first | exact trivial | omega)))
            refine mop_ld ((h13.cell 0 rfl (k - 15)).trans (wk_at bl k (k - 15) (by omega))) (by omega) ?_
            (repeat (first | (refine mop_c ?_ ?_; first | exact trivial | omega) | (refine dp_c ?_ ?_; first | exact trivial | omega)))
            refine mop_ld ((h13.cell 0 rfl (k - 2)).trans (wk_at bl k (k - 2) (by omega))) (by omega) ?_
            (repeat (first | (refine mop_c ?_ ?_; first | exact trivial | omega) | (refine dp_c ?_ ?_; first | exact trivial | omega)))
            refine dq_ld ((h13.cell 0 rfl (k - 16)).trans (wk_at bl k (k - 16) (by omega))) (by omega) ?_
            (repeat (first | (refine mop_c ?_ ?_; first | exact trivial | omega) | (refine dp_c ?_ ?_; first | exact trivial | omega)))
            refine dq_ld ((h13.cell 0 rfl (k - 7)).trans (wk_at bl k (k - 7) (by omega))) (by omega) ?_
            (repeat (first | (refine mop_c ?_ ?_; first | exact trivial | omega) | (refine dp_c ?_ ?_; first | exact trivial | omega)))
            refine df_eq (fun w => turned_k _ 7 w d15 (by decide)) fun w5 hd5 => ?_
            refine df_eq (fun w => turned_k _ 18 w d15 (by decide)) fun w6 hd6 => ?_
            (repeat (first | (refine mop_c ?_ ?_; first | exact trivial | omega) | (refine dp_c ?_ ?_; first | exact trivial | omega)))
            refine df_eq (fun w => turned_k _ 17 w d2 (by decide)) fun w7 hd7 => ?_
            refine df_eq (fun w => turned_k _ 19 w d2 (by decide)) fun w8 hd8 => ?_
            (repeat (first | (refine mop_c ?_ ?_; first | exact trivial | omega) | (refine dp_c ?_ ?_; first | exact trivial | omega)))
            have h14 := h13.drawn (((hd5.trans hd6).trans hd7).trans hd8)
            refine df_st (j := k) h14 (by omega) (by rw [u32s_length, wk_len bl k hk]; omega) rfl (fun w9 h15 => ?_)
            refine dend_intro fun w10 hd10 => ?_
            have h16 := h15.drawn hd10
            (repeat (first | (refine mop_c ?_ ?_; first | exact trivial | omega) | (refine dp_c ?_ ?_; first | exact trivial | omega)))
            refine ⟨⟨k + 1, by omega, by omega, rfl, ?_⟩, by simp [intOf]; omega⟩
            rw [wk_set bl k (by omega)] at h16
            · exact h16
            · rw [wl_new, if_neg (by omega)]
              rfl
          · obtain rfl : k = 64 := by omega
            have hw : wk bl 64 = wl bl 64 := by simp [wk]
            have hWl : (wl bl 64).length = 64 := wl_len bl 64
            rw [hw] at h13
            clear hw
            generalize wl bl 64 = W at h13 hWl hbl
            refine mop_ldN (cells_of_row (h13.mem (k := 1) rfl)) rfl rfl ?_
            refine mop_new h13 (fun gs w14 h14 => ?_)
            refine mop_storeN (q := true) (k := 8) (by kernel_rfl) h14 rfl (u32s_one (blocks M j).list) (by simp) (fun w15 h15 => ?_)
            have e9 : lay (List.replicate 8 (Value.int .u32 0)) (Value.agg (u32s (blocks M j).list).toArray).cells.toList 0 = u32s (blocks M j).list := lay_all _ _ rfl
            rw [e9] at h15
            clear h13 h14 e9
            generalize blocks M j = s0 at hbl hsok h15
            refine ⟨fun x w2 => ∃ i : Nat, i ≤ 64 ∧ x = .int .i64 i ∧ St w [⟨gs, 140, u32s (rl W i s0).list, true⟩, ⟨gw, 141, u32s W, true⟩, ⟨gv, 140, u32s s0.list, true⟩, ⟨gm, 5, u8s M ++ sp, true⟩, ⟨gk, 141, u32s kl, true⟩, ⟨go, 33, List.replicate 32 (.int .u8 0), true⟩] w2,
              fun x _ => 64 - (intOf x).toNat, ⟨0, by omega, rfl, h15⟩, ?_⟩
            clear h15
            rintro x u6 w16 ⟨i, hi4, rfl, h16⟩
            have hr := rl_ok W hsok i
            have hrs : rl W (i + 1) s0 = (rl W i s0).rnd (kl.getD i 0) (W.getD i 0) := rfl
            obtain ⟨s', hs'⟩ : ∃ s', s' = rl W (i + 1) s0 := ⟨_, rfl⟩
            obtain ⟨t, ht⟩ : ∃ t, rl W i s0 = t := ⟨_, rfl⟩
            rw [← hs'] at hrs
            rw [ht] at hr hrs h16
            (repeat (first | (refine mop_c ?_ ?_; first | exact trivial | omega) | (refine dp_c ?_ ?_; first | exact trivial | omega)))
            refine mif_dec (fun hlt4 => ?_) (fun hge4 => ?_)
            · (repeat (first | (refine mop_c ?_ ?_; first | exact trivial | omega) | (refine dp_c ?_ ?_; first | exact trivial | omega)))
              refine mop_ld ((h16.cell 0 rfl 4).trans (show (u32s t.list)[4]? = some (.int .u32 t.e) from rfl)) (by omega) ?_
              (repeat (first | (refine mop_c ?_ ?_; first | exact trivial | omega) | (refine dp_c ?_ ?_; first | exact trivial | omega)))
              refine mop_ld ((h16.cell 0 rfl 0).trans (show (u32s t.list)[0]? = some (.int .u32 t.a) from rfl)) (by omega) ?_
              (repeat (first | (refine mop_c ?_ ?_; first | exact trivial | omega) | (refine dp_c ?_ ?_; first | exact trivial | omega)))
              refine dq_ld ((h16.cell 0 rfl 7).trans (show (u32s t.list)[7]? = some (.int .u32 t.h) from rfl)) (by omega) ?_
              refine df_eq (fun w => turned_k _ 6 w hr.e (by decide)) fun w5 hd5 => ?_
              refine df_eq (fun w => turned_k _ 11 w hr.e (by decide)) fun w6 hd6 => ?_
              (repeat (first | (refine mop_c ?_ ?_; first | exact trivial | omega) | (refine dp_c ?_ ?_; first | exact trivial | omega)))
              refine df_eq (fun w => turned_k _ 25 w hr.e (by decide)) fun w7 hd7 => ?_
              (repeat (first | (refine mop_c ?_ ?_; first | exact trivial | omega) | (refine dp_c ?_ ?_; first | exact trivial | omega)))
              refine dq_ld ((h16.cell 0 rfl 5).trans (show (u32s t.list)[5]? = some (.int .u32 t.f) from rfl)) (by omega) ?_
              (repeat (first | (refine mop_c ?_ ?_; first | exact trivial | omega) | (refine dp_c ?_ ?_; first | exact trivial | omega)))
              refine dq_ld ((h16.cell 0 rfl 6).trans (show (u32s t.list)[6]? = some (.int .u32 t.g) from rfl)) (by omega) ?_
              (repeat (first | (refine mop_c ?_ ?_; first | exact trivial | omega) | (refine dp_c ?_ ?_; first | exact trivial | omega)))
              refine dq_ld ((h16.cell 4 rfl i).trans (u32s_at kl i (by rw [kl_len]; omega))) (by omega) ?_
              (repeat (first | (refine mop_c ?_ ?_; first | exact trivial | omega) | (refine dp_c ?_ ?_; first | exact trivial | omega)))
              refine dq_ld ((h16.cell 1 rfl i).trans (u32s_at W i (by omega))) (by omega) ?_
              (repeat (first | (refine mop_c ?_ ?_; first | exact trivial | omega) | (refine dp_c ?_ ?_; first | exact trivial | omega)))
              refine dend_intro fun w8 hd8 => ?_
              have h17 := h16.drawn (((hd5.trans hd6).trans hd7).trans hd8)
              refine df_eq (fun w => turned_k _ 2 w hr.a (by decide)) fun w9 hd9 => ?_
              refine df_eq (fun w => turned_k _ 13 w hr.a (by decide)) fun w10 hd10 => ?_
              (repeat (first | (refine mop_c ?_ ?_; first | exact trivial | omega) | (refine dp_c ?_ ?_; first | exact trivial | omega)))
              refine df_eq (fun w => turned_k _ 22 w hr.a (by decide)) fun w11 hd11 => ?_
              (repeat (first | (refine mop_c ?_ ?_; first | exact trivial | omega) | (refine dp_c ?_ ?_; first | exact trivial | omega)))
              refine dq_ld ((h17.cell 0 rfl 1).trans (show (u32s t.list)[1]? = some (.int .u32 t.b) from rfl)) (by omega) ?_
              (repeat (first | (refine mop_c ?_ ?_; first | exact trivial | omega) | (refine dp_c ?_ ?_; first | exact trivial | omega)))
              refine dq_ld ((h17.cell 0 rfl 2).trans (show (u32s t.list)[2]? = some (.int .u32 t.c) from rfl)) (by omega) ?_
              (repeat (first | (refine mop_c ?_ ?_; first | exact trivial | omega) | (refine dp_c ?_ ?_; first | exact trivial | omega)))
              refine dq_ld ((h17.cell 0 rfl 1).trans (show (u32s t.list)[1]? = some (.int .u32 t.b) from rfl)) (by omega) ?_
              (repeat (first | (refine mop_c ?_ ?_; first | exact trivial | omega) | (refine dp_c ?_ ?_; first | exact trivial | omega)))
              refine dq_ld ((h17.cell 0 rfl 2).trans (show (u32s t.list)[2]? = some (.int .u32 t.c) from rfl)) (by omega) ?_
              (repeat (first | (refine mop_c ?_ ?_; first | exact trivial | omega) | (refine dp_c ?_ ?_; first | exact trivial | omega)))
              refine dend_intro fun w12 hd12 => ?_
              have h18 := h17.drawn (((hd9.trans hd10).trans hd11).trans hd12)
              clear h16 h17
              (repeat (first | (refine mop_c ?_ ?_; first | exact trivial | omega) | (refine dp_c ?_ ?_; first | exact trivial | omega)))
              refine mop_ld ((h18.cell 0 rfl 0).trans (show (u32s t.list)[0]? = some (.int .u32 t.a) from rfl)) (by omega) ?_
              (repeat (first | (refine mop_c ?_ ?_; first | exact trivial | omega) | (refine dp_c ?_ ?_; first | exact trivial | omega)))
              refine mop_ld ((h18.cell 0 rfl 1).trans (show (u32s t.list)[1]? = some (.int .u32 t.b) from rfl)) (by omega) ?_
              (repeat (first | (refine mop_c ?_ ?_; first | exact trivial | omega) | (refine dp_c ?_ ?_; first | exact trivial | omega)))
              refine mop_ld ((h18.cell 0 rfl 2).trans (show (u32s t.list)[2]? = some (.int .u32 t.c) from rfl)) (by omega) ?_
              (repeat (first | (refine mop_c ?_ ?_; first | exact trivial | omega) | (refine dp_c ?_ ?_; first | exact trivial | omega)))
              refine mop_ld ((h18.cell 0 rfl 3).trans (show (u32s t.list)[3]? = some (.int .u32 t.d) from rfl)) (by omega) ?_
              (repeat (first | (refine mop_c ?_ ?_; first | exact trivial | omega) | (refine dp_c ?_ ?_; first | exact trivial | omega)))
              refine mop_ld ((h18.cell 0 rfl 4).trans (show (u32s t.list)[4]? = some (.int .u32 t.e) from rfl)) (by omega) ?_
              (repeat (first | (refine mop_c ?_ ?_; first | exact trivial | omega) | (refine dp_c ?_ ?_; first | exact trivial | omega)))
              refine mop_ld ((h18.cell 0 rfl 5).trans (show (u32s t.list)[5]? = some (.int .u32 t.f) from rfl)) (by omega) ?_
              (repeat (first | (refine mop_c ?_ ?_; first | exact trivial | omega) | (refine dp_c ?_ ?_; first | exact trivial | omega)))
              refine mop_ld ((h18.cell 0 rfl 6).trans (show (u32s t.list)[6]? = some (.int .u32 t.g) from rfl)) (by omega) ?_
              refine mop_pur (v := .agg (u32s s'.list).toArray) (by rw [hrs]; exact build8 _ _ _ _ _ _ _ _) ?_
              refine mop_storeN (q := true) (k := 8) (by kernel_rfl) h18 rfl (u32s_one s'.list) (by simp [u32s, S8.list]) (fun w13 h19 => ?_)
              have e9 : lay (u32s t.list) (Value.agg (u32s s'.list).toArray).cells.toList 0 = u32s s'.list := lay_all _ _ rfl
              rw [e9] at h19
              (repeat (first | (refine mop_c ?_ ?_; first | exact trivial | omega) | (refine dp_c ?_ ?_; first | exact trivial | omega)))
              exact ⟨⟨i + 1, by omega, rfl, by rw [← hs']; exact h19⟩, by simp [intOf]; omega⟩
            · obtain rfl : i = 64 := by omega
              rw [ht] at hbl
              refine ⟨fun x w2 => ∃ i : Nat, i ≤ 8 ∧ x = .int .i64 i ∧ St w [⟨gv, 140, u32s (addK s0.list t.list i), true⟩, ⟨gs, 140, u32s t.list, true⟩, ⟨gw, 141, u32s W, true⟩, ⟨gm, 5, u8s M ++ sp, true⟩, ⟨gk, 141, u32s kl, true⟩, ⟨go, 33, List.replicate 32 (.int .u8 0), true⟩] w2,
                fun x _ => 8 - (intOf x).toNat, ⟨0, by omega, rfl, h16.up2⟩, ?_⟩
              clear h16
              rintro x u7 w17 ⟨i, hi5, rfl, h17⟩
              (repeat (first | (refine mop_c ?_ ?_; first | exact trivial | omega) | (refine dp_c ?_ ?_; first | exact trivial | omega)))
              have hal : (addK s0.list t.list i).length = 8 := addK_len s0.list t.list i
              refine mif_dec (fun hlt5 => ?_) (fun hge5 => ?_)
              · (repeat (first | (refine mop_c ?_ ?_; first | exact trivial | omega) | (refine dp_c ?_ ?_; first | exact trivial | omega)))
                refine dq_ld ((h17.cell 0 rfl i).trans (u32s_at _ i (by omega))) (by omega) ?_
                (repeat (first | (refine mop_c ?_ ?_; first | exact trivial | omega) | (refine dp_c ?_ ?_; first | exact trivial | omega)))
                refine dq_ld ((h17.cell 1 rfl i).trans (u32s_at t.list i (by simp [S8.list]; omega))) (by omega) ?_
                (repeat (first | (refine mop_c ?_ ?_; first | exact trivial | omega) | (refine dp_c ?_ ?_; first | exact trivial | omega)))
                refine df_st (j := i) h17 (by omega) (by rw [u32s_length]; omega) rfl (fun w18 h18 => ?_)
                refine dend_intro fun w19 hd19 => ?_
                have h19 := h18.drawn hd19
                (repeat (first | (refine mop_c ?_ ?_; first | exact trivial | omega) | (refine dp_c ?_ ?_; first | exact trivial | omega)))
                refine ⟨⟨i + 1, by omega, rfl, ?_⟩, by simp [intOf]; omega⟩
                rw [set_u32s, addK_at s0.list t.list i i (Nat.le_refl i)] at h19
                exact h19
              · obtain rfl : i = 8 := by omega
                (repeat (first | (refine mop_c ?_ ?_; first | exact trivial | omega) | (refine dp_c ?_ ?_; first | exact trivial | omega)))
                refine ⟨⟨j + 1, by omega, by simp only [Value.int.injEq, true_and]; omega, ?_⟩, by simp [intOf]; omega⟩
                have e10 := addK_end s0.list t rfl
                rw [s8_list, ← hbl] at e10
                rw [e10] at h17
                rw [← hS]
                exact h17.swap.drop.swap.drop
      · have hjN : 64 * j = M.length := by omega
        have hfin : feedAll (h0, []) M = (blocks M j, []) := by
          have := blocks_feed M j (by omega)
          rwa [hjN, List.take_length] at this
        rw [hfin]
        generalize blocks M j = y at h10
        have hy8 : y.list.length = 8 := rfl
        refine mop_new h10 (fun gu w11 h11 => ?_)
        refine ⟨fun x w2 => ∃ i : Nat, i ≤ 32 ∧ x = .int .i64 i ∧ St w [⟨gu, 33, u8s (fill (outAt y.list) 32 i), true⟩, ⟨gv, 140, u32s y.list, true⟩, ⟨gm, 5, u8s M ++ sp, true⟩, ⟨gk, 141, u32s kl, true⟩, ⟨go, 33, List.replicate 32 (.int .u8 0), true⟩] w2,
          fun x _ => 32 - (intOf x).toNat, ⟨0, by omega, rfl, h11⟩, ?_⟩
        clear h10 h11
        rintro x u4 w12 ⟨i, hi, rfl, h12⟩
        (repeat (first | (refine mop_c ?_ ?_; first | exact trivial | omega) | (refine dp_c ?_ ?_; first | exact trivial | omega)))
        refine mif_dec (fun hlt2 => ?_) (fun hge2 => ?_)
        · (repeat (first | (refine mop_c ?_ ?_; first | exact trivial | omega) | (refine dp_c ?_ ?_; first | exact trivial | omega)))
          refine mop_ld ((h12.cell 1 rfl (i / 4)).trans (u32s_at y.list (i / 4) (by omega))) (by omega) ?_
          (repeat (first | (refine mop_c ?_ ?_; first | exact trivial | omega) | (refine dp_c ?_ ?_; first | exact trivial | omega)))
          refine mop_st (j := i) h12 (by omega) (by rw [u8s_length, fill_length _ _ _ hi]; omega) rfl (fun w13 h13 => ?_)
          (repeat (first | (refine mop_c ?_ ?_; first | exact trivial | omega) | (refine dp_c ?_ ?_; first | exact trivial | omega)))
          refine ⟨⟨i + 1, by omega, rfl, ?_⟩, by simp [intOf]; omega⟩
          rw [← fill_set _ _ _ (by omega), ← set_u8s]
          have e : outAt y.list i = y.list.getD (i / 4) 0 / 2 ^ (((24 : Int) - 8 * ((i : Int) % 4)) % 18446744073709551616).toNat % 256 := by
            unfold outAt
            congr 3
            omega
          rw [e]
          exact h13
        · obtain rfl : i = 32 := by omega
          have hf : fill (outAt y.list) 32 32 = outB y := by simp [fill, outB]
          rw [hf] at h12
          have hol : (u8s (outB y)).length = 32 := by simp [outB, u8s]
          refine mop_ldN (cells_of_row h12.head) hol rfl ?_
          have h13 := h12.drop.drop.drop.drop
          refine mop_storeN (q := true) (k := 32) (by kernel_rfl) h13 (by simpa [Value.cells] using hol) (by intro u hu; exact u8s_one _ u hu) (by simp) (fun w14 h14 => ?_)
          have e : lay (List.replicate 32 (Value.int .u8 0)) (Value.agg (u8s (outB y)).toArray).cells.toList 0 = u8s (outB y) := lay_all _ _ (by show (u8s (outB y)).length = _; rw [hol]; simp)
          rw [e] at h14
          refine rcell_ldN (cells_of_row h14.head) hol ?_
          exact ⟨rfl, h14.drop⟩
end Go.Proofs.Ytopcnkejobomaaa
/- Of the texts on digests: what others use. (Taken out of XSha5, XSha6, XSha7.) -/
namespace Go.Proofs.Ytopcnkejobomaaa
open Go.RowKit

theorem buildstr (s : ByteArray) (w : World) : (o_buildSlice 137 1 [(0, .string s)]).run Try.prog w = .ok (.value (.slice (some ⟨w.heap.size, 0, none⟩) 1 1)) (w.alloc (.cells [Value.string s].toArray 9)) := by kernel_rfl
theorem sum_one (s : ByteArray) (w : World) (hsz : s.size < 4611686018427387904) : Calls Try.prog 53 #[.slice (some ⟨w.heap.size, 0, none⟩) 1 1] (w.alloc (.cells [Value.string s].toArray 9)) fun e w' => e = .returned (hv (shaSum (ints s))) ∧ St w [] w' := by
  have h := sum_ok (some ⟨w.heap.size, 0, none⟩) [s] 1 (w.alloc (.cells [Value.string s].toArray 9)) (rd_new w [Value.string s] 9) (by simp) (by simpa [cat, ints_length] using hsz)
  refine h.mono ?_
  rintro e w' ⟨rfl, h'⟩
  refine ⟨by simp [cat], ?_⟩
  have := (St.nil w).alloc 9 [.string s]
  exact this.drop.call0 h'
theorem p_eql_hv (q : Bool) (xs ys : List Int) (hx : xs.length = 32) (hy : ys.length = 32) : Pur Try.prog (o_bin .eql 34 q (hv xs) (hv ys)) (.bool (decide (xs = ys))) :=
  p_eql_ints 34 5 32 q .u8 xs ys (by kernel_rfl) (by kernel_rfl) (by kernel_rfl) (by kernel_rfl) hx hy
theorem strOfNums_append (a b : List Int) : strOfNums a ++ strOfNums b = strOfNums (a ++ b) := by
  apply ByteArray.ext
  simp [strOfNums]
theorem St.ext {w w' : World} {L : List Bk} (h : St w L w') (hn : ∀ b ∈ L, b.nw = true) : Ext w w' :=
  h.only.mono (fun i _ hi => by
    obtain ⟨b, hb, h2, _⟩ := hi
    rw [hn b hb] at h2
    cases h2)
theorem St.ext0 {w w' : World} (h : St w [] w') : Ext w w' := h.ext (fun _ h => by cases h)
theorem build1b (a : Int) (w : World) : (o_buildSlice 106 1 [(0, .int .u8 a)]).run Try.prog w = .ok (.value (.slice (some ⟨w.heap.size, 0, none⟩) 1 1)) (w.alloc (.cells (u8s [a]).toArray 5)) := by kernel_rfl
theorem p_index_str (s : ByteArray) (i : Int) (h0 : 0 ≤ i) (h1 : i < s.size) : Pur Try.prog (o_index 9 (.string s) (.int .i64 i)) (.int .u8 ((ints s).getD i.toNat 0)) := p_index_string (P := Try.prog) 9 s .i64 i (by kernel_rfl) h0 h1
theorem conv1 (a : Int) (w : World) {w0 : World} {L : List Bk} (h : St w0 L w) :
    PurW Try.prog (w.alloc (.cells (u8s [a]).toArray 5)) (o_conv 106 9 (.slice (some ⟨w.heap.size, 0, none⟩) 1 1)) (.string (strOfNums [a])) :=
  pw_conv_bytes 106 9 5 w.heap.size 0 1 _ [a] (by kernel_rfl) (by kernel_rfl) (by kernel_rfl) rfl (fun i hi => by
    rw [Nat.zero_add, (h.alloc 5 (u8s [a])).cell 0 rfl i]
    have : i = 0 := by omega
    subst this
    rfl)
end Go.Proofs.Ytopcnkejobomaaa
