/- SHA-256 in plain terms: words as integers below 2^32, the schedule, the rounds, a block, bytes one by one. No program is named here. -/
import Derived.Test.YtmjpbomonhjebaaBase
namespace Go.Proofs.Ytmjpbomonhjebaa
open Go.RowKit

def M32 : Int := 4294967296
theorem bits_or_comm (a b : Int) : bits .or .u32 a b = bits .or .u32 b a := by
  show IntKind.u32.wrap ((BitVec.ofInt 32 a ||| BitVec.ofInt 32 b).toNat : Int) = IntKind.u32.wrap ((BitVec.ofInt 32 b ||| BitVec.ofInt 32 a).toNat : Int)
  rw [BitVec.or_comm]
theorem wrap_u32_bd (a : Int) : 0 ≤ IntKind.u32.wrap a ∧ IntKind.u32.wrap a < 4294967296 := by
  have : IntKind.u32.wrap a = a % 4294967296 := by simp [IntKind.wrap, IntKind.bits, IntKind.signed]
  rw [this]; omega
theorem wrap_u32_mod (a : Int) : IntKind.u32.wrap a = a % 4294967296 := by simp [IntKind.wrap, IntKind.bits, IntKind.signed]
/-- A word. -/
def Wd (x : Int) : Prop := 0 ≤ x ∧ x < 4294967296
theorem wd_xor (a b : Int) : Wd (bits .xor .u32 a b) := wrap_u32_bd _
theorem wd_or (a b : Int) : Wd (bits .or .u32 a b) := wrap_u32_bd _
theorem wd_and (a b : Int) : Wd (bits .and .u32 a b) := wrap_u32_bd _
theorem wd_mod (a : Int) : Wd (a % 4294967296) := ⟨by omega, by omega⟩
/-- Turned right by k. -/
def rotr (x : Int) (k : Nat) : Int := bits .or .u32 (x / 2 ^ k) (x * 2 ^ (32 - k) % 4294967296)
theorem wd_rotr (x : Int) (k : Nat) : Wd (rotr x k) := wd_or _ _
/-- Four bytes as a word. -/
def word4 (a b c d : Int) : Int := bits .or .u32 (bits .or .u32 (bits .or .u32 (a * 16777216 % 4294967296) (b * 65536 % 4294967296)) (c * 256 % 4294967296)) d
def sig0 (x : Int) : Int := bits .xor .u32 (bits .xor .u32 (rotr x 7) (rotr x 18)) (x / 8)
def sig1 (x : Int) : Int := bits .xor .u32 (bits .xor .u32 (rotr x 17) (rotr x 19)) (x / 1024)
/-- The next word of the schedule. -/
def nextw (a b x y : Int) : Int := (((a + b) % 4294967296 + sig0 x) % 4294967296 + sig1 y) % 4294967296
/-- The first i words of a block's schedule. -/
def wl (bs : List Int) : Nat → List Int
  | 0 => []
  | i + 1 => wl bs i ++ [if i < 16 then word4 (bs.getD (4 * i) 0) (bs.getD (4 * i + 1) 0) (bs.getD (4 * i + 2) 0) (bs.getD (4 * i + 3) 0)
      else nextw ((wl bs i).getD (i - 16) 0) ((wl bs i).getD (i - 7) 0) ((wl bs i).getD (i - 15) 0) ((wl bs i).getD (i - 2) 0)]
/-- The eight words. -/
structure S8 where
  a : Int
  b : Int
  c : Int
  d : Int
  e : Int
  f : Int
  g : Int
  h : Int
  deriving DecidableEq
def S8.t1 (s : S8) (k w : Int) : Int :=
  ((((s.h + bits .xor .u32 (bits .xor .u32 (rotr s.e 6) (rotr s.e 11)) (rotr s.e 25)) % 4294967296 + bits .xor .u32 (bits .and .u32 s.e s.f) (bits .and .u32 (bits .xor .u32 4294967295 s.e) s.g)) % 4294967296 + k) % 4294967296 + w) % 4294967296
def S8.t2 (s : S8) : Int :=
  (bits .xor .u32 (bits .xor .u32 (rotr s.a 2) (rotr s.a 13)) (rotr s.a 22) + bits .xor .u32 (bits .xor .u32 (bits .and .u32 s.a s.b) (bits .and .u32 s.a s.c)) (bits .and .u32 s.b s.c)) % 4294967296
def S8.rnd (s : S8) (k w : Int) : S8 := ⟨(s.t1 k w + s.t2) % 4294967296, s.a, s.b, s.c, (s.d + s.t1 k w) % 4294967296, s.e, s.f, s.g⟩
def kl : List Int := [1116352408, 1899447441, 3049323471, 3921009573, 961987163, 1508970993, 2453635748, 2870763221, 3624381080, 310598401, 607225278, 1426881987, 1925078388, 2162078206, 2614888103, 3248222580, 3835390401, 4022224774, 264347078, 604807628, 770255983, 1249150122, 1555081692, 1996064986, 2554220882, 2821834349, 2952996808, 3210313671, 3336571891, 3584528711, 113926993, 338241895, 666307205, 773529912, 1294757372, 1396182291, 1695183700, 1986661051, 2177026350, 2456956037, 2730485921, 2820302411, 3259730800, 3345764771, 3516065817, 3600352804, 4094571909, 275423344, 430227734, 506948616, 659060556, 883997877, 958139571, 1322822218, 1537002063, 1747873779, 1955562222, 2024104815, 2227730452, 2361852424, 2428436474, 2756734187, 3204031479, 3329325298]
def rl (ws : List Int) : Nat → S8 → S8
  | 0, s => s
  | i + 1, s => (rl ws i s).rnd (kl.getD i 0) (ws.getD i 0)
def S8.add (s t : S8) : S8 := ⟨(s.a + t.a) % 4294967296, (s.b + t.b) % 4294967296, (s.c + t.c) % 4294967296, (s.d + t.d) % 4294967296, (s.e + t.e) % 4294967296, (s.f + t.f) % 4294967296, (s.g + t.g) % 4294967296, (s.h + t.h) % 4294967296⟩
/-- A block of 64 bytes. -/
def compress (s : S8) (bs : List Int) : S8 := s.add (rl (wl bs 64) 64 s)
def h0 : S8 := ⟨1779033703, 3144134277, 1013904242, 2773480762, 1359893119, 2600822924, 528734635, 1541459225⟩
/-- Bytes taken in one by one: the words, and what does not fill a block yet. -/
def feed (x : S8 × List Int) (b : Int) : S8 × List Int := if x.2.length = 63 then (compress x.1 (x.2 ++ [b]), []) else (x.1, x.2 ++ [b])
end Go.Proofs.Ytmjpbomonhjebaa
