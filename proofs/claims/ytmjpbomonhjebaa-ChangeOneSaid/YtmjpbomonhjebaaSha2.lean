/- put: bytes taken into the running digest. -/
import Derived.Test.YtmjpbomonhjebaaSha1
namespace Go.Proofs.Ytmjpbomonhjebaa
open Go.RowKit

def feedAll (x : S8 × List Int) (bs : List Int) : S8 × List Int := bs.foldl feed x
theorem feedAll_append (x : S8 × List Int) (a b : List Int) : feedAll x (a ++ b) = feedAll (feedAll x a) b := by simp [feedAll]
theorem feedAll_short (s : S8) : ∀ (bs p : List Int), p.length + bs.length < 64 → feedAll (s, p) bs = (s, p ++ bs)
  | [], p, _ => by simp [feedAll]
  | b :: bs, p, h => by
    have h1 : feed (s, p) b = (s, p ++ [b]) := by
      unfold feed
      rw [if_neg (by simp at h ⊢; omega)]
    show feedAll (feed (s, p) b) bs = _
    rw [h1, feedAll_short s bs (p ++ [b]) (by simp at h ⊢; omega)]
    simp
theorem feedAll_full (s : S8) (bs p : List Int) (hb : 0 < bs.length) (h : p.length + bs.length = 64) : feedAll (s, p) bs = (compress s (p ++ bs), []) := by
  obtain ⟨cs, c, rfl⟩ : ∃ cs c, bs = cs ++ [c] := ⟨bs.dropLast, bs.getLast (by intro e; simp [e] at hb), (List.dropLast_concat_getLast _).symm⟩
  rw [feedAll_append, feedAll_short s cs p (by simp at h; omega)]
  show feed (s, p ++ cs) c = _
  unfold feed
  rw [if_pos (by simp at h ⊢; omega)]
  simp
theorem compress_ok {s : S8} (bs : List Int) : (compress s bs).Ok := ⟨wd_mod _, wd_mod _, wd_mod _, wd_mod _, wd_mod _, wd_mod _, wd_mod _, wd_mod _⟩
/-- What has come in so far: x, and n bytes in all; the block. -/
structure Dig (x : S8 × List Int) (n : Nat) (bl : List Int) : Prop where
  ok : x.1.Ok
  len : bl.length = 64
  by_ : ∀ c ∈ bl, 0 ≤ c ∧ c < 256
  pend : x.2.length = n % 64
  has : bl.take x.2.length = x.2
theorem s8_list (s : S8) : s8 s.list = s := rfl
theorem list_wd {s : S8} (h : s.Ok) : ∀ x ∈ s.list, Wd x := by
  intro x hx
  simp only [S8.list, List.mem_cons, List.not_mem_nil, or_false] at hx
  rcases hx with rfl | rfl | rfl | rfl | rfl | rfl | rfl | rfl
  · exact h.a
  · exact h.b
  · exact h.c
  · exact h.d
  · exact h.e
  · exact h.f
  · exact h.g
  · exact h.h
/-- The block behind a copy. -/
def blCopy (bl bs : List Int) (i : Nat) : List Int := bl.take i ++ bs ++ bl.drop (i + bs.length)
theorem st_lay (hs bl bs : List Int) (n : Int) (i : Nat) (hh : hs.length = 8) (hb : bl.length = 64) (hi : i + bs.length ≤ 64) : lay (stCells hs bl n) (u8s bs) (8 + i) = stCells hs (blCopy bl bs i) n := by
  have e8 : (u32s hs).length = 8 := by simp [u32s, hh]
  have ebs : (u8s bs).length = bs.length := by simp [u8s]
  unfold lay stCells
  rw [List.take_append, List.take_of_length_le (by omega), List.drop_append, List.drop_eq_nil_of_le (by omega), e8, ebs]
  rw [show 8 + i - 8 = i by omega, show 8 + i + bs.length - 8 = i + bs.length by omega]
  rw [List.take_append_of_le_length (by simp [u8s]; omega), List.drop_append_of_le_length (by simp [u8s]; omega)]
  simp [u8s, blCopy]
theorem put_step {x : S8 × List Int} {n : Nat} {bl bs : List Int} (h : Dig x n bl) (hbs : ∀ c ∈ bs, 0 ≤ c ∧ c < 256) (hl : n % 64 + bs.length ≤ 64) (h0 : 0 < bs.length) :
    let bl' := blCopy bl bs (n % 64)
    (∀ c ∈ bl', 0 ≤ c ∧ c < 256) ∧ bl'.length = 64 ∧ (n % 64 + bs.length < 64 → Dig (feedAll x bs) (n + bs.length) bl' ∧ (feedAll x bs).1 = x.1) ∧ (n % 64 + bs.length = 64 → (feedAll x bs).1 = compress x.1 bl' ∧ Dig (feedAll x bs) (n + bs.length) bl') := by
  obtain ⟨s, p⟩ := x
  obtain ⟨hok, hlen, hby, hp, hhas⟩ := h
  simp only [] at hp hhas hok
  have hpn : p.length ≤ 64 := by omega
  have hb1 : ∀ c ∈ blCopy bl bs (n % 64), 0 ≤ c ∧ c < 256 := fun c hc => by
    simp only [blCopy, List.mem_append] at hc
    rcases hc with (hc | hc) | hc
    · exact hby c (List.mem_of_mem_take hc)
    · exact hbs c hc
    · exact hby c (List.mem_of_mem_drop hc)
  have hb2 : (blCopy bl bs (n % 64)).length = 64 := by simp [blCopy, hlen]; omega
  have hpre : (blCopy bl bs (n % 64)).take (p.length + bs.length) = p ++ bs := by
    unfold blCopy
    rw [hp] at hhas
    rw [hhas, hp, List.take_append_of_le_length (by simp [hp]), List.take_of_length_le (by simp [hp])]
  refine ⟨hb1, hb2, fun hlt => ?_, fun heq => ?_⟩
  · have e := feedAll_short s bs p (by omega)
    rw [e]
    exact ⟨⟨hok, hb2, hb1, by simp [hp]; omega, by simpa using hpre⟩, rfl⟩
  · have e := feedAll_full s bs p h0 (by omega)
    rw [e]
    have hall : blCopy bl bs (n % 64) = p ++ bs := by
      rw [← hpre, List.take_of_length_le (by omega)]
    refine ⟨by rw [hall], compress_ok _, hb2, hb1, ?_, rfl⟩
    simp
    omega
def strLen : Value → Nat
  | .string s => s.size
  | _ => 0
theorem ints_extract (s : ByteArray) (i j : Nat) : ints (s.extract i j) = ((ints s).take j).drop i := by
  simp [ints, List.map_drop, List.map_take]
  rw [List.drop_take]
theorem extract_extract (s : ByteArray) (k m : Nat) (h : k + m ≤ s.size) : (s.extract k s.size).extract m (s.size - k) = s.extract (k + m) s.size := by
  rw [← str_ints ((s.extract k s.size).extract m (s.size - k)), ← str_ints (s.extract (k + m) s.size), ints_extract, ints_extract, ints_extract]
  congr 1
  have hl := ints_length s
  have e : (ints s).take s.size = ints s := List.take_of_length_le (by omega)
  rw [e, List.take_of_length_le (by rw [List.length_drop]; omega), List.drop_drop]

set_option maxRecDepth 100000 in
theorem put_ok (b : Nat) (x : S8 × List Int) (n : Nat) (bl : List Int) (t : ByteArray) (w : World) (hb : Blf w b 155 (stCells x.1.list bl n)) (hd : Dig x n bl) (hn : n + t.size < 9223372036854775808) :
    Calls Try.prog 116 #[.pointer (some ⟨b, 0, none⟩), .string t] w fun e w' => e = .returned (.tuple #[]) ∧ ∃ bl', Dig (feedAll x (ints t)) (n + t.size) bl' ∧ St w [⟨b, 155, stCells (feedAll x (ints t)).1.list bl' ((n + t.size : Nat) : Int), false⟩] w' := by
  refine C_sha_state_put ?_
  unfold F_sha_state_put
  refine ⟨fun v w2 => ∃ (k : Nat) (bl' : List Int), k ≤ t.size ∧ v = .string (t.extract k t.size) ∧ Dig (feedAll x ((ints t).take k)) (n + k) bl' ∧ St w [⟨b, 155, stCells (feedAll x ((ints t).take k)).1.list bl' ((n + k : Nat) : Int), false⟩] w2, fun v _ => strLen v, ⟨0, bl, by omega, by simp, by simpa [feedAll] using hd, by simp [feedAll]; exact St.oneF hb⟩, ?_⟩
  rintro v u w1 ⟨k, bl', hk, rfl, hd1, h1⟩
  have hsz : (t.extract k t.size).size = t.size - k := by simp
  refine mop_c trivial ?_
  rw [hsz]
  refine mop_c trivial ?_
  refine mif_dec (fun hlt => ?_) (fun hge => ?_)
  · have hll : 0 < t.size - k := by omega
    (repeat (first | (refine mop_c ?_ ?_; first | exact trivial | omega) | (refine dp_c ?_ ?_; first | exact trivial | omega)))
    have hlist : (feedAll x ((ints t).take k)).1.list.length = 8 := rfl
    refine dq_ld ((h1.cell 0 rfl 72).trans (st_n hlist hd1.len)) rfl ?_
    (repeat (first | (refine mop_c ?_ ?_; first | exact trivial | omega) | (refine dp_c ?_ ?_; first | exact trivial | omega)))
    refine df_mop fun w2 hd2 => ?_
    have hi : ((((n + k : Nat) : Int)) % 64).toNat = (n + k) % 64 := by omega
    rw [hi]
    obtain ⟨w3, hr, h3⟩ := run_copy_string (P := Try.prog) (o := 0 + 8 + (n + k) % 64) (m := 64 - (n + k) % 64) (c := 64 - (n + k) % 64) (s := t.extract k t.size) (dT := 86) (sT := 9) (ty := 3) (e := 5) (ks := [false, false]) (h1.drawn hd2) (by kernel_rfl) (by kernel_rfl) (by rw [st_len hlist hd1.len]; omega)
    refine mop_run hr ⟨(fun e => by cases e), ?_⟩
    have hm : min (t.extract k t.size).size (64 - (n + k) % 64) = min (t.size - k) (64 - (n + k) % 64) := by rw [hsz]
    rw [hm] at h3 ⊢
    obtain ⟨m, hmm⟩ : ∃ m, m = min (t.size - k) (64 - (n + k) % 64) := ⟨_, rfl⟩
    rw [← hmm] at h3 ⊢
    have hbl : ((ints (t.extract k t.size)).take m).length = m := by rw [List.length_take, ints_length, hsz]; omega
    have hbr : ∀ c ∈ (ints (t.extract k t.size)).take m, 0 ≤ c ∧ c < 256 := fun c hc => ints_range _ c (List.mem_of_mem_take hc)
    rw [show 0 + 8 + (n + k) % 64 = 8 + (n + k) % 64 by omega, st_lay _ _ _ _ _ hlist hd1.len (by rw [hbl]; omega)] at h3
    have hstep := put_step hd1 hbr (by rw [hbl]; omega) (by rw [hbl]; omega)
    have hfeed : feedAll (feedAll x ((ints t).take k)) ((ints (t.extract k t.size)).take m) = feedAll x ((ints t).take (k + m)) := by
      have e : (ints t).take t.size = ints t := List.take_of_length_le (by rw [ints_length]; omega)
      rw [← feedAll_append, ints_extract, e, ← List.take_add]
    rw [hfeed, hbl] at hstep
    have hext := extract_extract t k m (by omega)
    generalize blCopy bl' ((ints (t.extract k t.size)).take m) ((n + k) % 64) = bl2 at h3 hstep
    obtain ⟨hby2, hlen2, hs1, hs2⟩ := hstep
    refine dend_intro fun w4 hd4 => ?_
    have h4 := h3.drawn hd4
    clear h1 h3 hr hfeed
    refine mop_c (by rw [hsz]; omega) ?_
    rw [hsz, Int.toNat_natCast, hext]
    (repeat (first | (refine mop_c ?_ ?_; first | exact trivial | omega) | (refine dp_c ?_ ?_; first | exact trivial | omega)))
    refine mop_ld ((h4.cell 0 rfl 72).trans (st_n hlist hlen2)) rfl ?_
    (repeat (first | (refine mop_c ?_ ?_; first | exact trivial | omega) | (refine dp_c ?_ ?_; first | exact trivial | omega)))
    refine mop_st (j := 72) h4 rfl (by rw [st_len hlist hlen2]; omega) rfl (fun w5 h5 => ?_)
    rw [st_set_n hlist hlen2] at h5
    (repeat (first | (refine mop_c ?_ ?_; first | exact trivial | omega) | (refine dp_c ?_ ?_; first | exact trivial | omega)))
    refine mop_ld ((h5.cell 0 rfl 72).trans (st_n hlist hlen2)) rfl ?_
    (repeat (first | (refine mop_c ?_ ?_; first | exact trivial | omega) | (refine dp_c ?_ ?_; first | exact trivial | omega)))
    have hsz2 : (t.extract (k + m) t.size).size = t.size - (k + m) := by simp
    have hnk : ((n + k : Nat) : Int) + (m : Int) = ((n + (k + m) : Nat) : Int) := by omega
    rw [hnk] at h5 ⊢
    refine mif_dec (fun hz => ?_) (fun hnz => ?_)
    · obtain ⟨hs3, hs4⟩ := hs2 (by omega)
      refine mop_to (turn_ok b _ bl2 _ w5 h5.head hlist hlen2 hby2 (list_wd hd1.ok)) ?_
      rintro e w6 ⟨rfl, h6⟩
      have h7 := h5.call1 h6
      rw [s8_list, ← hs3] at h7
      exact ⟨⟨k + m, bl2, by omega, rfl, by rw [← Nat.add_assoc]; exact hs4, h7⟩, by simp only [strLen, hsz, hsz2]; omega⟩
    · obtain ⟨hs3, hs4⟩ := hs1 (by omega)
      rw [← hs4] at h5
      exact ⟨⟨k + m, bl2, by omega, rfl, by rw [← Nat.add_assoc]; exact hs3, h5⟩, by simp only [strLen, hsz, hsz2]; omega⟩
  · obtain rfl : k = t.size := by omega
    have e : (ints t).take t.size = ints t := List.take_of_length_le (by rw [ints_length]; omega)
    rw [e] at hd1 h1
    exact ⟨rfl, bl', hd1, h1⟩
end Go.Proofs.Ytmjpbomonhjebaa
