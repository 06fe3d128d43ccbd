/- Change: texts, signatures, names. -/
import Derived.Test.YtmjpbomonhjebaaCh1
namespace Go.Proofs.Ytmjpbomonhjebaa
open Go.RowKit

def shaH (l : List Int) : H32 := ⟨shaSum l, shaSum_length l, shaSum_range l⟩
def hmacH (k m : List Int) : H32 := ⟨hmac k m, hmac_length k m, hmac_range k m⟩
theorem ints_append (a b : ByteArray) : ints (a ++ b) = ints a ++ ints b := by
  obtain ⟨⟨a⟩⟩ := a
  obtain ⟨⟨b⟩⟩ := b
  simp [ints]
abbrev sver : ByteArray := ByteArray.mk #[118, 101, 114]
abbrev ssign : ByteArray := ByteArray.mk #[115, 105, 103, 110]
abbrev schange : ByteArray := ByteArray.mk #[99, 104, 97, 110, 103, 101]
def verV (k : H32) : H32 := shaH (ints sver ++ k.1)
def signV (v : H32) (t : List Int) : H32 := hmacH v.1 (ints ssign ++ t)
theorem ints_h (h : H32) : ints (strOfNums h.1) = h.1 := ints_str _ h.2.2
section
variable {H : Hp} {w0 w : World} {L R : List Res} {g : Nat}
theorem cat2 (a b : ByteArray) : cat [a, b] = ints a ++ ints b := by simp [cat]
theorem sum2_ok {A : Option Addr} {e : Nat} (a b : ByteArray) (hs : a.size + b.size < 1000000000000) (hM : Mem H w0 L w) [k : AtA L A 2 2 e 1 [[.one (.string a)], [.one (.string b)]] R] :
    Calls Try.prog 68 #[.slice A 2 2] w fun en w' => en = .returned (.agg (u8s (shaH (ints a ++ ints b)).1).toArray) ∧ St w [] w' := by
  have h := sum_ok A [a, b] 2 w (hM.rd k) (by simp) (by rw [cat2, List.length_append, ints_length, ints_length]; omega)
  rw [cat2] at h
  exact h
theorem code2_ok {A : Option Addr} {e : Nat} (key : H32) (a b : ByteArray) (hs : a.size + b.size < 1000000000) (hM : Mem H w0 L w) [k : AtA L A 2 2 e 1 [[.one (.string a)], [.one (.string b)]] R] :
    Calls Try.prog 144 #[.string (strOfNums key.1), .slice A 2 2] w fun en w' => en = .returned (.agg (u8s (hmacH key.1 (ints a ++ ints b)).1).toArray) ∧ St w [] w' := by
  have h := code_ok (strOfNums key.1) A [a, b] 2 w (hM.rd k) (by rw [strOfNums_size, key.2.1]; omega) (by simp) (by rw [cat2, List.length_append, ints_length, ints_length]; omega)
  rw [cat2, ints_h] at h
  exact h
theorem pverify_ok (k : H32) (w : World) : Calls Try.prog 102 #[ha k] w fun en w' => en = .returned (.agg (u8s (verV k).1).toArray) ∧ St w [] w' := by
  have hM := Mem.start (Fz.of w)
  refine C_prim_Verify ?_
  unfold F_prim_Verify
  ((with_reducible (refine mm_box hM ?_; clear hM; intro _ _ hM; refine mm_new hM ?_; clear hM; intro _ _ hM; refine mop_c trivial ?_; refine mm_cvb hM ?_; refine mm_bsl hM ?_ ?_ ?_)); (focus rfl); (focus (constructor <;> simp)); (with_reducible (clear hM; intro _ _ hM)))
  refine mm_pure hM (sum2_ok sver (strOfNums k.1) (by rw [strOfNums_size, k.2.1]; decide) hM) (fun w2 hM => ?_)
  rw [ints_h]
  ((with_reducible (refine mm_st hM ?_; clear hM; intro _ hM; refine rm_ld hM ?_)))
  exact ⟨rfl, hM.st⟩
instance (k : H32) : PurC Try.prog 102 [.agg (u8s k.1).toArray] True (.agg (u8s (verV k).1).toArray) := ⟨fun _ w => pverify_ok k w⟩
theorem pcode_ok (v : H32) (s : ByteArray) (hs : s.size ≤ 1000000) (w : World) : Calls Try.prog 101 #[ha v, .string s] w fun en w' => en = .returned (.agg (u8s (signV v (ints s)).1).toArray) ∧ St w [] w' := by
  have hM := Mem.start (Fz.of w)
  refine C_prim_code ?_
  unfold F_prim_code
  ((with_reducible (refine mm_box hM ?_; clear hM; intro _ _ hM; refine mm_new hM ?_; clear hM; intro _ _ hM; refine mop_c trivial ?_; refine mm_cvb hM ?_; refine mm_bsl hM ?_ ?_ ?_)); (focus rfl); (focus (constructor <;> simp)); (with_reducible (clear hM; intro _ _ hM)))
  refine mm_pure hM (code2_ok v ssign s (by have : ssign.size = 4 := rfl; omega) hM) (fun w2 hM => ?_)
  ((with_reducible (refine mm_st hM ?_; clear hM; intro _ hM; refine rm_ld hM ?_)))
  exact ⟨rfl, hM.st⟩
instance (v : H32) (s : ByteArray) : PurC Try.prog 101 [.agg (u8s v.1).toArray, .string s] (s.size ≤ 1000000) (.agg (u8s (signV v (ints s)).1).toArray) := ⟨fun h w => pcode_ok v s h w⟩
theorem psign_ok (k : H32) (s : ByteArray) (hs : s.size ≤ 1000000) (w : World) : Calls Try.prog 53 #[ha k, .string s] w fun en w' => en = .returned (.agg (u8s (signV (verV k) (ints s)).1).toArray) ∧ St w [] w' := by
  have hM := Mem.start (Fz.of w)
  refine C_prim_Sign ?_
  unfold F_prim_Sign
  ((with_reducible (refine mm_box hM ?_; clear hM; intro _ _ hM; refine mm_new hM ?_; clear hM; intro _ _ hM; refine mm_ld hM ?_; refine mm_purC hM ?_ ?_)); (focus (first | exact trivial | assumption | omega)); (with_reducible (clear hM; intro _ hM; refine mm_purC hM ?_ ?_)); (focus (first | exact trivial | assumption | omega)); (with_reducible (clear hM; intro _ hM; refine mm_st hM ?_; clear hM; intro _ hM; refine rm_ld hM ?_)))
  exact ⟨rfl, hM.st⟩
instance (v : H32) (s : ByteArray) : PurC Try.prog 53 [.agg (u8s v.1).toArray, .string s] (s.size ≤ 1000000) (.agg (u8s (signV (verV v) (ints s)).1).toArray) := ⟨fun h w => psign_ok v s h w⟩
theorem pcheck_ok (v : H32) (s : ByteArray) (x : H32) (hs : s.size ≤ 1000000) (w : World) : Calls Try.prog 58 #[ha v, .string s, ha x] w fun en w' => en = .returned (.bool (decide (signV v (ints s) = x))) ∧ St w [] w' := by
  have hM := Mem.start (Fz.of w)
  refine C_prim_Check ?_
  unfold F_prim_Check
  ((with_reducible (refine mm_box hM ?_; clear hM; intro _ _ hM; refine mm_box hM ?_; clear hM; intro _ _ hM; refine dm_ld hM ?_; refine dm_purC hM ?_ (fun _ _ hM => ?_))); (focus (first | exact trivial | assumption | omega)); (with_reducible refine dm_ld ‹Mem _ _ _ _› ?_))
  try first | refine mop_c trivial ?_ | refine dp_c trivial ?_
  ((with_reducible (refine mm_end hM ?_; clear hM; intro _ hM)))
  exact ⟨rfl, hM.st⟩
instance (v : H32) (s : ByteArray) (x : H32) : PurC Try.prog 58 [.agg (u8s v.1).toArray, .string s, .agg (u8s x.1).toArray] (s.size ≤ 1000000) (.bool (decide (signV v (ints s) = x))) := ⟨fun h w => pcheck_ok v s x h w⟩
theorem rverify_ok (k : H32) (w : World) : Calls Try.prog 56 #[ha k] w fun en w' => en = .returned (.agg (u8s (verV k).1).toArray) ∧ St w [] w' := by
  have hM := Mem.start (Fz.of w)
  refine C_bevyref05_Verify ?_
  unfold F_bevyref05_Verify
  ((with_reducible (refine mm_box hM ?_; clear hM; intro _ _ hM; refine mm_new hM ?_; clear hM; intro _ _ hM; refine mm_ld hM ?_; refine mm_purC hM ?_ ?_)); (focus (first | exact trivial | assumption | omega)); (with_reducible (clear hM; intro _ hM)))
  refine mop_c (by rw [strOfNums_size, k.2.1]; decide) ?_
  have h := fun w => refsum_ok (sver ++ strOfNums k.1) w (by rw [ByteArray.size_append, strOfNums_size, k.2.1]; decide)
  rw [ints_append, ints_h] at h
  refine mm_pure hM (h _) (fun w2 hM => ?_)
  have e : hv (shaSum (ints sver ++ k.1)) = .agg (u8s (verV k).1).toArray := rfl
  rw [e]
  ((with_reducible (refine mm_st hM ?_; clear hM; intro _ hM; refine rm_ld hM ?_)))
  exact ⟨rfl, hM.st⟩
instance (k : H32) : PurC Try.prog 56 [.agg (u8s k.1).toArray] True (.agg (u8s (verV k).1).toArray) := ⟨fun _ w => rverify_ok k w⟩
theorem rsign_ok (v : H32) (s : ByteArray) (hs : s.size ≤ 1000000) (w : World) : Calls Try.prog 55 #[ha v, .string s] w fun en w' => en = .returned (.agg (u8s (signV v (ints s)).1).toArray) ∧ St w [] w' := by
  have hM := Mem.start (Fz.of w)
  refine C_bevyref05_Sign ?_
  unfold F_bevyref05_Sign
  ((with_reducible (refine mm_box hM ?_; clear hM; intro _ _ hM; refine mm_new hM ?_; clear hM; intro _ _ hM; refine mm_ld hM ?_; refine mm_purC hM ?_ ?_)); (focus (first | exact trivial | assumption | omega)); (with_reducible (clear hM; intro _ hM)))
  have h4 : (ByteArray.mk #[115, 105, 103, 110]).size = 4 := rfl
  have h5 : ssign.size = 4 := rfl
  refine mop_c (by omega) ?_
  have h := fun w => refcode_ok (strOfNums v.1) (ssign ++ s) w (by rw [strOfNums_size, v.2.1]; omega) (by rw [ByteArray.size_append]; omega)
  rw [ints_append, ints_h] at h
  refine mm_pure hM (h _) (fun w2 hM => ?_)
  have e : hv (hmac v.1 (ints ssign ++ ints s)) = .agg (u8s (signV v (ints s)).1).toArray := rfl
  rw [e]
  ((with_reducible (refine mm_st hM ?_; clear hM; intro _ hM; refine rm_ld hM ?_)))
  exact ⟨rfl, hM.st⟩
instance (v : H32) (s : ByteArray) : PurC Try.prog 55 [.agg (u8s v.1).toArray, .string s] (s.size ≤ 1000000) (.agg (u8s (signV v (ints s)).1).toArray) := ⟨fun h w => rsign_ok v s h w⟩
/-! ### Texts -/
def textL (p : Prp) : List Int := p.epoch.1 ++ numB p.depth ++ numB p.author ++ numB p.seq ++ numB p.kind ++ numB p.name ++ p.pub.1
def txt (p : Prp) : ByteArray := strOfNums (textL p)
theorem textL_length (p : Prp) : (textL p).length ≤ 104 := by
  have h1 := numB_length p.depth
  have h2 := numB_length p.author
  have h3 := numB_length p.seq
  have h4 := numB_length p.kind
  have h5 := numB_length p.name
  have h6 := p.epoch.2.1
  have h7 := p.pub.2.1
  simp only [textL, List.length_append]
  omega
theorem txt_size (p : Prp) : (txt p).size ≤ 1000000 := by have := textL_length p; rw [txt, strOfNums_size]; omega
theorem right_bd {p : Prp} (h : p.right) : (0 ≤ p.depth ∧ p.depth ≤ 4611686018427387903) ∧ (0 ≤ p.author ∧ p.author ≤ 4611686018427387903) ∧ (0 ≤ p.seq ∧ p.seq ≤ 4611686018427387903) ∧ (0 ≤ p.kind ∧ p.kind ≤ 4611686018427387903) ∧ (0 ≤ p.name ∧ p.name ≤ 4611686018427387903) := by
  obtain ⟨h1, h2, h3, h4, h5⟩ := h
  have hk : p.kind = 2 ∨ p.kind = 1 ∨ p.kind = 3 := by
    by_cases hk : p.kind = 2
    · exact .inl hk
    · rw [if_neg hk] at h5
      exact .inr h5.1
  refine ⟨h1, ?_, ?_, ?_, ?_⟩ <;> omega
theorem text_ok (p : Prp) (h : p.right) (w : World) : Calls Try.prog 54 #[prv p] w fun en w' => en = .returned (.string (txt p)) ∧ St w [] w' := by
  obtain ⟨b1, b2, b3, b4, b5⟩ := right_bd h
  have l1 := numB_length p.depth
  have l2 := numB_length p.author
  have l3 := numB_length p.seq
  have l4 := numB_length p.kind
  have l5 := numB_length p.name
  have l6 := p.epoch.2.1
  have hM := Mem.start (Fz.of w)
  refine C_change_text ?_
  unfold F_change_text
  ((with_reducible (refine mm_box hM ?_; clear hM; intro _ _ hM)))
  rename_i b _
  refine mm_own (wnew_ok hM) ?_
  rintro v w1 ⟨g, rfl, hM⟩
  ((with_reducible (refine mop_c trivial ?_; refine mm_ld hM ?_)))
  refine mm_own (whash_ok p.epoch (by simp) (hM.at_ (wrR g [] false))) ?_
  rintro v w2 ⟨rfl, hM⟩
  rw [List.nil_append] at hM
  ((with_reducible (refine mop_c trivial ?_; refine mm_ld hM ?_; refine mop_c trivial ?_; refine mm_ld hM ?_; refine mop_c trivial ?_; refine mm_ld hM ?_; refine mop_c trivial ?_; refine mop_c trivial ?_; refine mm_ld hM ?_; refine mop_c trivial ?_; refine mop_c trivial ?_; refine mm_ld hM ?_; refine mop_c trivial ?_)))
  refine ⟨fun x w' => ∃ i : Nat, x = .int .i64 i ∧ i ≤ 5 ∧ (match i with
    | 0 => Mem (Hp.of w) w [wrR g p.epoch.1 false, fb b 27 p.fds] w'
    | 1 => Mem (Hp.of w) w [wrR g (p.epoch.1 ++ numB p.depth) false, fb b 27 p.fds] w'
    | 2 => Mem (Hp.of w) w [wrR g (p.epoch.1 ++ numB p.depth ++ numB p.author) false, fb b 27 p.fds] w'
    | 3 => Mem (Hp.of w) w [wrR g (p.epoch.1 ++ numB p.depth ++ numB p.author ++ numB p.seq) false, fb b 27 p.fds] w'
    | 4 => Mem (Hp.of w) w [wrR g (p.epoch.1 ++ numB p.depth ++ numB p.author ++ numB p.seq ++ numB p.kind) false, fb b 27 p.fds] w'
    | _ => Mem (Hp.of w) w [wrR g (p.epoch.1 ++ numB p.depth ++ numB p.author ++ numB p.seq ++ numB p.kind ++ numB p.name) false, fb b 27 p.fds] w'),
    fun x _ => match x with | .int _ i => 5 - i.toNat | _ => 0, ⟨0, rfl, by omega, hM⟩, ?_⟩
  clear hM
  rintro x u w3 ⟨i, rfl, hi, hM⟩
  ((with_reducible (refine mop_cS trivial ?_ ?_)))
  · intro hlt
    obtain rfl | rfl | rfl | rfl | rfl : i = 0 ∨ i = 1 ∨ i = 2 ∨ i = 3 ∨ i = 4 := by omega
    · have hM : Mem (Hp.of w) w _ w3 := hM
      ((with_reducible (refine mif_true ?_)))
      refine mop_pur (v := .int .i64 p.depth) (fun w => by kernel_rfl) ?_
      refine mm_own (wnum_ok p.depth b1 (by first | omega | (simp only [List.length_append]; omega)) hM) ?_
      rintro v w4 ⟨rfl, hM⟩
      ((with_reducible (refine mop_c ?_ ?_)); (focus omega))
      exact ⟨⟨1, rfl, by omega, hM⟩, by first | decide | (dsimp only; omega) | (simp; done)⟩
    · have hM : Mem (Hp.of w) w _ w3 := hM
      ((with_reducible (refine mif_true ?_)))
      refine mop_pur (v := .int .i64 p.author) (fun w => by kernel_rfl) ?_
      refine mm_own (wnum_ok p.author b2 (by first | omega | (simp only [List.length_append]; omega)) hM) ?_
      rintro v w4 ⟨rfl, hM⟩
      ((with_reducible (refine mop_c ?_ ?_)); (focus omega))
      exact ⟨⟨2, rfl, by omega, hM⟩, by first | decide | (dsimp only; omega) | (simp; done)⟩
    · have hM : Mem (Hp.of w) w _ w3 := hM
      ((with_reducible (refine mif_true ?_)))
      refine mop_pur (v := .int .i64 p.seq) (fun w => by kernel_rfl) ?_
      refine mm_own (wnum_ok p.seq b3 (by first | omega | (simp only [List.length_append]; omega)) hM) ?_
      rintro v w4 ⟨rfl, hM⟩
      ((with_reducible (refine mop_c ?_ ?_)); (focus omega))
      exact ⟨⟨3, rfl, by omega, hM⟩, by first | decide | (dsimp only; omega) | (simp; done)⟩
    · have hM : Mem (Hp.of w) w _ w3 := hM
      ((with_reducible (refine mif_true ?_)))
      refine mop_pur (v := .int .i64 p.kind) (fun w => by kernel_rfl) ?_
      refine mm_own (wnum_ok p.kind b4 (by first | omega | (simp only [List.length_append]; omega)) hM) ?_
      rintro v w4 ⟨rfl, hM⟩
      ((with_reducible (refine mop_c ?_ ?_)); (focus omega))
      exact ⟨⟨4, rfl, by omega, hM⟩, by first | decide | (dsimp only; omega) | (simp; done)⟩
    · have hM : Mem (Hp.of w) w _ w3 := hM
      ((with_reducible (refine mif_true ?_)))
      refine mop_pur (v := .int .i64 p.name) (fun w => by kernel_rfl) ?_
      refine mm_own (wnum_ok p.name b5 (by first | omega | (simp only [List.length_append]; omega)) hM) ?_
      rintro v w4 ⟨rfl, hM⟩
      ((with_reducible (refine mop_c ?_ ?_)); (focus omega))
      exact ⟨⟨5, rfl, by omega, hM⟩, by first | decide | (dsimp only; omega) | (simp; done)⟩
  · intro hge
    obtain rfl : i = 5 := by omega
    have hM : Mem (Hp.of w) w [wrR g (p.epoch.1 ++ numB p.depth ++ numB p.author ++ numB p.seq ++ numB p.kind ++ numB p.name) false, fb b 27 p.fds] w3 := hM
    ((with_reducible (refine mif_false ?_; refine mop_c trivial ?_; refine mop_c trivial ?_; refine mm_ld hM ?_)))
    refine mm_own (whash_ok p.pub (by first | omega | (simp only [List.length_append]; omega)) hM) ?_
    rintro v w4 ⟨rfl, hM⟩
    refine mm_pure hM (wend_ok hM) (fun w5 hM => ?_)
    ((with_reducible (refine mop_c trivial ?_; refine mop_c trivial ?_)))
    exact ⟨rfl, hM.st⟩
instance (p : Prp) : PurC Try.prog 54 [prv p] p.right (.string (txt p)) := ⟨fun h w => text_ok p h w⟩
theorem rText_ok (p : Prp) (h : p.right) (w : World) : Calls Try.prog 57 #[prv p] w fun en w' => en = .returned (.string (txt p)) ∧ St w [] w' := by
  obtain ⟨b1, b2, b3, b4, b5⟩ := right_bd h
  have l1 := numB_length p.depth
  have l2 := numB_length p.author
  have l3 := numB_length p.seq
  have l4 := numB_length p.kind
  have l5 := numB_length p.name
  have l6 := p.epoch.2.1
  have l7 := p.pub.2.1
  have hM := Mem.start (Fz.of w)
  refine C_bevyref10_Text ?_
  unfold F_bevyref10_Text
  ((with_reducible (refine mm_box hM ?_; clear hM; intro _ _ hM; refine dp_c trivial ?_; refine dm_ld hM ?_; refine dm_purC hM ?_ (fun _ _ hM => ?_))); (focus (first | exact trivial | assumption | omega)); (with_reducible (refine dp_c trivial ?_)); (with_reducible refine dm_ld ‹Mem _ _ _ _› ?_); (with_reducible (refine dm_purC hM ?_ (fun _ _ hM => ?_))); (focus (first | exact trivial | assumption | omega)))
  refine dp_cat _ _ (by omega) ?_
  ((with_reducible (refine dp_c trivial ?_)); (with_reducible refine dm_ld ‹Mem _ _ _ _› ?_); (with_reducible (refine dm_purC hM ?_ (fun _ _ hM => ?_))); (focus (first | exact trivial | assumption | omega)))
  refine dp_cat _ _ (by first | omega | (simp only [List.length_append]; omega)) ?_
  ((with_reducible (refine dp_c trivial ?_)); (with_reducible refine dm_ld ‹Mem _ _ _ _› ?_); (with_reducible (refine dm_purC hM ?_ (fun _ _ hM => ?_))); (focus (first | exact trivial | assumption | omega)))
  refine dp_cat _ _ (by first | omega | (simp only [List.length_append]; omega)) ?_
  ((with_reducible (refine mm_end hM ?_; clear hM; intro _ hM; refine dp_c trivial ?_; refine dp_c trivial ?_; refine dm_ld hM ?_; refine dm_purC hM ?_ (fun _ _ hM => ?_))); (focus (first | exact trivial | assumption | omega)))
  refine dp_cat _ _ (by first | omega | (simp only [List.length_append]; omega)) ?_
  ((with_reducible (refine dp_c trivial ?_; refine dp_c trivial ?_)); (with_reducible refine dm_ld ‹Mem _ _ _ _› ?_); (with_reducible (refine dm_purC hM ?_ (fun _ _ hM => ?_))); (focus (first | exact trivial | assumption | omega)))
  refine dp_cat _ _ (by first | omega | (simp only [List.length_append]; omega)) ?_
  ((with_reducible (refine dp_c trivial ?_; refine dp_c trivial ?_)); (with_reducible refine dm_ld ‹Mem _ _ _ _› ?_); (with_reducible (refine dm_purC hM ?_ (fun _ _ hM => ?_))); (focus (first | exact trivial | assumption | omega)))
  refine dp_cat _ _ (by first | omega | (simp only [List.length_append]; omega)) ?_
  ((with_reducible (refine mm_end hM ?_; clear hM; intro _ hM)))
  exact ⟨rfl, hM.st⟩
instance (p : Prp) : PurC Try.prog 57 [prv p] p.right (.string (txt p)) := ⟨fun h w => rText_ok p h w⟩
/-! ### Signed -/
abbrev Prp.signed (p : Prp) (v : H32) : Prp := { p with sign := signV v (ints (txt p)) }
def signP (p : Prp) (k : H32) : Prp := if p.right then p.signed (verV k) else p
theorem csign_ok (p : Prp) (k : H32) (w : World) : Calls Try.prog 19 #[prv p, ha k] w fun en w' => en = .returned (prv (signP p k)) ∧ St w [] w' := by
  have hM := Mem.start (Fz.of w)
  refine C_change_Sign ?_
  unfold F_change_Sign
  have hs := txt_size p
  ((with_reducible (refine mm_box hM ?_; clear hM; intro _ _ hM; refine mm_box hM ?_; clear hM; intro _ _ hM; refine mm_new hM ?_; clear hM; intro _ _ hM)))
  rename_i b _ b2 _ b3 _
  refine ⟨fun w' => Mem (Hp.of w) w [fb b 27 (signP p k).fds, fb b3 27 [.arr 32 (u8s hzero.1), .one (.int .i64 0), .one (.int .i64 0), .one (.int .i64 0), .one (.int .i64 0), .one (.int .i64 0), .arr 32 (u8s hzero.1), .arr 32 (u8s hzero.1)]] w', ?_, ?_⟩
  · unfold signP
    by_cases h : p.right
    · ((with_reducible (refine mm_ld hM ?_; refine mm_purC hM ?_ ?_)); (focus (first | exact trivial | assumption | omega)); (with_reducible (clear hM; intro _ hM)))
      rw [decide_eq_true h, if_pos h]
      ((with_reducible (refine mif_true ?_; refine dm_ld hM ?_; refine dm_ld hM ?_; refine dm_purC hM ?_ (fun _ _ hM => ?_))); (focus (first | exact trivial | assumption | omega)); (with_reducible (refine dm_purC hM ?_ (fun _ _ hM => ?_))); (focus (first | exact trivial | assumption | omega)); (with_reducible (refine dp_c trivial ?_; refine dS_st hM ?_; clear hM; intro _ hM; refine mm_end hM ?_; clear hM; intro _ hM)))
      exact hM.sub
    · ((with_reducible (refine mm_ld hM ?_; refine mm_purC hM ?_ ?_)); (focus (first | exact trivial | assumption | omega)); (with_reducible (clear hM; intro _ hM)))
      rw [decide_eq_false h, if_neg h]
      ((with_reducible (refine mif_false ?_)))
      exact hM.sub
  · rintro u w2 hM
    ((with_reducible (refine mm_ld hM ?_; refine mm_st hM ?_; clear hM; intro _ hM; refine rm_ld hM ?_)))
    exact ⟨rfl, hM.st⟩
theorem rsignp_ok (p : Prp) (k : H32) (h : p.right) (w : World) : Calls Try.prog 20 #[prv p, ha k] w fun en w' => en = .returned (prv (p.signed (verV k))) ∧ St w [] w' := by
  have hM := Mem.start (Fz.of w)
  refine C_bevyref10_Sign ?_
  unfold F_bevyref10_Sign
  have hs := txt_size p
  ((with_reducible (refine mm_box hM ?_; clear hM; intro _ _ hM; refine mm_box hM ?_; clear hM; intro _ _ hM; refine mm_new hM ?_; clear hM; intro _ _ hM; refine dm_ld hM ?_; refine dm_purC hM ?_ (fun _ _ hM => ?_))); (focus (first | exact trivial | assumption | omega)); (with_reducible refine dm_ld ‹Mem _ _ _ _› ?_); (with_reducible (refine dm_purC hM ?_ (fun _ _ hM => ?_))); (focus (first | exact trivial | assumption | omega)); (with_reducible (refine dm_purC hM ?_ (fun _ _ hM => ?_))); (focus (first | exact trivial | assumption | omega)); (with_reducible (refine dp_c trivial ?_; refine dS_st hM ?_; clear hM; intro _ hM; refine mm_end hM ?_; clear hM; intro _ hM; refine mm_ld hM ?_; refine mm_st hM ?_; clear hM; intro _ hM; refine rm_ld hM ?_)))
  exact ⟨rfl, hM.st⟩
def Prp.checks (p : Prp) (v : H32) : Prop := p.right ∧ signV v (ints (txt p)) = p.sign
instance (p : Prp) (v : H32) : Decidable (p.checks v) := by unfold Prp.checks; infer_instance
theorem ccheck_ok (p : Prp) (v : H32) (w : World) : Calls Try.prog 21 #[prv p, ha v] w fun en w' => en = .returned (.bool (decide (p.checks v))) ∧ St w [] w' := by
  have hM := Mem.start (Fz.of w)
  refine C_change_Check ?_
  unfold F_change_Check
  have hs := txt_size p
  ((with_reducible (refine mm_box hM ?_; clear hM; intro _ _ hM; refine mm_box hM ?_; clear hM; intro _ _ hM; refine dm_ld hM ?_; refine dm_purC hM ?_ (fun _ _ hM => ?_))); (focus (first | exact trivial | assumption | omega)))
  by_cases h : p.right
  · rw [decide_eq_true h]
    ((with_reducible (refine qguard_yes ?_; refine dm_ld hM ?_; refine qguard_yes ?_; refine dm_ld hM ?_; refine mguard_yes ?_; refine dm_purC hM ?_ (fun _ _ hM => ?_))); (focus (first | exact trivial | assumption | omega)); (with_reducible (refine qguard_yes ?_; refine dp_c trivial ?_; refine qguard_yes ?_)); (with_reducible refine dm_ld ‹Mem _ _ _ _› ?_); (with_reducible (refine mguard_yes ?_; refine dm_purC hM ?_ (fun _ _ hM => ?_))); (focus (first | exact trivial | assumption | omega)); (with_reducible (refine dp_c trivial ?_; refine mm_end hM ?_; clear hM; intro _ hM)))
    try first | refine mop_c trivial ?_ | refine dp_c trivial ?_
    skip
    exact ⟨by simp [Prp.checks, h], hM.st⟩
  · rw [decide_eq_false h]
    ((with_reducible (refine qguard_n2 ?_; refine qguard_n2 ?_; refine mguard_n2 ?_; refine qguard_n2 ?_; refine qguard_n2 ?_; refine mguard_n2 ?_; refine dp_c trivial ?_; refine mm_end hM ?_; clear hM; intro _ hM)))
    exact ⟨by simp [Prp.checks, h], hM.st⟩
theorem rcheck_ok (p : Prp) (v : H32) (w : World) : Calls Try.prog 23 #[prv p, ha v] w fun en w' => en = .returned (.bool (decide (p.checks v))) ∧ St w [] w' := by
  have hM := Mem.start (Fz.of w)
  refine C_bevyref10_Check ?_
  unfold F_bevyref10_Check
  have hs := txt_size p
  ((with_reducible (refine mm_box hM ?_; clear hM; intro _ _ hM; refine mm_box hM ?_; clear hM; intro _ _ hM; refine dm_ld hM ?_; refine dm_purC hM ?_ (fun _ _ hM => ?_))); (focus (first | exact trivial | assumption | omega)))
  by_cases h : p.right
  · rw [decide_eq_true h]
    ((with_reducible (refine qguard_yes ?_; refine dp_c trivial ?_; refine qguard_yes ?_; refine dm_ld hM ?_; refine qguard_yes ?_; refine dm_ld hM ?_; refine qguard_yes ?_; refine dm_ld hM ?_; refine mguard_yes ?_; refine dm_purC hM ?_ (fun _ _ hM => ?_))); (focus (first | exact trivial | assumption | omega)); (with_reducible (refine mguard_yes ?_; refine dm_purC hM ?_ (fun _ _ hM => ?_))); (focus (first | exact trivial | assumption | omega)); (with_reducible (refine qguard_yes ?_)))
    try first | refine mop_c trivial ?_ | refine dp_c trivial ?_
    ((with_reducible (refine dp_c trivial ?_; refine mm_end hM ?_; clear hM; intro _ hM)))
    exact ⟨by simp [Prp.checks, h, eq_comm], hM.st⟩
  · rw [decide_eq_false h]
    ((with_reducible ((iterate 4 refine qguard_n2 ?_); refine mguard_n2 ?_; refine mguard_n2 ?_; refine qguard_n2 ?_; refine dp_c trivial ?_; refine mm_end hM ?_; clear hM; intro _ hM)))
    exact ⟨by simp [Prp.checks, h], hM.st⟩
instance (p : Prp) (k : H32) : PurC Try.prog 19 [prv p, .agg (u8s k.1).toArray] True (prv (signP p k)) := ⟨fun _ w => csign_ok p k w⟩
instance (p : Prp) (k : H32) : PurC Try.prog 20 [prv p, .agg (u8s k.1).toArray] p.right (prv (p.signed (verV k))) := ⟨fun h w => rsignp_ok p k h w⟩
instance (p : Prp) (k : H32) : PurC Try.prog 21 [prv p, .agg (u8s k.1).toArray] True (.bool (decide (p.checks k))) := ⟨fun _ w => ccheck_ok p k w⟩
instance (p : Prp) (k : H32) : PurC Try.prog 23 [prv p, .agg (u8s k.1).toArray] True (.bool (decide (p.checks k))) := ⟨fun _ w => rcheck_ok p k w⟩
/-! ### Bytes, names -/
def packB (p : Prp) : ByteArray := strOfNums (textL p ++ p.sign.1)
abbrev es0 : ByteArray := ByteArray.mk #[]
theorem cpack_ok (p : Prp) (w : World) : Calls Try.prog 25 #[prv p] w fun en w' => en = .returned (.string (if p.right then packB p else es0)) ∧ St w [] w' := by
  have hM := Mem.start (Fz.of w)
  have hl := textL_length p
  have l7 := p.sign.2.1
  refine C_change_Pack ?_
  unfold F_change_Pack
  ((with_reducible (refine mm_box hM ?_; clear hM; intro _ _ hM; refine mm_ld hM ?_; refine mm_purC hM ?_ ?_)); (focus (first | exact trivial | assumption | omega)); (with_reducible (clear hM; intro _ hM; refine mop_c trivial ?_)))
  by_cases h : p.right
  · rw [decide_eq_true h, if_pos h]
    simp only [Bool.not_true]
    ((with_reducible (refine mif_false ?_; refine dm_ld hM ?_; refine dm_purC hM ?_ (fun _ _ hM => ?_))); (focus (first | exact trivial | assumption | omega)); (with_reducible (refine dp_c trivial ?_; refine dp_c trivial ?_)))
    refine dm_cvb (by assumption) ?_
    unfold txt
    first | refine mop_cat (textL p) p.sign.1 (by omega) ?_ | refine dp_cat (textL p) p.sign.1 (by omega) ?_
    ((with_reducible (refine mm_end hM ?_; clear hM; intro _ hM)))
    exact ⟨rfl, hM.st⟩
  · rw [decide_eq_false h, if_neg h]
    simp only [Bool.not_false]
    ((with_reducible (refine mif_true ?_)))
    first | exact ⟨rfl, hM.st⟩ | exact ⟨trivial, hM.st⟩
theorem rpack_ok (p : Prp) (h : p.right) (w : World) : Calls Try.prog 26 #[prv p] w fun en w' => en = .returned (.string (packB p)) ∧ St w [] w' := by
  have hM := Mem.start (Fz.of w)
  have hl := textL_length p
  have l7 := p.sign.2.1
  refine C_bevyref10_Pack ?_
  unfold F_bevyref10_Pack
  ((with_reducible (refine mm_box hM ?_; clear hM; intro _ _ hM; refine dm_ld hM ?_; refine dm_purC hM ?_ (fun _ _ hM => ?_))); (focus (first | exact trivial | assumption | omega)); (with_reducible (refine dp_c trivial ?_)); (with_reducible refine dm_ld ‹Mem _ _ _ _› ?_); (with_reducible (refine dm_purC hM ?_ (fun _ _ hM => ?_))); (focus (first | exact trivial | assumption | omega)))
  unfold txt
  first | refine mop_cat (textL p) p.sign.1 (by omega) ?_ | refine dp_cat (textL p) p.sign.1 (by omega) ?_
  ((with_reducible (refine mm_end hM ?_; clear hM; intro _ hM)))
  exact ⟨rfl, hM.st⟩
instance (p : Prp) : PurC Try.prog 25 [prv p] True (.string (if p.right then packB p else es0)) := ⟨fun _ w => cpack_ok p w⟩
instance (p : Prp) : PurC Try.prog 26 [prv p] p.right (.string (packB p)) := ⟨fun h w => rpack_ok p h w⟩
end
end Go.Proofs.Ytmjpbomonhjebaa
