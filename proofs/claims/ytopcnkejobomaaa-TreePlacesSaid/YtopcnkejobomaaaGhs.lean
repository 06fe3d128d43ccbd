/- Wire: what is written. -/
import Derived.Test.YtopcnkejobomaaaGsh
import Derived.Test.YtopcnkejobomaaaMse
import Derived.Test.YtopcnkejobomaaaMgp
import Derived.Test.YtopcnkejobomaaaMfs
import Derived.Test.YtopcnkejobomaaaGbo
import Derived.Test.YtopcnkejobomaaaGtb
namespace Go.Proofs.Ytopcnkejobomaaa
open Go.RowKit

/-- A number's bytes. -/
def numB (n : Int) : List Int :=
  if n < 64 then [n]
  else if n < 16384 then [64 + n / 256, n % 256]
  else if n < 1073741824 then [128 + n / 16777216, n / 65536 % 256, n / 256 % 256, n % 256]
  else [192 + n / 72057594037927936, n / 281474976710656 % 256, n / 1099511627776 % 256, n / 4294967296 % 256, n / 16777216 % 256, n / 65536 % 256, n / 256 % 256, n % 256]
theorem numB_range (n : Int) (h : 0 ≤ n ∧ n ≤ 4611686018427387903) : ∀ x ∈ numB n, 0 ≤ x ∧ x < 256 := by
  unfold numB
  split
  · intro x hx; simp at hx; omega
  · split
    · intro x hx; simp at hx; rcases hx with rfl | rfl <;> omega
    · split
      · intro x hx; simp at hx; rcases hx with rfl | rfl | rfl | rfl <;> omega
      · intro x hx; simp at hx; rcases hx with rfl | rfl | rfl | rfl | rfl | rfl | rfl | rfl <;> omega
theorem numB_length (n : Int) : (numB n).length ≤ 8 ∧ 1 ≤ (numB n).length := by
  unfold numB
  repeat' split
  all_goals simp
/-- What is written so far; is it bad? -/
def wrR (g : Nat) (out : List Int) (bad : Bool) : Res := exR (fun (p : Option Addr × Nat) => [fb g 173 [.one (.slice p.1 out.length p.2), .one (.bool bad)], rowR 5 1 p.1 out.length p.2 (byts out)])
section
variable {H : Hp} {w0 w : World} {L R : List Res} {g : Nat} {out : List Int} {bad : Bool}
theorem Mem.wr (h : Mem H w0 (wrR g out bad :: L) w) : ∃ A c, Mem H w0 (fb g 173 [.one (.slice A out.length c), .one (.bool bad)] :: rowR 5 1 A out.length c (byts out) :: L) w := by
  obtain ⟨p, h⟩ := h.unex
  exact ⟨p.1, p.2, h⟩
theorem Mem.unwr {A : Option Addr} {n c : Nat} (h : Mem H w0 (fb g 173 [.one (.slice A n c), .one (.bool bad)] :: rowR 5 1 A n c (byts out) :: L) w) (hn : n = out.length) : Mem H w0 (wrR g out bad :: L) w := by
  subst hn
  exact Mem.toex (R := fun (p : Option Addr × Nat) => [fb g 173 [.one (.slice p.1 out.length p.2), .one (.bool bad)], rowR 5 1 p.1 out.length p.2 (byts out)]) (A, c) h
theorem wnew_ok (hM : Mem H w0 L w) : Calls Try.prog 95 #[] w fun en w' => ∃ v, en = .returned v ∧ ∃ g, v = .pointer (some ⟨g, 0, none⟩) ∧ Mem H w0 (wrR g [] false :: L) w' := by
  refine C_wire_New ?_
  unfold F_wire_New
  ((with_reducible (refine mop_c trivial ?_; refine mm_box hM ?_; clear hM; intro _ _ hM)))
  rename_i g _
  have hM : Mem H w0 (fb g 173 [.one (.slice none 0 0), .one (.bool false)] :: rowR 5 1 none 0 0 (byts []) :: L) _ := (hM.row0 5 1).perm (.swap ..)
  exact ⟨_, rfl, g, rfl, Mem.unwr hM rfl⟩
theorem whash_ok (h : H32) (hb : out.length < 1000000000) (hM : Mem H w0 (wrR g out bad :: L) w) : Calls Try.prog 99 #[.pointer (some ⟨g, 0, none⟩), ha h] w fun en w' => ∃ v, en = .returned v ∧ v = .tuple #[] ∧ Mem H w0 (wrR g (out ++ h.1) bad :: L) w' := by
  refine C_wire_Writer_Hash ?_
  unfold F_wire_Writer_Hash
  obtain ⟨A, c, hM⟩ := hM.wr
  ((with_reducible (refine mm_box hM ?_; clear hM; intro _ _ hM; refine mop_c trivial ?_; refine mif_true ?_; refine dp_c trivial ?_; refine dp_c trivial ?_; refine dm_ld hM ?_; refine dp_c trivial ?_; refine df_no hM ?_; clear hM; intro _ hM)))
  refine mm_appb hM (by omega) (fun A' c' w4 hM => ?_)
  ((with_reducible (refine dp_c trivial ?_; refine dp_c trivial ?_; refine dS_st hM ?_; clear hM; intro _ hM; refine mm_end hM ?_; clear hM; intro _ hM)))
  exact ⟨_, rfl, rfl, Mem.unwr ((hM.upB g).sub : Mem H w0 (fb g 173 [.one (.slice A' (out.length + 32) c'), .one (.bool bad)] :: rowR 5 1 A' (out.length + 32) c' (byts (out ++ h.1)) :: L) _) (by simp [h.2.1])⟩
theorem bounds_ok (w : World) : Calls Try.prog 152 #[] w fun en w' => en = .returned (.agg #[.int .i64 64, .int .i64 16384, .int .i64 1073741824, .int .i64 4611686018427387903]) ∧ St w [] w' := by
  have hM := Mem.start (Fz.of w)
  refine C_wire_bounds ?_
  unfold F_wire_bounds
  ((with_reducible (refine mm_new hM ?_; clear hM; intro _ _ hM; refine mop_c trivial ?_; refine mm_st hM ?_; clear hM; intro _ hM; refine rm_ld hM ?_)))
  exact ⟨rfl, hM.st⟩
instance : PurC Try.prog 152 [] True (.agg #[.int .i64 64, .int .i64 16384, .int .i64 1073741824, .int .i64 4611686018427387903]) := ⟨fun _ w => bounds_ok w⟩
/-- A number's kind. -/
def kindN (n : Int) : Int := if n < 64 then 0 else if n < 16384 then 1 else if n < 1073741824 then 2 else 3
theorem numB_cases (n : Int) : (n < 64 ∧ kindN n = 0 ∧ numB n = [n]) ∨ (64 ≤ n ∧ n < 16384 ∧ kindN n = 1 ∧ numB n = [64 + n / 256, n % 256]) ∨
    (16384 ≤ n ∧ n < 1073741824 ∧ kindN n = 2 ∧ numB n = [128 + n / 16777216, n / 65536 % 256, n / 256 % 256, n % 256]) ∨
    (1073741824 ≤ n ∧ kindN n = 3 ∧ numB n = [192 + n / 72057594037927936, n / 281474976710656 % 256, n / 1099511627776 % 256, n / 4294967296 % 256, n / 16777216 % 256, n / 65536 % 256, n / 256 % 256, n % 256]) := by
  unfold kindN numB
  by_cases h1 : n < 64
  · exact .inl ⟨h1, if_pos h1, if_pos h1⟩
  · by_cases h2 : n < 16384
    · exact .inr (.inl ⟨by omega, h2, by rw [if_neg h1, if_pos h2], by rw [if_neg h1, if_pos h2]⟩)
    · by_cases h3 : n < 1073741824
      · exact .inr (.inr (.inl ⟨by omega, h3, by rw [if_neg h1, if_neg h2, if_pos h3], by rw [if_neg h1, if_neg h2, if_pos h3]⟩))
      · exact .inr (.inr (.inr ⟨by omega, by rw [if_neg h1, if_neg h2, if_neg h3], by rw [if_neg h1, if_neg h2, if_neg h3]⟩))
theorem numB_len (n : Int) : ((numB n).length : Int) = 1 * 2 ^ (kindN n).toNat := by
  rcases numB_cases n with ⟨_, h2, h3⟩ | ⟨_, _, h2, h3⟩ | ⟨_, _, h2, h3⟩ | ⟨_, h2, h3⟩ <;> (rw [h2, h3]; rfl)
theorem or64 (a k : Int) (ha : 0 ≤ a ∧ a < 64) (hk : 0 ≤ k ∧ k ≤ 3) : bits .or .u8 a (k * 64) = a + k * 64 := by
  have key : ∀ x : Fin 64, ∀ y : Fin 4, bits .or .u8 (x.val : Int) ((y.val : Int) * 64) = (x.val : Int) + (y.val : Int) * 64 := by decide +kernel
  have := key ⟨a.toNat, by omega⟩ ⟨k.toNat, by omega⟩
  simp only [Int.toNat_of_nonneg ha.1, Int.toNat_of_nonneg hk.1] at this
  exact this
theorem numB_head (n : Int) (h : 0 ≤ n ∧ n ≤ 4611686018427387903) : 0 ≤ (numB n).getD 0 0 - kindN n * 64 ∧ (numB n).getD 0 0 - kindN n * 64 < 64 ∧ 0 ≤ kindN n ∧ kindN n ≤ 3 := by
  rcases numB_cases n with ⟨_, h2, h3⟩ | ⟨_, _, h2, h3⟩ | ⟨_, _, h2, h3⟩ | ⟨_, h2, h3⟩ <;> (rw [h2, h3]; simp; omega)
theorem byteAt (n : Int) (h : 0 ≤ n ∧ n ≤ 4611686018427387903) (i : Nat) (hi : i < (numB n).length) :
    n / 2 ^ (8 * (((numB n).length : Int) - 1 - i)).toNat % 256 = if i = 0 then (numB n).getD 0 0 - kindN n * 64 else (numB n).getD i 0 := by
  rcases numB_cases n with ⟨h1, h2, h3⟩ | ⟨h1, h0, h2, h3⟩ | ⟨h1, h0, h2, h3⟩ | ⟨h1, h2, h3⟩ <;> rw [h3] at hi ⊢ <;> rw [h2]
  · obtain rfl : i = 0 := by simp at hi; omega
    simp
    omega
  · obtain rfl | rfl : i = 0 ∨ i = 1 := by simp at hi; omega
    all_goals simp
    all_goals omega
  · obtain rfl | rfl | rfl | rfl : i = 0 ∨ i = 1 ∨ i = 2 ∨ i = 3 := by simp at hi; omega
    all_goals simp
    all_goals omega
  · obtain rfl | rfl | rfl | rfl | rfl | rfl | rfl | rfl : i = 0 ∨ i = 1 ∨ i = 2 ∨ i = 3 ∨ i = 4 ∨ i = 5 ∨ i = 6 ∨ i = 7 := by simp at hi; omega
    all_goals simp
    all_goals omega
theorem byts_snoc {out : List Int} (l : List Int) (i : Nat) (h : i < l.length) : byts (out ++ l.take i) ++ [[.one (.int .u8 (l.getD i 0))]] = byts (out ++ l.take (i + 1)) := by
  have e : out ++ l.take (i + 1) = (out ++ l.take i) ++ [l.getD i 0] := by
    rw [List.take_succ_eq_append_getElem h, ← List.append_assoc, List.getD_eq_getElem?_getD, List.getElem?_eq_getElem h]
    rfl
  rw [e, byts_app (out ++ l.take i)]
  rfl
theorem shl1 (k : Int) (hk : 0 ≤ k ∧ k ≤ 3) : IntKind.i64.wrap (1 * 2 ^ k.toNat) = 1 * 2 ^ k.toNat := by
  obtain rfl | rfl | rfl | rfl : k = 0 ∨ k = 1 ∨ k = 2 ∨ k = 3 := by omega
  all_goals rfl
theorem shl6 (k : Int) (hk : 0 ≤ k ∧ k ≤ 3) : IntKind.i64.wrap (k * 2 ^ (6 : Int).toNat) = k * 64 := by
  obtain rfl | rfl | rfl | rfl : k = 0 ∨ k = 1 ∨ k = 2 ∨ k = 3 := by omega
  all_goals rfl
theorem wnum_ok (n : Int) (h : 0 ≤ n ∧ n ≤ 4611686018427387903) (hb : out.length < 1000000000) (hM : Mem H w0 (wrR g out bad :: L) w) : Calls Try.prog 129 #[.pointer (some ⟨g, 0, none⟩), .int .i64 n] w fun en w' => ∃ v, en = .returned v ∧ v = .tuple #[] ∧ Mem H w0 (wrR g (out ++ numB n) bad :: L) w' := by
  refine C_wire_Writer_Num ?_
  unfold F_wire_Writer_Num
  ((with_reducible (refine mop_c trivial ?_; refine mif_false ?_)))
  refine ⟨fun x w' => x = .bool false ∧ hM.now w', ?_, ?_⟩
  · ((with_reducible (refine mop_cF trivial ?_ ?_)); (focus (first | assumption | omega | with_reducible rfl | exact fun h => Bool.noConfusion h)); (with_reducible (refine mguard_yes ?_; refine mop_c trivial ?_; refine mguard_yes ?_; refine mop_cF trivial ?_ ?_)); (focus (first | assumption | omega | with_reducible rfl | exact fun h => Bool.noConfusion h)); (with_reducible (refine mop_c trivial ?_)))
    exact ⟨rfl, hM⟩
  rintro x u w1 ⟨rfl, hM⟩
  ((with_reducible (refine mif_false ?_)))
  refine ⟨fun x w' => ∃ k : Nat, x = .int .i64 k ∧ k ≤ 3 ∧ (1 ≤ k → 64 ≤ n) ∧ (2 ≤ k → 16384 ≤ n) ∧ (3 ≤ k → 1073741824 ≤ n) ∧ hM.now w', fun x _ => match x with | .int _ i => 3 - i.toNat | _ => 0, ⟨0, rfl, by omega, by omega, by omega, by omega, hM⟩, ?_⟩
  rintro x u w2 ⟨k, rfl, hk, h1, h2, h3, hM⟩
  have hlen := numB_length n
  refine ⟨fun w' => k < 3 ∧ (k = 0 → 64 ≤ n) ∧ (k = 1 → 16384 ≤ n) ∧ (k = 2 → 1073741824 ≤ n) ∧ hM.now w', ?_, ?_⟩
  · obtain rfl | rfl | rfl | rfl : k = 0 ∨ k = 1 ∨ k = 2 ∨ k = 3 := by omega
    · have e0 : (((0 : Nat) : Int)) = 0 := rfl
      simp only [e0]
      ((with_reducible (refine mop_cT trivial ?_ ?_)); (focus (first | assumption | omega | with_reducible rfl | exact fun h => Bool.noConfusion h)); (with_reducible (refine mguard_yes ?_; refine mop_c trivial ?_; refine mguard_yes ?_; refine mm_purC hM ?_ (fun _ hM2 => ?_))); (focus (first | exact trivial | assumption | omega)); (with_reducible (replace hM := hM2; clear hM2; refine mguard_yes ?_; refine mop_c trivial ?_; refine mguard_yes ?_)))
      refine mop_pur (v := .int .i64 64) (fun w => by kernel_rfl) ?_
      ((with_reducible (refine mguard_yes ?_)))
      ((with_reducible (refine mop_cS trivial ?_ ?_)))
      · intro hn
        ((with_reducible (refine mop_c trivial ?_; refine mif_true ?_)))
        exact ⟨by omega, by omega, by omega, by omega, hM⟩
      · intro hn
        ((with_reducible (refine mop_c trivial ?_; refine mif_false ?_)))
        have hkn : (0 : Int) = kindN n := by
          unfold kindN
          simp at h1 h2 h3
          repeat' split
          all_goals omega
        refine mop_pur (p_shl _ _ _ _ _ _ (by omega) (by simp [IntKind.bits])) ?_
        have hL : IntKind.i64.wrap (1 * 2 ^ (0 : Int).toNat) = ((numB n).length : Int) := by
          rw [numB_len, ← hkn]
          rfl
        rw [hL]
        refine ⟨fun x w' => ∃ i : Nat, x = .int .i64 i ∧ i ≤ (numB n).length ∧ Mem H w0 (wrR g (out ++ (numB n).take i) bad :: L) w', fun x _ => match x with | .int _ i => (numB n).length - i.toNat | _ => 0, ⟨0, rfl, by omega, by simpa using hM⟩, ?_⟩
        clear hM
        rintro x u w4 ⟨i, rfl, hi, hM⟩
        skip
        ((with_reducible (refine mop_cS trivial ?_ ?_)))
        · intro hlt
          have hlt' : i < (numB n).length := by omega
          have hby := byteAt n h i hlt'
          have hhd := numB_head n h
          ((with_reducible (refine mif_true ?_; refine mop_c ?_ ?_)); (focus omega); (with_reducible (refine mop_c ?_ ?_)); (focus omega); (with_reducible (refine mop_c ?_ ?_)); (focus omega); (with_reducible (refine mop_c ?_ ?_)); (focus omega); (with_reducible (refine mop_c trivial ?_)))
          rw [hby]
          refine ⟨fun x w' => x = .int .u8 ((numB n).getD i 0) ∧ hM.now w', ?_, ?_⟩
          · skip
            ((with_reducible (refine mop_cS trivial ?_ ?_)))
            · intro h0
              obtain rfl : i = 0 := by omega
              ((with_reducible (refine mif_true ?_)))
              refine mop_pur (p_shl _ _ _ _ _ _ (by omega) (by simp [IntKind.bits])) ?_
              have h6 : IntKind.i64.wrap ((0 : Int) * 2 ^ (6 : Int).toNat) = kindN n * 64 := by
                rw [← hkn]
                rfl
              rw [h6]
              ((with_reducible (refine mop_c trivial ?_; refine mop_c trivial ?_)))
              refine ⟨?_, hM⟩
              rw [if_pos rfl, Int.emod_eq_of_lt (by omega) (by omega), or64 _ _ (by omega) (by omega)]
              congr 1
              omega
            · intro h0
              ((with_reducible (refine mif_false ?_)))
              exact ⟨by rw [if_neg (by omega)], hM⟩
          · rintro x u w5 ⟨rfl, hM⟩
            obtain ⟨A, c, hM⟩ := hM.wr
            have hol : (out ++ (numB n).take i).length ≤ out.length + 8 := by rw [List.length_append, List.length_take]; omega
            ((with_reducible (refine mop_c trivial ?_; refine mop_c trivial ?_; refine mm_ld hM ?_; refine mm_bsl hM ?_ ?_ ?_)); (focus rfl); (focus (constructor <;> simp)); (with_reducible (clear hM; intro _ _ hM; refine mm_appo hM ?_ ?_)); (focus omega); (with_reducible (clear hM; intro _ _ _ hM; refine mop_c trivial ?_; refine mop_c trivial ?_; refine mm_st hM ?_; clear hM; intro _ hM; refine mop_c ?_ ?_)); (focus omega))
            rw [byts_snoc _ _ hlt'] at hM
            have hl2 : (out ++ (numB n).take i).length + 1 = (out ++ (numB n).take (i + 1)).length := by
              rw [List.length_append, List.length_append, List.length_take, List.length_take]; omega
            have hM2 := Mem.unwr (hM.upB g) hl2
            refine ⟨⟨i + 1, by rw [Int.natCast_add]; rfl, by omega, hM2⟩, ?_⟩
            show (numB n).length - ((i : Int) + 1).toNat < (numB n).length - (i : Int).toNat
            omega
        · intro hge
          ((with_reducible (refine mif_false ?_)))
          rw [List.take_of_length_le (by omega)] at hM
          exact ⟨_, rfl, rfl, hM⟩
    · have e0 : (((1 : Nat) : Int)) = 1 := rfl
      simp only [e0]
      ((with_reducible (refine mop_cT trivial ?_ ?_)); (focus (first | assumption | omega | with_reducible rfl | exact fun h => Bool.noConfusion h)); (with_reducible (refine mguard_yes ?_; refine mop_c trivial ?_; refine mguard_yes ?_; refine mm_purC hM ?_ (fun _ hM2 => ?_))); (focus (first | exact trivial | assumption | omega)); (with_reducible (replace hM := hM2; clear hM2; refine mguard_yes ?_; refine mop_c trivial ?_; refine mguard_yes ?_)))
      refine mop_pur (v := .int .i64 16384) (fun w => by kernel_rfl) ?_
      ((with_reducible (refine mguard_yes ?_)))
      ((with_reducible (refine mop_cS trivial ?_ ?_)))
      · intro hn
        ((with_reducible (refine mop_c trivial ?_; refine mif_true ?_)))
        exact ⟨by omega, by omega, by omega, by omega, hM⟩
      · intro hn
        ((with_reducible (refine mop_c trivial ?_; refine mif_false ?_)))
        have hkn : (1 : Int) = kindN n := by
          unfold kindN
          simp at h1 h2 h3
          repeat' split
          all_goals omega
        refine mop_pur (p_shl _ _ _ _ _ _ (by omega) (by simp [IntKind.bits])) ?_
        have hL : IntKind.i64.wrap (1 * 2 ^ (1 : Int).toNat) = ((numB n).length : Int) := by
          rw [numB_len, ← hkn]
          rfl
        rw [hL]
        refine ⟨fun x w' => ∃ i : Nat, x = .int .i64 i ∧ i ≤ (numB n).length ∧ Mem H w0 (wrR g (out ++ (numB n).take i) bad :: L) w', fun x _ => match x with | .int _ i => (numB n).length - i.toNat | _ => 0, ⟨0, rfl, by omega, by simpa using hM⟩, ?_⟩
        clear hM
        rintro x u w4 ⟨i, rfl, hi, hM⟩
        skip
        ((with_reducible (refine mop_cS trivial ?_ ?_)))
        · intro hlt
          have hlt' : i < (numB n).length := by omega
          have hby := byteAt n h i hlt'
          have hhd := numB_head n h
          ((with_reducible (refine mif_true ?_; refine mop_c ?_ ?_)); (focus omega); (with_reducible (refine mop_c ?_ ?_)); (focus omega); (with_reducible (refine mop_c ?_ ?_)); (focus omega); (with_reducible (refine mop_c ?_ ?_)); (focus omega); (with_reducible (refine mop_c trivial ?_)))
          rw [hby]
          refine ⟨fun x w' => x = .int .u8 ((numB n).getD i 0) ∧ hM.now w', ?_, ?_⟩
          · skip
            ((with_reducible (refine mop_cS trivial ?_ ?_)))
            · intro h0
              obtain rfl : i = 0 := by omega
              ((with_reducible (refine mif_true ?_)))
              refine mop_pur (p_shl _ _ _ _ _ _ (by omega) (by simp [IntKind.bits])) ?_
              have h6 : IntKind.i64.wrap ((1 : Int) * 2 ^ (6 : Int).toNat) = kindN n * 64 := by
                rw [← hkn]
                rfl
              rw [h6]
              ((with_reducible (refine mop_c trivial ?_; refine mop_c trivial ?_)))
              refine ⟨?_, hM⟩
              rw [if_pos rfl, Int.emod_eq_of_lt (by omega) (by omega), or64 _ _ (by omega) (by omega)]
              congr 1
              omega
            · intro h0
              ((with_reducible (refine mif_false ?_)))
              exact ⟨by rw [if_neg (by omega)], hM⟩
          · rintro x u w5 ⟨rfl, hM⟩
            obtain ⟨A, c, hM⟩ := hM.wr
            have hol : (out ++ (numB n).take i).length ≤ out.length + 8 := by rw [List.length_append, List.length_take]; omega
            ((with_reducible (refine mop_c trivial ?_; refine mop_c trivial ?_; refine mm_ld hM ?_; refine mm_bsl hM ?_ ?_ ?_)); (focus rfl); (focus (constructor <;> simp)); (with_reducible (clear hM; intro _ _ hM; refine mm_appo hM ?_ ?_)); (focus omega); (with_reducible (clear hM; intro _ _ _ hM; refine mop_c trivial ?_; refine mop_c trivial ?_; refine mm_st hM ?_; clear hM; intro _ hM; refine mop_c ?_ ?_)); (focus omega))
            rw [byts_snoc _ _ hlt'] at hM
            have hl2 : (out ++ (numB n).take i).length + 1 = (out ++ (numB n).take (i + 1)).length := by
              rw [List.length_append, List.length_append, List.length_take, List.length_take]; omega
            have hM2 := Mem.unwr (hM.upB g) hl2
            refine ⟨⟨i + 1, by rw [Int.natCast_add]; rfl, by omega, hM2⟩, ?_⟩
            show (numB n).length - ((i : Int) + 1).toNat < (numB n).length - (i : Int).toNat
            omega
        · intro hge
          ((with_reducible (refine mif_false ?_)))
          rw [List.take_of_length_le (by omega)] at hM
          exact ⟨_, rfl, rfl, hM⟩
    · have e0 : (((2 : Nat) : Int)) = 2 := rfl
      simp only [e0]
      ((with_reducible (refine mop_cT trivial ?_ ?_)); (focus (first | assumption | omega | with_reducible rfl | exact fun h => Bool.noConfusion h)); (with_reducible (refine mguard_yes ?_; refine mop_c trivial ?_; refine mguard_yes ?_; refine mm_purC hM ?_ (fun _ hM2 => ?_))); (focus (first | exact trivial | assumption | omega)); (with_reducible (replace hM := hM2; clear hM2; refine mguard_yes ?_; refine mop_c trivial ?_; refine mguard_yes ?_)))
      refine mop_pur (v := .int .i64 1073741824) (fun w => by kernel_rfl) ?_
      ((with_reducible (refine mguard_yes ?_)))
      ((with_reducible (refine mop_cS trivial ?_ ?_)))
      · intro hn
        ((with_reducible (refine mop_c trivial ?_; refine mif_true ?_)))
        exact ⟨by omega, by omega, by omega, by omega, hM⟩
      · intro hn
        ((with_reducible (refine mop_c trivial ?_; refine mif_false ?_)))
        have hkn : (2 : Int) = kindN n := by
          unfold kindN
          simp at h1 h2 h3
          repeat' split
          all_goals omega
        refine mop_pur (p_shl _ _ _ _ _ _ (by omega) (by simp [IntKind.bits])) ?_
        have hL : IntKind.i64.wrap (1 * 2 ^ (2 : Int).toNat) = ((numB n).length : Int) := by
          rw [numB_len, ← hkn]
          rfl
        rw [hL]
        refine ⟨fun x w' => ∃ i : Nat, x = .int .i64 i ∧ i ≤ (numB n).length ∧ Mem H w0 (wrR g (out ++ (numB n).take i) bad :: L) w', fun x _ => match x with | .int _ i => (numB n).length - i.toNat | _ => 0, ⟨0, rfl, by omega, by simpa using hM⟩, ?_⟩
        clear hM
        rintro x u w4 ⟨i, rfl, hi, hM⟩
        skip
        ((with_reducible (refine mop_cS trivial ?_ ?_)))
        · intro hlt
          have hlt' : i < (numB n).length := by omega
          have hby := byteAt n h i hlt'
          have hhd := numB_head n h
          ((with_reducible (refine mif_true ?_; refine mop_c ?_ ?_)); (focus omega); (with_reducible (refine mop_c ?_ ?_)); (focus omega); (with_reducible (refine mop_c ?_ ?_)); (focus omega); (with_reducible (refine mop_c ?_ ?_)); (focus omega); (with_reducible (refine mop_c trivial ?_)))
          rw [hby]
          refine ⟨fun x w' => x = .int .u8 ((numB n).getD i 0) ∧ hM.now w', ?_, ?_⟩
          · skip
            ((with_reducible (refine mop_cS trivial ?_ ?_)))
            · intro h0
              obtain rfl : i = 0 := by omega
              ((with_reducible (refine mif_true ?_)))
              refine mop_pur (p_shl _ _ _ _ _ _ (by omega) (by simp [IntKind.bits])) ?_
              have h6 : IntKind.i64.wrap ((2 : Int) * 2 ^ (6 : Int).toNat) = kindN n * 64 := by
                rw [← hkn]
                rfl
              rw [h6]
              ((with_reducible (refine mop_c trivial ?_; refine mop_c trivial ?_)))
              refine ⟨?_, hM⟩
              rw [if_pos rfl, Int.emod_eq_of_lt (by omega) (by omega), or64 _ _ (by omega) (by omega)]
              congr 1
              omega
            · intro h0
              ((with_reducible (refine mif_false ?_)))
              exact ⟨by rw [if_neg (by omega)], hM⟩
          · rintro x u w5 ⟨rfl, hM⟩
            obtain ⟨A, c, hM⟩ := hM.wr
            have hol : (out ++ (numB n).take i).length ≤ out.length + 8 := by rw [List.length_append, List.length_take]; omega
            ((with_reducible (refine mop_c trivial ?_; refine mop_c trivial ?_; refine mm_ld hM ?_; refine mm_bsl hM ?_ ?_ ?_)); (focus rfl); (focus (constructor <;> simp)); (with_reducible (clear hM; intro _ _ hM; refine mm_appo hM ?_ ?_)); (focus omega); (with_reducible (clear hM; intro _ _ _ hM; refine mop_c trivial ?_; refine mop_c trivial ?_; refine mm_st hM ?_; clear hM; intro _ hM; refine mop_c ?_ ?_)); (focus omega))
            rw [byts_snoc _ _ hlt'] at hM
            have hl2 : (out ++ (numB n).take i).length + 1 = (out ++ (numB n).take (i + 1)).length := by
              rw [List.length_append, List.length_append, List.length_take, List.length_take]; omega
            have hM2 := Mem.unwr (hM.upB g) hl2
            refine ⟨⟨i + 1, by rw [Int.natCast_add]; rfl, by omega, hM2⟩, ?_⟩
            show (numB n).length - ((i : Int) + 1).toNat < (numB n).length - (i : Int).toNat
            omega
        · intro hge
          ((with_reducible (refine mif_false ?_)))
          rw [List.take_of_length_le (by omega)] at hM
          exact ⟨_, rfl, rfl, hM⟩
    · have e0 : (((3 : Nat) : Int)) = 3 := rfl
      simp only [e0]
      ((with_reducible (refine mop_cF trivial ?_ ?_)); (focus (first | assumption | omega | with_reducible rfl | exact fun h => Bool.noConfusion h)); (with_reducible ((iterate 5 refine mguard_n2 ?_); refine mop_c trivial ?_; refine mif_false ?_)))
      · have hkn : (3 : Int) = kindN n := by
          unfold kindN
          simp at h1 h2 h3
          repeat' split
          all_goals omega
        refine mop_pur (p_shl _ _ _ _ _ _ (by omega) (by simp [IntKind.bits])) ?_
        have hL : IntKind.i64.wrap (1 * 2 ^ (3 : Int).toNat) = ((numB n).length : Int) := by
          rw [numB_len, ← hkn]
          rfl
        rw [hL]
        refine ⟨fun x w' => ∃ i : Nat, x = .int .i64 i ∧ i ≤ (numB n).length ∧ Mem H w0 (wrR g (out ++ (numB n).take i) bad :: L) w', fun x _ => match x with | .int _ i => (numB n).length - i.toNat | _ => 0, ⟨0, rfl, by omega, by simpa using hM⟩, ?_⟩
        clear hM
        rintro x u w4 ⟨i, rfl, hi, hM⟩
        skip
        ((with_reducible (refine mop_cS trivial ?_ ?_)))
        · intro hlt
          have hlt' : i < (numB n).length := by omega
          have hby := byteAt n h i hlt'
          have hhd := numB_head n h
          ((with_reducible (refine mif_true ?_; refine mop_c ?_ ?_)); (focus omega); (with_reducible (refine mop_c ?_ ?_)); (focus omega); (with_reducible (refine mop_c ?_ ?_)); (focus omega); (with_reducible (refine mop_c ?_ ?_)); (focus omega); (with_reducible (refine mop_c trivial ?_)))
          rw [hby]
          refine ⟨fun x w' => x = .int .u8 ((numB n).getD i 0) ∧ hM.now w', ?_, ?_⟩
          · skip
            ((with_reducible (refine mop_cS trivial ?_ ?_)))
            · intro h0
              obtain rfl : i = 0 := by omega
              ((with_reducible (refine mif_true ?_)))
              refine mop_pur (p_shl _ _ _ _ _ _ (by omega) (by simp [IntKind.bits])) ?_
              have h6 : IntKind.i64.wrap ((3 : Int) * 2 ^ (6 : Int).toNat) = kindN n * 64 := by
                rw [← hkn]
                rfl
              rw [h6]
              ((with_reducible (refine mop_c trivial ?_; refine mop_c trivial ?_)))
              refine ⟨?_, hM⟩
              rw [if_pos rfl, Int.emod_eq_of_lt (by omega) (by omega), or64 _ _ (by omega) (by omega)]
              congr 1
              omega
            · intro h0
              ((with_reducible (refine mif_false ?_)))
              exact ⟨by rw [if_neg (by omega)], hM⟩
          · rintro x u w5 ⟨rfl, hM⟩
            obtain ⟨A, c, hM⟩ := hM.wr
            have hol : (out ++ (numB n).take i).length ≤ out.length + 8 := by rw [List.length_append, List.length_take]; omega
            ((with_reducible (refine mop_c trivial ?_; refine mop_c trivial ?_; refine mm_ld hM ?_; refine mm_bsl hM ?_ ?_ ?_)); (focus rfl); (focus (constructor <;> simp)); (with_reducible (clear hM; intro _ _ hM; refine mm_appo hM ?_ ?_)); (focus omega); (with_reducible (clear hM; intro _ _ _ hM; refine mop_c trivial ?_; refine mop_c trivial ?_; refine mm_st hM ?_; clear hM; intro _ hM; refine mop_c ?_ ?_)); (focus omega))
            rw [byts_snoc _ _ hlt'] at hM
            have hl2 : (out ++ (numB n).take i).length + 1 = (out ++ (numB n).take (i + 1)).length := by
              rw [List.length_append, List.length_append, List.length_take, List.length_take]; omega
            have hM2 := Mem.unwr (hM.upB g) hl2
            refine ⟨⟨i + 1, by rw [Int.natCast_add]; rfl, by omega, hM2⟩, ?_⟩
            show (numB n).length - ((i : Int) + 1).toNat < (numB n).length - (i : Int).toNat
            omega
        · intro hge
          ((with_reducible (refine mif_false ?_)))
          rw [List.take_of_length_le (by omega)] at hM
          exact ⟨_, rfl, rfl, hM⟩
  · rintro u w3 ⟨hk3, g1, g2, g3, hM⟩
    ((with_reducible (refine mop_c ?_ ?_)); (focus omega))
    exact ⟨⟨k + 1, by simp, by omega, fun _ => by omega, fun _ => by omega, fun _ => by omega, hM⟩, by simp; omega⟩
theorem wend_ok (hM : Mem H w0 (wrR g out false :: L) w) : Calls Try.prog 97 #[.pointer (some ⟨g, 0, none⟩)] w fun en w' => en = .returned (.tuple #[.string (strOfNums out), .int .i64 0]) ∧ St w [] w' := by
  refine C_wire_Writer_End ?_
  unfold F_wire_Writer_End
  obtain ⟨A, c, hM⟩ := hM.wr
  refine ⟨fun x w' => x = .bool false ∧ w = w', ?_, ?_⟩
  · ((with_reducible (refine mop_c trivial ?_; refine mguard_yes ?_; refine mop_c trivial ?_; refine mguard_yes ?_; refine mop_c trivial ?_; refine mguard_yes ?_; refine mop_c trivial ?_; refine mguard_yes ?_; refine mm_ld hM ?_; refine mop_c trivial ?_)))
    exact ⟨rfl, rfl⟩
  rintro x u w2 ⟨rfl, rfl⟩
  ((with_reducible (refine mif_false ?_; refine mop_c trivial ?_; refine mop_c trivial ?_; refine mm_ld hM ?_)))
  refine mm_cvr hM (Nat.le_refl _) ?_
  rw [List.take_length]
  exact ⟨rfl, St.nil w⟩
end
end Go.Proofs.Ytopcnkejobomaaa
/- Wire: the document's numbers. -/
namespace Go.Proofs.Ytopcnkejobomaaa
open Go.RowKit


theorem dp_cat {P : Program} {t : TypeId} {q : Bool} {K : Value → Prop} (a b : List Int) (h : a.length + b.length ≤ 1000000000000) (hk : K (.string (strOfNums (a ++ b)))) : dp P (o_bin .add t q (.string (strOfNums a)) (.string (strOfNums b))) K := by
  refine dp_c (by rw [strOfNums_size, strOfNums_size]; omega) ?_
  rw [strOfNums_append]
  exact hk
theorem mop_cat {P : Program} {t : TypeId} {q : Bool} {w : World} {K : Value → World → Prop} {X : List PanicEntry → World → Prop} (a b : List Int) (h : a.length + b.length ≤ 1000000000000) (hk : K (.string (strOfNums (a ++ b))) w) : mop P (o_bin .add t q (.string (strOfNums a)) (.string (strOfNums b))) w K X := by
  refine mop_c (by rw [strOfNums_size, strOfNums_size]; omega) ?_
  rw [strOfNums_append]
  exact hk
/-- The last j of eight bytes. -/
def b8 (n : Int) : List Int := [n / 72057594037927936 % 256, n / 281474976710656 % 256, n / 1099511627776 % 256, n / 4294967296 % 256, n / 16777216 % 256, n / 65536 % 256, n / 256 % 256, n % 256]
section
variable {H : Hp} {w0 w : World} {L R : List Res} {g : Nat}
theorem rhash_ok (h : H32) (w : World) : Calls Try.prog 161 #[ha h] w fun en w' => en = .returned (.string (strOfNums h.1)) ∧ St w [] w' := by
  have hM := Mem.start (Fz.of w)
  refine C_bevyref01_Hash ?_
  unfold F_bevyref01_Hash
  ((with_reducible (refine mm_box hM ?_; clear hM; intro _ _ hM; refine mop_c trivial ?_; refine mm_cvb hM ?_)))
  exact ⟨rfl, hM.st⟩
instance (h : H32) : PurC Try.prog 161 [.agg (u8s h.1).toArray] True (.string (strOfNums h.1)) := ⟨fun _ w => rhash_ok h w⟩
theorem rnum_ok (n : Int) (h : 0 ≤ n ∧ n ≤ 4611686018427387903) (w : World) : Calls Try.prog 131 #[.int .i64 n] w fun en w' => en = .returned (.string (strOfNums (numB n))) ∧ St w [] w' := by
  have hM := Mem.start (Fz.of w)
  refine C_bevyref01_Num ?_
  unfold F_bevyref01_Num
  ((with_reducible (refine mop_cS trivial ?_ ?_)))
  · intro h1
    ((with_reducible (refine mif_true ?_; refine mop_c trivial ?_; refine mm_bsl hM ?_ ?_ ?_)); (focus rfl); (focus (constructor <;> simp)); (with_reducible (clear hM; intro _ _ hM)))
    refine mm_cvr (l := [n % 256]) (R := []) (a := ⟨.refl _⟩) hM (by simp) ?_
    refine ⟨?_, hM.st⟩
    unfold numB
    rw [if_pos h1, Int.emod_eq_of_lt h.1 (by omega)]
    rfl
  · intro h1
    ((with_reducible (refine mif_false ?_)))
    ((with_reducible (refine mop_cS trivial ?_ ?_)))
    · intro h2
      ((with_reducible (refine mif_true ?_; refine mop_c ?_ ?_)); (focus omega); (with_reducible (refine mop_c ?_ ?_)); (focus omega); (with_reducible (refine mop_c trivial ?_; refine mop_c ?_ ?_)); (focus omega); (with_reducible (refine mop_c trivial ?_; refine mm_bsl hM ?_ ?_ ?_)); (focus rfl); (focus (constructor <;> simp)); (with_reducible (clear hM; intro _ _ hM)))
      refine mm_cvr (l := [(64 + n / 256) % 256, n % 256 % 256]) (R := []) (a := ⟨.refl _⟩) hM (by simp) ?_
      refine ⟨?_, hM.st⟩
      unfold numB
      rw [if_neg h1, if_pos h2, Int.emod_eq_of_lt (a := 64 + n / 256) (by omega) (by omega), Int.emod_emod_of_dvd _ (by omega)]
      rfl
    · intro h2
      ((with_reducible (refine mif_false ?_)))
      ((with_reducible (refine mop_cS trivial ?_ ?_)))
      · intro h3
        ((with_reducible (refine mif_true ?_; refine mop_c ?_ ?_)); (focus omega); (with_reducible (refine mop_c ?_ ?_)); (focus omega); (with_reducible (refine mop_c trivial ?_; refine mop_c ?_ ?_)); (focus omega); (with_reducible (refine mop_c ?_ ?_)); (focus omega); (with_reducible (refine mop_c trivial ?_; refine mop_c ?_ ?_)); (focus omega); (with_reducible (refine mop_c ?_ ?_)); (focus omega); (with_reducible (refine mop_c trivial ?_; refine mop_c ?_ ?_)); (focus omega); (with_reducible (refine mop_c trivial ?_; refine mm_bsl hM ?_ ?_ ?_)); (focus rfl); (focus (constructor <;> simp)); (with_reducible (clear hM; intro _ _ hM)))
        refine mm_cvr (l := [(128 + n / 16777216) % 256, n / 65536 % 256 % 256, n / 256 % 256 % 256, n % 256 % 256]) (R := []) (a := ⟨.refl _⟩) hM (by simp) ?_
        refine ⟨?_, hM.st⟩
        unfold numB
        rw [if_neg h1, if_neg h2, if_pos h3, Int.emod_eq_of_lt (a := 128 + n / 16777216) (by omega) (by omega)]
        simp only [Int.emod_emod_of_dvd _ (Int.dvd_refl 256)]
        rfl
      · intro h3
        ((with_reducible (refine mif_false ?_; refine mm_new hM ?_; clear hM; intro _ _ hM)))
        rename_i g _
        refine ⟨fun x y w' => (x = .int .i64 (n) ∧ y = .int .i64 (7) ∧ Mem (Hp.of w) w [fb g 191 [.one (.int .u8 0), .one (.int .u8 0), .one (.int .u8 0), .one (.int .u8 0), .one (.int .u8 0), .one (.int .u8 0), .one (.int .u8 0), .one (.int .u8 0)]] w') ∨ (x = .int .i64 (n / 256) ∧ y = .int .i64 (6) ∧ Mem (Hp.of w) w [fb g 191 [.one (.int .u8 0), .one (.int .u8 0), .one (.int .u8 0), .one (.int .u8 0), .one (.int .u8 0), .one (.int .u8 0), .one (.int .u8 0), .one (.int .u8 (n % 256 % 256))]] w') ∨ (x = .int .i64 (n / 65536) ∧ y = .int .i64 (5) ∧ Mem (Hp.of w) w [fb g 191 [.one (.int .u8 0), .one (.int .u8 0), .one (.int .u8 0), .one (.int .u8 0), .one (.int .u8 0), .one (.int .u8 0), .one (.int .u8 (n / 256 % 256 % 256)), .one (.int .u8 (n % 256 % 256))]] w') ∨ (x = .int .i64 (n / 16777216) ∧ y = .int .i64 (4) ∧ Mem (Hp.of w) w [fb g 191 [.one (.int .u8 0), .one (.int .u8 0), .one (.int .u8 0), .one (.int .u8 0), .one (.int .u8 0), .one (.int .u8 (n / 65536 % 256 % 256)), .one (.int .u8 (n / 256 % 256 % 256)), .one (.int .u8 (n % 256 % 256))]] w') ∨ (x = .int .i64 (n / 4294967296) ∧ y = .int .i64 (3) ∧ Mem (Hp.of w) w [fb g 191 [.one (.int .u8 0), .one (.int .u8 0), .one (.int .u8 0), .one (.int .u8 0), .one (.int .u8 (n / 16777216 % 256 % 256)), .one (.int .u8 (n / 65536 % 256 % 256)), .one (.int .u8 (n / 256 % 256 % 256)), .one (.int .u8 (n % 256 % 256))]] w') ∨ (x = .int .i64 (n / 1099511627776) ∧ y = .int .i64 (2) ∧ Mem (Hp.of w) w [fb g 191 [.one (.int .u8 0), .one (.int .u8 0), .one (.int .u8 0), .one (.int .u8 (n / 4294967296 % 256 % 256)), .one (.int .u8 (n / 16777216 % 256 % 256)), .one (.int .u8 (n / 65536 % 256 % 256)), .one (.int .u8 (n / 256 % 256 % 256)), .one (.int .u8 (n % 256 % 256))]] w') ∨ (x = .int .i64 (n / 281474976710656) ∧ y = .int .i64 (1) ∧ Mem (Hp.of w) w [fb g 191 [.one (.int .u8 0), .one (.int .u8 0), .one (.int .u8 (n / 1099511627776 % 256 % 256)), .one (.int .u8 (n / 4294967296 % 256 % 256)), .one (.int .u8 (n / 16777216 % 256 % 256)), .one (.int .u8 (n / 65536 % 256 % 256)), .one (.int .u8 (n / 256 % 256 % 256)), .one (.int .u8 (n % 256 % 256))]] w') ∨ (x = .int .i64 (n / 72057594037927936) ∧ y = .int .i64 (0) ∧ Mem (Hp.of w) w [fb g 191 [.one (.int .u8 0), .one (.int .u8 (n / 281474976710656 % 256 % 256)), .one (.int .u8 (n / 1099511627776 % 256 % 256)), .one (.int .u8 (n / 4294967296 % 256 % 256)), .one (.int .u8 (n / 16777216 % 256 % 256)), .one (.int .u8 (n / 65536 % 256 % 256)), .one (.int .u8 (n / 256 % 256 % 256)), .one (.int .u8 (n % 256 % 256))]] w') ∨ (x = .int .i64 (n / 18446744073709551616) ∧ y = .int .i64 (-1) ∧ Mem (Hp.of w) w [fb g 191 [.one (.int .u8 (n / 72057594037927936 % 256 % 256)), .one (.int .u8 (n / 281474976710656 % 256 % 256)), .one (.int .u8 (n / 1099511627776 % 256 % 256)), .one (.int .u8 (n / 4294967296 % 256 % 256)), .one (.int .u8 (n / 16777216 % 256 % 256)), .one (.int .u8 (n / 65536 % 256 % 256)), .one (.int .u8 (n / 256 % 256 % 256)), .one (.int .u8 (n % 256 % 256))]] w'), fun _ y _ => match y with | .int _ i => (i + 1).toNat | _ => 0, .inl ⟨rfl, rfl, hM⟩, ?_⟩
        clear hM
        rintro x y u w2 (⟨rfl, rfl, hM⟩ | ⟨rfl, rfl, hM⟩ | ⟨rfl, rfl, hM⟩ | ⟨rfl, rfl, hM⟩ | ⟨rfl, rfl, hM⟩ | ⟨rfl, rfl, hM⟩ | ⟨rfl, rfl, hM⟩ | ⟨rfl, rfl, hM⟩ | ⟨rfl, rfl, hM⟩)
        · ((with_reducible (refine mop_cT trivial ?_ ?_)); (focus (first | assumption | omega | with_reducible rfl | exact fun h => Bool.noConfusion h)); (with_reducible (refine mif_true ?_; refine mop_c ?_ ?_)); (focus omega); (with_reducible (refine mop_c trivial ?_; refine mop_c trivial ?_; refine mm_st hM ?_; clear hM; intro _ hM; refine mop_c ?_ ?_)); (focus omega); (with_reducible (refine mop_c ?_ ?_)); (focus omega))
          refine ⟨.inr (.inl ⟨by first | rfl | (congr 1; omega), rfl, hM⟩), by first | decide | (dsimp only; omega) | (simp; done)⟩
        · ((with_reducible (refine mop_cT trivial ?_ ?_)); (focus (first | assumption | omega | with_reducible rfl | exact fun h => Bool.noConfusion h)); (with_reducible (refine mif_true ?_; refine mop_c ?_ ?_)); (focus omega); (with_reducible (refine mop_c trivial ?_; refine mop_c trivial ?_; refine mm_st hM ?_; clear hM; intro _ hM; refine mop_c ?_ ?_)); (focus omega); (with_reducible (refine mop_c ?_ ?_)); (focus omega))
          refine ⟨.inr (.inr (.inl ⟨by first | rfl | (congr 1; omega), rfl, hM⟩)), by first | decide | (dsimp only; omega) | (simp; done)⟩
        · ((with_reducible (refine mop_cT trivial ?_ ?_)); (focus (first | assumption | omega | with_reducible rfl | exact fun h => Bool.noConfusion h)); (with_reducible (refine mif_true ?_; refine mop_c ?_ ?_)); (focus omega); (with_reducible (refine mop_c trivial ?_; refine mop_c trivial ?_; refine mm_st hM ?_; clear hM; intro _ hM; refine mop_c ?_ ?_)); (focus omega); (with_reducible (refine mop_c ?_ ?_)); (focus omega))
          refine ⟨.inr (.inr (.inr (.inl ⟨by first | rfl | (congr 1; omega), rfl, hM⟩))), by first | decide | (dsimp only; omega) | (simp; done)⟩
        · ((with_reducible (refine mop_cT trivial ?_ ?_)); (focus (first | assumption | omega | with_reducible rfl | exact fun h => Bool.noConfusion h)); (with_reducible (refine mif_true ?_; refine mop_c ?_ ?_)); (focus omega); (with_reducible (refine mop_c trivial ?_; refine mop_c trivial ?_; refine mm_st hM ?_; clear hM; intro _ hM; refine mop_c ?_ ?_)); (focus omega); (with_reducible (refine mop_c ?_ ?_)); (focus omega))
          refine ⟨.inr (.inr (.inr (.inr (.inl ⟨by first | rfl | (congr 1; omega), rfl, hM⟩)))), by first | decide | (dsimp only; omega) | (simp; done)⟩
        · ((with_reducible (refine mop_cT trivial ?_ ?_)); (focus (first | assumption | omega | with_reducible rfl | exact fun h => Bool.noConfusion h)); (with_reducible (refine mif_true ?_; refine mop_c ?_ ?_)); (focus omega); (with_reducible (refine mop_c trivial ?_; refine mop_c trivial ?_; refine mm_st hM ?_; clear hM; intro _ hM; refine mop_c ?_ ?_)); (focus omega); (with_reducible (refine mop_c ?_ ?_)); (focus omega))
          refine ⟨.inr (.inr (.inr (.inr (.inr (.inl ⟨by first | rfl | (congr 1; omega), rfl, hM⟩))))), by first | decide | (dsimp only; omega) | (simp; done)⟩
        · ((with_reducible (refine mop_cT trivial ?_ ?_)); (focus (first | assumption | omega | with_reducible rfl | exact fun h => Bool.noConfusion h)); (with_reducible (refine mif_true ?_; refine mop_c ?_ ?_)); (focus omega); (with_reducible (refine mop_c trivial ?_; refine mop_c trivial ?_; refine mm_st hM ?_; clear hM; intro _ hM; refine mop_c ?_ ?_)); (focus omega); (with_reducible (refine mop_c ?_ ?_)); (focus omega))
          refine ⟨.inr (.inr (.inr (.inr (.inr (.inr (.inl ⟨by first | rfl | (congr 1; omega), rfl, hM⟩)))))), by first | decide | (dsimp only; omega) | (simp; done)⟩
        · ((with_reducible (refine mop_cT trivial ?_ ?_)); (focus (first | assumption | omega | with_reducible rfl | exact fun h => Bool.noConfusion h)); (with_reducible (refine mif_true ?_; refine mop_c ?_ ?_)); (focus omega); (with_reducible (refine mop_c trivial ?_; refine mop_c trivial ?_; refine mm_st hM ?_; clear hM; intro _ hM; refine mop_c ?_ ?_)); (focus omega); (with_reducible (refine mop_c ?_ ?_)); (focus omega))
          refine ⟨.inr (.inr (.inr (.inr (.inr (.inr (.inr (.inl ⟨by first | rfl | (congr 1; omega), rfl, hM⟩))))))), by first | decide | (dsimp only; omega) | (simp; done)⟩
        · ((with_reducible (refine mop_cT trivial ?_ ?_)); (focus (first | assumption | omega | with_reducible rfl | exact fun h => Bool.noConfusion h)); (with_reducible (refine mif_true ?_; refine mop_c ?_ ?_)); (focus omega); (with_reducible (refine mop_c trivial ?_; refine mop_c trivial ?_; refine mm_st hM ?_; clear hM; intro _ hM; refine mop_c ?_ ?_)); (focus omega); (with_reducible (refine mop_c ?_ ?_)); (focus omega))
          refine ⟨.inr (.inr (.inr (.inr (.inr (.inr (.inr (.inr (⟨by first | rfl | (congr 1; omega), rfl, hM⟩)))))))), by first | decide | (dsimp only; omega) | (simp; done)⟩
        · ((with_reducible (refine mop_cF trivial ?_ ?_)); (focus (first | assumption | omega | with_reducible rfl | exact fun h => Bool.noConfusion h)); (with_reducible (refine mif_false ?_; refine mop_c trivial ?_; refine mm_ld hM ?_; refine mop_c trivial ?_; refine mop_c trivial ?_; refine mm_st hM ?_; clear hM; intro _ hM; refine mop_c trivial ?_)))
          have hM := Mem.refd (fs' := [.arr 8 (u8s [(n / 72057594037927936 % 256 % 256 + 192) % 256, n / 281474976710656 % 256 % 256, n / 1099511627776 % 256 % 256, n / 4294967296 % 256 % 256, n / 16777216 % 256 % 256, n / 65536 % 256 % 256, n / 256 % 256 % 256, n % 256 % 256])]) hM rfl ⟨fun f hf => by
            rw [List.mem_singleton.1 hf]
            exact ⟨rfl, fun u hu => u8s_one _ u hu⟩⟩
          ((with_reducible (refine mm_cvb hM ?_)))
          refine ⟨?_, hM.st⟩
          unfold numB
          rw [if_neg h1, if_neg h2, if_neg h3]
          simp only [Int.emod_emod_of_dvd _ (Int.dvd_refl 256)]
          rw [show (n / 72057594037927936 % 256 + 192) % 256 = 192 + n / 72057594037927936 by omega]
instance (n : Int) : PurC Try.prog 131 [.int .i64 n] (0 ≤ n ∧ n ≤ 4611686018427387903) (.string (strOfNums (numB n))) := ⟨fun h w => rnum_ok n h w⟩
end
end Go.Proofs.Ytopcnkejobomaaa
/- Nodes below and above, checked one by one. -/
namespace Go.Proofs.Ytopcnkejobomaaa
open Go.RowKit

set_option maxRecDepth 100000 in
theorem lr_fin : ∀ n : Fin 65, ∀ x : Fin 127, thr (n.val : Int) (x.val : Int) → x.val % 2 = 1 →
    (thr (n.val : Int) (lf n.val x.val) ∧ thr (n.val : Int) (rt n.val x.val)) ∧ (level (lf n.val x.val) < level x.val ∧ level (rt n.val x.val) < level x.val) ∧ (fro n.val (lf n.val x.val) = fro n.val x.val ∧ til n.val (lf n.val x.val) = fro n.val (rt n.val x.val) ∧ til n.val (rt n.val x.val) = til n.val x.val) ∧
    (bs n.val (lf n.val x.val) = rt n.val x.val ∧ bs n.val (rt n.val x.val) = lf n.val x.val) := by decide +kernel
set_option maxRecDepth 100000 in
theorem up_lr_fin : ∀ n : Fin 65, ∀ x : Fin 127, thr (n.val : Int) (x.val : Int) → 0 ≤ ab n.val x.val → ab n.val x.val % 2 = 1 ∧ ((x.val : Int) = lf n.val (ab n.val x.val) ∨ (x.val : Int) = rt n.val (ab n.val x.val)) := by decide +kernel
set_option maxRecDepth 100000 in
theorem even_fin : ∀ n : Fin 65, ∀ x : Fin 127, thr (n.val : Int) (x.val : Int) → x.val % 2 = 0 → level x.val = 0 ∧ fro n.val x.val = x.val / 2 ∧ til n.val x.val = x.val / 2 + 1 := by decide +kernel
theorem lr_eq {n x : Int} (h : thr n x) (ho : x % 2 = 1) : (thr n (lf n x) ∧ thr n (rt n x)) ∧ (level (lf n x) < level x ∧ level (rt n x) < level x) ∧ (fro n (lf n x) = fro n x ∧ til n (lf n x) = fro n (rt n x) ∧ til n (rt n x) = til n x) ∧ (bs n (lf n x) = rt n x ∧ bs n (rt n x) = lf n x) := by
  obtain ⟨h1, h2, h3⟩ := id h
  have := lr_fin ⟨n.toNat, by omega⟩ ⟨x.toNat, by omega⟩
  simp only [Int.toNat_of_nonneg h2, Int.toNat_of_nonneg (show 0 ≤ n by omega)] at this
  exact this h (by omega)
theorem up_lr {n x : Int} (h : thr n x) (ha : 0 ≤ ab n x) : ab n x % 2 = 1 ∧ (x = lf n (ab n x) ∨ x = rt n (ab n x)) := by
  obtain ⟨h1, h2, h3⟩ := id h
  have := up_lr_fin ⟨n.toNat, by omega⟩ ⟨x.toNat, by omega⟩
  simp only [Int.toNat_of_nonneg h2, Int.toNat_of_nonneg (show 0 ≤ n by omega)] at this
  exact this h ha
theorem even_eq {n x : Int} (h : thr n x) (he : x % 2 = 0) : level x = 0 ∧ fro n x = x / 2 ∧ til n x = x / 2 + 1 := by
  obtain ⟨h1, h2, h3⟩ := id h
  have := even_fin ⟨n.toNat, by omega⟩ ⟨x.toNat, by omega⟩
  simp only [Int.toNat_of_nonneg h2, Int.toNat_of_nonneg (show 0 ≤ n by omega)] at this
  exact this h (by omega)
end Go.Proofs.Ytopcnkejobomaaa
/- The hashes of a tree's nodes, plainly. -/
namespace Go.Proofs.Ytopcnkejobomaaa
open Go.RowKit Go.Lib

def shaH (l : List Int) : H32 := ⟨shaSum l, shaSum_length l, shaSum_range l⟩
theorem ints_h (h : H32) : ints (strOfNums h.1) = h.1 := ints_str _ h.2.2
theorem cat2 (a b : ByteArray) : cat [a, b] = ints a ++ ints b := by simp [cat]
theorem cat1 (a : ByteArray) : cat [a] = ints a := by simp [cat]
abbrev sleaf : List Int := [108, 101, 97, 102]
abbrev snode : List Int := [110, 111, 100, 101]
abbrev snone : List Int := [110, 111, 110, 101]
def leafB (l : Lf) : List Int := if 0 < l.name then [1] ++ numB l.name ++ l.pub.1 ++ l.ver.1 ++ l.abv.1 else [0]
def parentB (p : Pn) : List Int := if p.set = true then [1] ++ p.pub.1 ++ p.abv.1 ++ numB p.loose.length ++ p.loose.flatMap numB else [0]
def leafAt (t : Tr) (i : Int) : Lf := t.ls.getD i.toNat Lf.zero
def parAt (t : Tr) (i : Int) : Pn := t.ps.getD i.toNat Pn.zero
def hAt : Nat → Tr → Int → H32
  | 0, t, x => shaH (sleaf ++ leafB (leafAt t (x / 2)))
  | f + 1, t, x => if x % 2 = 0 then shaH (sleaf ++ leafB (leafAt t (x / 2))) else shaH (snode ++ (parentB (parAt t (x / 2)) ++ (hAt f t (lf t.size x)).1 ++ (hAt f t (rt t.size x)).1))
theorem hAt_leaf {f : Nat} {t : Tr} {x : Int} (h : x % 2 = 0) : hAt f t x = shaH (sleaf ++ leafB (leafAt t (x / 2))) := by
  cases f with
  | zero => rfl
  | succ f => rw [hAt, if_pos h]
/-- The root's. -/
def hRoot (t : Tr) : H32 := if t.ls = [] then shaH snone else hAt 8 t (root t.size)
/-- A tree whose numbers can be written. -/
structure Tr.Gd (t : Tr) : Prop where
  len : 1 ≤ t.ls.length ∧ t.ls.length ≤ 64 ∧ t.ps.length + 1 = t.ls.length
  nm : ∀ l ∈ t.ls, 0 ≤ l.name ∧ l.name ≤ 64
  lo : ∀ p ∈ t.ps, p.loose.length ≤ 64 ∧ ∀ q ∈ p.loose, 0 ≤ q ∧ q ≤ 64
theorem Tr.Rt.gd {t : Tr} (h : t.Rt) (hn : t.ls ≠ []) : t.Gd := by
  have hl := h.len
  have h0 : 0 < t.ls.length := List.length_pos_iff.2 hn
  refine ⟨by omega, fun l hm => ?_, fun p hp => ⟨(h.loose p hp).1, fun q hq => ?_⟩⟩
  · rcases leavesB_spec h.leaves l hm with rfl | h
    · simp [Lf.zero]
    · omega
  · obtain ⟨i, hi, rfl⟩ := List.getElem_of_mem hp
    have := hld_rng ((looseB_spec (parB_spec h.par i hi).2).1 q hq).1
    unfold Tr.size at this
    omega
theorem byt_len {f : Int → List Int} {l : List Int} {k : Nat} (h : ∀ x ∈ l, (f x).length ≤ k) : (l.flatMap f).length ≤ l.length * k := by
  induction l with
  | nil => simp
  | cons x r ih =>
    have h1 := h x (List.mem_cons_self ..)
    have h2 := ih fun y hy => h y (List.mem_cons_of_mem _ hy)
    simp only [List.flatMap_cons, List.length_append, List.length_cons, Nat.succ_mul]
    omega
theorem leafB_len (l : Lf) : (leafB l).length ≤ 105 := by
  have := numB_length l.name
  unfold leafB
  split
  · simp [l.pub.2.1, l.ver.2.1, l.abv.2.1]
    omega
  · simp
theorem parentB_len {p : Pn} (h : p.loose.length ≤ 64) : (parentB p).length ≤ 600 := by
  have := numB_length p.loose.length
  have h2 := byt_len (f := numB) (l := p.loose) (k := 8) fun x _ => (numB_length x).1
  unfold parentB
  split
  · simp only [List.length_append, p.pub.2.1, p.abv.2.1, List.length_singleton]
    omega
  · simp
end Go.Proofs.Ytopcnkejobomaaa
/- The hash of a tree: the program's walk. -/
namespace Go.Proofs.Ytopcnkejobomaaa
open Go.RowKit Go.Lib

abbrev bleaf : ByteArray := ByteArray.mk #[108, 101, 97, 102]
abbrev bnode : ByteArray := ByteArray.mk #[110, 111, 100, 101]
abbrev bnone : ByteArray := ByteArray.mk #[110, 111, 110, 101]
section
variable {H : Hp} {w0 w : World} {L R : List Res} {g : Nat} {out : List Int} {bad : Bool} {A B : Option Addr} {a b : Nat} {t : Tr} {qs : List (List Fd)}
theorem sum2_ok {A : Option Addr} {e : Nat} (a b : ByteArray) (hs : a.size + b.size < 1000000000000) (hM : Mem H w0 L w) [k : AtA L A 2 2 e 1 [[.one (.string a)], [.one (.string b)]] R] :
    Calls Try.prog 53 #[.slice A 2 2] w fun en w' => en = .returned (.agg (u8s (shaH (ints a ++ ints b)).1).toArray) ∧ St w [] w' := by
  have h := sum_ok A [a, b] 2 w (hM.rd k) (by simp) (by rw [cat2, List.length_append, ints_length, ints_length]; omega)
  rw [cat2] at h
  exact h
theorem sum1_ok {A : Option Addr} {e : Nat} (a : ByteArray) (hs : a.size < 1000000000000) (hM : Mem H w0 L w) [k : AtA L A 1 1 e 1 [[.one (.string a)]] R] :
    Calls Try.prog 53 #[.slice A 1 1] w fun en w' => en = .returned (.agg (u8s (shaH (ints a)).1).toArray) ∧ St w [] w' := by
  have h := sum_ok A [a] 1 w (hM.rd k) (by simp) (by rw [cat1, ints_length]; omega)
  rw [cat1] at h
  exact h
theorem wflag_ok (b : Bool) (hb : out.length < 1000000000) (hM : Mem H w0 (wrR g out bad :: L) w) : Calls Try.prog 128 #[.pointer (some ⟨g, 0, none⟩), .bool b] w fun en w' => ∃ v, en = .returned v ∧ v = .tuple #[] ∧ Mem H w0 (wrR g (out ++ [if b = true then 1 else 0]) bad :: L) w' := by
  refine C_wire_Writer_Flag ?_
  unfold F_wire_Writer_Flag
  obtain ⟨A, c, hM⟩ := hM.wr
  cases b
  · ((with_reducible (refine mop_c trivial ?_; refine mif_false ?_; refine mif_false ?_; refine mop_c trivial ?_; refine mop_c trivial ?_; refine mm_ld hM ?_; refine mm_bsl hM ?_ ?_ ?_)); (focus rfl); (focus (constructor <;> simp)); (with_reducible (clear hM; intro _ _ hM; refine mm_appo hM ?_ ?_)); (focus omega); (with_reducible (clear hM; intro _ _ _ hM; refine mop_c trivial ?_; refine mop_c trivial ?_; refine mm_st hM ?_; clear hM; intro _ hM)))
    rename_i A' c' _ _
    have e : byts out ++ [[.one (.int .u8 0)]] = byts (out ++ [0]) := by rw [byts_app]; rfl
    rw [e] at hM
    have hM : Mem H w0 (fb g 173 [.one (.slice A' (out.length + 1) c'), .one (.bool bad)] :: rowR 5 1 A' (out.length + 1) c' (byts (out ++ [0])) :: L) _ := hM.sub
    exact ⟨_, rfl, rfl, Mem.unwr hM (by simp)⟩
  · ((with_reducible (refine mop_c trivial ?_; refine mif_false ?_; refine mif_true ?_; refine mop_c trivial ?_; refine mop_c trivial ?_; refine mm_ld hM ?_; refine mm_bsl hM ?_ ?_ ?_)); (focus rfl); (focus (constructor <;> simp)); (with_reducible (clear hM; intro _ _ hM; refine mm_appo hM ?_ ?_)); (focus omega); (with_reducible (clear hM; intro _ _ _ hM; refine mop_c trivial ?_; refine mop_c trivial ?_; refine mm_st hM ?_; clear hM; intro _ hM)))
    rename_i A' c' _ _
    have e : byts out ++ [[.one (.int .u8 1)]] = byts (out ++ [1]) := by rw [byts_app]; rfl
    rw [e] at hM
    have hM : Mem H w0 (fb g 173 [.one (.slice A' (out.length + 1) c'), .one (.bool bad)] :: rowR 5 1 A' (out.length + 1) c' (byts (out ++ [1])) :: L) _ := hM.sub
    exact ⟨_, rfl, rfl, Mem.unwr hM (by simp)⟩
theorem leafBytes_ok (l : Lf) (hn : 0 ≤ l.name ∧ l.name ≤ 64) (hb : out.length < 1000000) (hM : Mem H w0 (wrR g out false :: L) w) : Calls Try.prog 96 #[.pointer (some ⟨g, 0, none⟩), lv l] w fun en w' => ∃ v, en = .returned v ∧ v = .tuple #[] ∧ Mem H w0 (wrR g (out ++ leafB l) false :: L) w' := by
  refine C_tree_leafBytes ?_
  unfold F_tree_leafBytes
  have hnl := numB_length l.name
  ((with_reducible (refine mm_box hM ?_; clear hM; intro _ _ hM; refine mop_c trivial ?_; refine mm_ld hM ?_)))
  ((with_reducible (refine mop_cS trivial ?_ ?_)))
  · intro h
    skip
    refine mm_own (wflag_ok true (by omega) (hM.at_ (wrR g out false))) ?_
    rintro v w2 ⟨rfl, hM⟩
    ((with_reducible (refine mop_c trivial ?_; refine mm_ld hM ?_; refine mop_cT trivial ?_ ?_)); (focus (first | assumption | omega | with_reducible rfl | exact fun h => Bool.noConfusion h)); (with_reducible (refine mif_true ?_; refine mop_c trivial ?_; refine mm_ld hM ?_)))
    refine mm_own (wnum_ok l.name (by omega) (by simp; omega) hM) ?_
    rintro v w2 ⟨rfl, hM⟩
    ((with_reducible (refine mop_c trivial ?_; refine mm_ld hM ?_)))
    refine mm_own (whash_ok l.pub (by simp; omega) hM) ?_
    rintro v w2 ⟨rfl, hM⟩
    ((with_reducible (refine mop_c trivial ?_; refine mm_ld hM ?_)))
    refine mm_own (whash_ok l.ver (by simp [l.pub.2.1]; omega) hM) ?_
    rintro v w2 ⟨rfl, hM⟩
    ((with_reducible (refine mop_c trivial ?_; refine mm_ld hM ?_)))
    refine mm_own (whash_ok l.abv (by simp [l.pub.2.1, l.ver.2.1]; omega) hM) ?_
    rintro v w2 ⟨rfl, hM⟩
    skip
    have e : out ++ [if true = true then 1 else 0] ++ numB l.name ++ l.pub.1 ++ l.ver.1 ++ l.abv.1 = out ++ leafB l := by
      unfold leafB
      rw [if_pos (show 0 < l.name by omega)]
      simp
    rw [e] at hM
    exact ⟨_, rfl, rfl, hM.sub⟩
  · intro h
    skip
    refine mm_own (wflag_ok false (by omega) (hM.at_ (wrR g out false))) ?_
    rintro v w2 ⟨rfl, hM⟩
    ((with_reducible (refine mop_c trivial ?_; refine mm_ld hM ?_; refine mop_cF trivial ?_ ?_)); (focus (first | assumption | omega | with_reducible rfl | exact fun h => Bool.noConfusion h)); (with_reducible (refine mif_false ?_)))
    have e : out ++ [if false = true then 1 else 0] = out ++ leafB l := by
      unfold leafB
      rw [if_neg (show ¬ 0 < l.name by omega)]
      rfl
    rw [e] at hM
    exact ⟨_, rfl, rfl, hM.sub⟩
theorem parentBytes_ok (p : Pn) {C : Option Addr} {c : Nat} (hs : Sl H 1 C (ints8 p.loose)) (hp : p.loose.length ≤ 64 ∧ ∀ q ∈ p.loose, 0 ≤ q ∧ q ≤ 64) (hb : out.length < 1000000) (hM : Mem H w0 (wrR g out false :: L) w) : Calls Try.prog 98 #[.pointer (some ⟨g, 0, none⟩), .agg (fl (p.row C c)).toArray] w fun en w' => ∃ v, en = .returned v ∧ v = .tuple #[] ∧ Mem H w0 (wrR g (out ++ parentB p) false :: L) w' := by
  refine C_tree_parentBytes ?_
  unfold F_tree_parentBytes
  ((with_reducible (refine mm_box hM ?_; clear hM; intro _ _ hM; refine mop_c trivial ?_; refine mm_ld hM ?_)))
  rename_i g1 _
  refine mm_own (wflag_ok p.set (by omega) (hM.at_ (wrR g out false))) ?_
  rintro v w2 ⟨rfl, hM⟩
  ((with_reducible (refine mop_c trivial ?_; refine mm_ld hM ?_)))
  rcases Bool.eq_false_or_eq_true p.set with hset | hset
  · have e : parentB p = [1] ++ p.pub.1 ++ p.abv.1 ++ numB p.loose.length ++ p.loose.flatMap numB := if_pos hset
    rw [hset] at hM ⊢
    ((with_reducible (refine mif_true ?_; refine mop_c trivial ?_; refine mm_ld hM ?_)))
    refine mm_own (whash_ok p.pub (by simp; omega) (hM.at_ (wrR g (out ++ [if true = true then 1 else 0]) false))) ?_
    rintro v w2 ⟨rfl, hM⟩
    ((with_reducible (refine mop_c trivial ?_; refine mm_ld hM ?_)))
    refine mm_own (whash_ok p.abv (by simp [p.pub.2.1]; omega) hM) ?_
    rintro v w2 ⟨rfl, hM⟩
    ((with_reducible (refine mop_c trivial ?_; refine mm_ld hM ?_; refine mop_c trivial ?_)))
    refine mm_own (wnum_ok p.loose.length (by omega) (by simp [p.pub.2.1, p.abv.2.1]; omega) hM) ?_
    rintro v w2 ⟨rfl, hM⟩
    have hnl := numB_length p.loose.length
    generalize hbase : out ++ [if true = true then 1 else 0] ++ p.pub.1 ++ p.abv.1 ++ numB p.loose.length = base at hM
    have hbl : base.length ≤ out.length + 73 := by rw [← hbase]; simp [p.pub.2.1, p.abv.2.1]; omega
    ((with_reducible (refine mop_c trivial ?_; refine mm_ld hM ?_; refine mop_c trivial ?_)))
    refine ⟨fun v w' => ∃ k : Nat, v = .int .i64 k ∧ k ≤ p.loose.length ∧ Mem H w0 (wrR g (base ++ (p.loose.take k).flatMap numB) false :: fb g1 96 (p.row C c) :: L) w', fun v _ => match v with | .int _ k => p.loose.length - k.toNat | _ => 0, ⟨0, rfl, by omega, by simpa using hM⟩, ?_⟩
    clear hM
    rintro v u w3 ⟨k, rfl, hk, hM⟩
    ((with_reducible (refine mop_cS trivial ?_ ?_)))
    · intro hlt
      have hlt' : k < p.loose.length := by omega
      have e1 := ints8_at (l := p.loose) (i := k) hlt'
      have hq := hp.2 _ (List.getElem_mem hlt')
      have hfl := byt_len (f := numB) (l := p.loose.take k) (k := 8) fun x _ => (numB_length x).1
      rw [List.length_take] at hfl
      ((with_reducible (refine mif_true ?_)); (with_reducible refine mm_ixs ‹_› ?_ ?_ ?_); (focus (simp only [List.length_map]; omega)); (focus (simp only [List.length_map]; first | done | omega)); (with_reducible (intro _ _ hA)); (cases hA); (with_reducible refine mm_lds0 hM ‹_› (map_atI ?_) ?_); (focus omega))
      refine mm_own (wnum_ok (out := base ++ (p.loose.take k).flatMap numB) p.loose[k] (by omega) (by rw [List.length_append]; omega) hM) ?_
      rintro v w4 ⟨rfl, hM⟩
      ((with_reducible (refine mop_c ?_ ?_)); (focus omega))
      refine ⟨⟨k + 1, rfl, by omega, ?_⟩, by simp only; omega⟩
      rw [List.take_succ_eq_append_getElem hlt', List.flatMap_append, ← List.append_assoc]
      simpa using hM
    · intro hge
      obtain rfl : k = p.loose.length := by omega
      rw [List.take_length] at hM
      ((with_reducible (refine mif_false ?_)))
      have e2 : base ++ p.loose.flatMap numB = out ++ parentB p := by
        rw [e, ← hbase]
        simp
      rw [e2] at hM
      exact ⟨_, rfl, rfl, hM.sub⟩
  · have e : parentB p = [0] := if_neg (by rw [hset]; simp)
    rw [hset] at hM ⊢
    ((with_reducible (refine mif_false ?_)))
    have e2 : out ++ [if false = true then 1 else 0] = out ++ parentB p := by
      rw [e]
      rfl
    rw [e2] at hM
    exact ⟨_, rfl, rfl, hM.sub⟩
theorem level_odd (x : Int) : x % 2 = 1 → 1 ≤ level x := fun h => by
  have := lev_rng 7 (x / 2)
  unfold level
  rw [lev, if_pos h]
  omega
theorem leafB_byt (l : Lf) (hn : 0 ≤ l.name ∧ l.name ≤ 64) : ∀ x ∈ leafB l, 0 ≤ x ∧ x < 256 := fun x hx => by
  unfold leafB at hx
  split at hx
  · simp only [List.mem_append, List.mem_singleton] at hx
    rcases hx with (((rfl | hx) | hx) | hx) | hx
    · omega
    · exact numB_range l.name (by omega) x hx
    · exact l.pub.2.2 x hx
    · exact l.ver.2.2 x hx
    · exact l.abv.2.2 x hx
  · rw [List.mem_singleton.1 hx]
    omega
theorem parentB_byt (p : Pn) (hp : p.loose.length ≤ 64 ∧ ∀ q ∈ p.loose, 0 ≤ q ∧ q ≤ 64) : ∀ x ∈ parentB p, 0 ≤ x ∧ x < 256 := fun x hx => by
  unfold parentB at hx
  split at hx
  · simp only [List.mem_append, List.mem_singleton] at hx
    rcases hx with (((rfl | hx) | hx) | hx) | hx
    · omega
    · exact p.pub.2.2 x hx
    · exact p.abv.2.2 x hx
    · exact numB_range p.loose.length (by omega) x hx
    · obtain ⟨q, hq, hx⟩ := List.mem_flatMap.1 hx
      exact numB_range q (by have := hp.2 q hq; omega) x hx
  · rw [List.mem_singleton.1 hx]
    omega
theorem hashLeaf_ok {f : Nat} {x : Int} (hG : t.Gd) (h1 : Sl H 97 A (t.ls.map Lf.fds)) (he : x % 2 = 0) (ht : thr t.size x) (hf : Fz H w) :
    Calls Try.prog 54 #[tv A t.ls.length a B t.ps.length b, .int .i64 x] w fun en w' => en = .returned (ha (hAt f t x)) ∧ St w [] w' := by
  have hM := Mem.start hf
  have hlen := hG.len
  have hts : t.size = t.ls.length := rfl
  obtain ⟨k1, k2, k3⟩ := id ht
  refine C_tree_hashAt ?_
  unfold F_tree_hashAt
  ((with_reducible (refine mm_box hM ?_; clear hM; intro _ _ hM; refine mm_new hM ?_; clear hM; intro _ _ hM)))
  refine mm_own (wnew_ok hM) ?_
  rintro v w2 ⟨g, rfl, hM⟩
  have hix : (x / 2).toNat < t.ls.length := by omega
  have hla : leafAt t (x / 2) = t.ls[(x / 2).toNat] := by
    unfold leafAt
    rw [List.getD_eq_getElem?_getD, List.getElem?_eq_getElem hix]
    rfl
  have hlb := leafB_len t.ls[(x / 2).toNat]
  ((with_reducible (refine mop_c ?_ ?_)); (focus omega); (with_reducible (refine mop_cT trivial ?_ ?_)); (focus (first | assumption | omega | with_reducible rfl | exact fun h => Bool.noConfusion h)); (with_reducible (refine mif_true ?_; refine mop_c trivial ?_; refine mm_ld hM ?_; refine mop_c ?_ ?_)); (focus omega); (with_reducible refine mm_ixs ‹_› ?_ ?_ ?_); (focus (simp only [List.length_map]; omega)); (focus (simp only [List.length_map]; first | done | omega)); (with_reducible (intro _ _ hA)); (cases hA); (with_reducible refine mm_lds0 hM ‹_› (map_at ?_) ?_); (focus omega))
  refine mm_own (leafBytes_ok t.ls[(x / 2).toNat] (hG.nm _ (List.getElem_mem _)) (by simp) (hM.at_ (wrR g [] false))) ?_
  rintro v w3 ⟨rfl, hM⟩
  refine mm_pure hM (wend_ok hM) (fun w hM => ?_)
  ((with_reducible (refine mop_c trivial ?_; refine mop_c trivial ?_; refine mm_bsl hM ?_ ?_ ?_)); (focus rfl); (focus (constructor <;> simp)); (with_reducible (clear hM; intro _ _ hM)))
  refine mm_pure hM (sum2_ok bleaf (strOfNums ([] ++ leafB t.ls[(x / 2).toNat])) (by rw [strOfNums_size]; simp; have : bleaf.size = 4 := rfl; omega) hM) (fun w hM => ?_)
  ((with_reducible (refine mm_st hM ?_; clear hM; intro _ hM; refine rm_ld hM ?_)))
  refine ⟨?_, hM.st⟩
  rw [List.nil_append, ints_str _ (leafB_byt _ (hG.nm _ (List.getElem_mem _))), hAt_leaf he, hla]
  rfl
theorem hashAt_ok (hG : t.Gd) (h1 : Sl H 97 A (t.ls.map Lf.fds)) (h2 : Sl H 66 B qs) (h3 : All2 (PnF H) qs t.ps) : ∀ (f : Nat) (x : Int), level x ≤ f → thr t.size x → ∀ w, Fz H w →
    Calls Try.prog 54 #[tv A t.ls.length a B t.ps.length b, .int .i64 x] w fun en w' => en = .returned (ha (hAt f t x)) ∧ St w [] w' := by
  have hlen := hG.len
  have hts : t.size = t.ls.length := rfl
  have hq : qs.length = t.ps.length := h3.len
  intro f
  induction f with
  | zero =>
    intro x hx ht w hf
    have he : x % 2 = 0 := by
      have := level_odd x
      omega
    exact hashLeaf_ok hG h1 he ht hf
  | succ f ih =>
    intro x hx ht w hf
    by_cases he : x % 2 = 0
    · exact hashLeaf_ok hG h1 he ht hf
    have ho : x % 2 = 1 := by omega
    obtain ⟨k1, k2, k3⟩ := id ht
    obtain ⟨⟨t1, t2⟩, ⟨l1, l2⟩, -⟩ := lr_eq ht ho
    have hM := Mem.start hf
    refine C_tree_hashAt ?_
    unfold F_tree_hashAt
    ((with_reducible (refine mm_box hM ?_; clear hM; intro _ _ hM; refine mm_new hM ?_; clear hM; intro _ _ hM)))
    refine mm_own (wnew_ok hM) ?_
    rintro v w2 ⟨g, rfl, hM⟩
    have hix : (x / 2).toNat < t.ps.length := by omega
    obtain ⟨q, hq1, C, c, rfl, hC, hcl⟩ := h3.at_ (i := (x / 2).toNat) hix
    obtain ⟨p, hpe⟩ : ∃ p, t.ps[(x / 2).toNat] = p := ⟨_, rfl⟩
    have hpa : parAt t (x / 2) = p := by
      unfold parAt
      rw [List.getD_eq_getElem?_getD, List.getElem?_eq_getElem hix, hpe]
      rfl
    have hlo := hG.lo p (hpe ▸ List.getElem_mem _)
    have hpl := parentB_len hlo.1
    rw [hpe] at hq1 hC hcl
    ((with_reducible (refine mop_c ?_ ?_)); (focus omega); (with_reducible (refine mop_cF trivial ?_ ?_)); (focus (first | assumption | omega | with_reducible rfl | exact fun h => Bool.noConfusion h)); (with_reducible (refine mif_false ?_; refine mop_c trivial ?_; refine mm_ld hM ?_; refine mop_c trivial ?_; refine mop_c trivial ?_; refine mm_ld hM ?_; refine mop_c ?_ ?_)); (focus omega))
    refine mm_ixs h2 (by omega) hq.symm (fun bb oo hB => ?_)
    cases hB
    refine mm_lds0 hM h2 hq1 ?_
    refine mm_own (parentBytes_ok p hC hlo (by simp) (hM.at_ (wrR g [] false))) ?_
    rintro v w3 ⟨rfl, hM⟩
    ((with_reducible (refine dm_ld hM ?_; refine dm_purC hM ?_ (fun _ _ hM => ?_))); (focus (first | exact trivial | assumption | omega)))
    have hbl : ∀ y ∈ snode ++ (parentB p ++ (hAt f t (lf t.size x)).1 ++ (hAt f t (rt t.size x)).1), 0 ≤ y ∧ y < 256 := fun y hy => by
      simp only [List.mem_append] at hy
      rcases hy with hy | (hy | hy) | hy
      · simp at hy
        omega
      · exact parentB_byt p hlo y hy
      · exact (hAt f t (lf t.size x)).2.2 y hy
      · exact (hAt f t (rt t.size x)).2.2 y hy
    refine dm_pure hM (fun w hM => ih (lf t.size x) (by omega) t1 w hM.fz) (fun w' hx hM => ?_)
    refine dm_own hM (fun w hM => whash_ok (hAt f t (lf t.size x)) (by simp; omega) (hM.at_ (wrR g ([] ++ parentB p) false))) ?_
    rintro v w4 ⟨rfl, hM⟩
    ((with_reducible (refine mm_end hM ?_; clear hM; intro _ hM; refine dm_ld hM ?_; refine dm_purC hM ?_ (fun _ _ hM => ?_))); (focus (first | exact trivial | assumption | omega)))
    refine dm_pure hM (fun w hM => ih (rt t.size x) (by omega) t2 w hM.fz) (fun w' hx hM => ?_)
    refine dm_own hM (fun w hM => whash_ok (hAt f t (rt t.size x)) (by simp [(hAt f t (lf t.size x)).2.1]; omega) (hM.at_ (wrR g ([] ++ parentB p ++ (hAt f t (lf t.size x)).1) false))) ?_
    rintro v w5 ⟨rfl, hM⟩
    ((with_reducible (refine mm_end hM ?_; clear hM; intro _ hM)))
    refine mm_pure hM (wend_ok hM) (fun w hM => ?_)
    ((with_reducible (refine mop_c trivial ?_; refine mop_c trivial ?_; refine mm_bsl hM ?_ ?_ ?_)); (focus rfl); (focus (constructor <;> simp)); (with_reducible (clear hM; intro _ _ hM)))
    refine mm_pure hM (sum2_ok bnode (strOfNums ([] ++ parentB p ++ (hAt f t (lf t.size x)).1 ++ (hAt f t (rt t.size x)).1)) (by rw [strOfNums_size]; simp [(hAt f t (lf t.size x)).2.1, (hAt f t (rt t.size x)).2.1]; have : bnode.size = 4 := rfl; omega) hM) (fun w hM => ?_)
    ((with_reducible (refine mm_st hM ?_; clear hM; intro _ hM; refine rm_ld hM ?_)))
    refine ⟨?_, hM.st⟩
    rw [List.nil_append, ints_str _ (fun y hy => hbl y (List.mem_append.2 (.inr hy))), hAt, if_neg he, hpa]
    rfl
end
end Go.Proofs.Ytopcnkejobomaaa
/- The hash of a tree: the document's. -/
namespace Go.Proofs.Ytopcnkejobomaaa
open Go.RowKit Go.Lib

theorem flat_byt {l : List Int} {f : Int → List Int} (h : ∀ x ∈ l, ∀ y ∈ f x, 0 ≤ y ∧ y < 256) : ∀ y ∈ l.flatMap f, 0 ≤ y ∧ y < 256 := fun y hy => by
  obtain ⟨x, hx, hy⟩ := List.mem_flatMap.1 hy
  exact h x hx y hy
theorem root_fin : ∀ n : Fin 65, 1 ≤ n.val → thr (n.val : Int) (root n.val) := by decide +kernel
theorem root_thr {n : Int} (h : 1 ≤ n ∧ n ≤ 64) : thr n (root n) := by
  have := root_fin ⟨n.toNat, by omega⟩ (by simp only; omega)
  simpa only [Int.toNat_of_nonneg (show 0 ≤ n by omega)] using this
section
variable {H : Hp} {w0 w : World} {L R : List Res} {g : Nat} {A B : Option Addr} {a b : Nat} {t : Tr} {qs : List (List Fd)}
theorem rflag_ok (b : Bool) (w : World) : Calls Try.prog 130 #[.bool b] w fun en w' => en = .returned (.string (strOfNums [if b = true then 1 else 0])) ∧ St w [] w' := by
  have hM := Mem.start (Fz.of w)
  refine C_bevyref01_Flag ?_
  unfold F_bevyref01_Flag
  cases b
  · ((with_reducible (refine mif_false ?_)))
    exact ⟨rfl, hM.st⟩
  · ((with_reducible (refine mif_true ?_)))
    exact ⟨rfl, hM.st⟩
instance (b : Bool) : PurC Try.prog 130 [.bool b] True (.string (strOfNums [if b = true then 1 else 0])) := ⟨fun _ w => rflag_ok b w⟩
theorem ttext_ok (h : H32) (w : World) : Calls Try.prog 104 #[ha h] w fun en w' => en = .returned (.string (strOfNums h.1)) ∧ St w [] w' := by
  have hM := Mem.start (Fz.of w)
  refine C_bevyref08_text ?_
  unfold F_bevyref08_text
  ((with_reducible (refine mm_box hM ?_; clear hM; intro _ _ hM; refine mop_c trivial ?_; refine mm_cvb hM ?_)))
  exact ⟨rfl, hM.st⟩
instance (h : H32) : PurC Try.prog 104 [.agg (u8s h.1).toArray] True (.string (strOfNums h.1)) := ⟨fun _ w => ttext_ok h w⟩
theorem rleaf_ok (l : Lf) (hn : 0 ≤ l.name ∧ l.name ≤ 64) (w : World) : Calls Try.prog 102 #[lv l] w fun en w' => en = .returned (.string (strOfNums (leafB l))) ∧ St w [] w' := by
  have hM := Mem.start (Fz.of w)
  have hnl := numB_length l.name
  refine C_bevyref08_leaf ?_
  unfold F_bevyref08_leaf
  ((with_reducible (refine mm_box hM ?_; clear hM; intro _ _ hM; refine mop_c trivial ?_; refine mm_ld hM ?_)))
  ((with_reducible (refine mop_cS trivial ?_ ?_)))
  · intro h
    ((with_reducible (refine mm_purC hM ?_ ?_)); (focus (first | exact trivial | assumption | omega)); (with_reducible (clear hM; intro _ hM)))
    refine ⟨fun v w' => v = .string (strOfNums (leafB l)) ∧ hM.now w', ?_, ?_⟩
    · have e : leafB l = [1] ++ numB l.name ++ l.pub.1 ++ l.ver.1 ++ l.abv.1 := if_pos (by omega)
      ((with_reducible (refine mop_c trivial ?_; refine mm_ld hM ?_; refine mop_cT trivial ?_ ?_)); (focus (first | assumption | omega | with_reducible rfl | exact fun h => Bool.noConfusion h)); (with_reducible (refine mif_true ?_; refine dp_c trivial ?_; refine dm_ld hM ?_; refine dm_purC hM ?_ (fun _ _ hM => ?_))); (focus (first | exact trivial | assumption | omega)))
      refine dp_cat _ _ (by simp; omega) ?_
      ((with_reducible (refine dp_c trivial ?_)); (with_reducible refine dm_ld ‹Mem _ _ _ _› ?_); (with_reducible (refine dm_purC hM ?_ (fun _ _ hM => ?_))); (focus (first | exact trivial | assumption | omega)))
      refine dp_cat _ _ (by simp [l.pub.2.1]; omega) ?_
      ((with_reducible (refine dp_c trivial ?_)); (with_reducible refine dm_ld ‹Mem _ _ _ _› ?_); (with_reducible (refine dm_purC hM ?_ (fun _ _ hM => ?_))); (focus (first | exact trivial | assumption | omega)))
      refine dp_cat _ _ (by simp [l.pub.2.1, l.ver.2.1]; omega) ?_
      ((with_reducible (refine dp_c trivial ?_)); (with_reducible refine dm_ld ‹Mem _ _ _ _› ?_); (with_reducible (refine dm_purC hM ?_ (fun _ _ hM => ?_))); (focus (first | exact trivial | assumption | omega)))
      refine dp_cat _ _ (by simp [l.pub.2.1, l.ver.2.1, l.abv.2.1]; omega) ?_
      ((with_reducible (refine mm_end hM ?_; clear hM; intro _ hM)))
      rw [e]
      exact ⟨rfl, hM⟩
    rintro v u w2 ⟨rfl, hM⟩
    exact ⟨rfl, hM.st⟩
  · intro h
    ((with_reducible (refine mm_purC hM ?_ ?_)); (focus (first | exact trivial | assumption | omega)); (with_reducible (clear hM; intro _ hM)))
    have e : leafB l = [0] := if_neg (by omega)
    refine ⟨fun v w' => v = .string (strOfNums (leafB l)) ∧ hM.now w', ?_, ?_⟩
    · ((with_reducible (refine mop_c trivial ?_; refine mm_ld hM ?_; refine mop_cF trivial ?_ ?_)); (focus (first | assumption | omega | with_reducible rfl | exact fun h => Bool.noConfusion h)); (with_reducible (refine mif_false ?_)))
      rw [e]
      exact ⟨rfl, hM⟩
    rintro v u w2 ⟨rfl, hM⟩
    exact ⟨rfl, hM.st⟩
theorem rparent_ok (p : Pn) {C : Option Addr} {c : Nat} (hs : Sl H 1 C (ints8 p.loose)) (hp : p.loose.length ≤ 64 ∧ ∀ q ∈ p.loose, 0 ≤ q ∧ q ≤ 64) (hf : Fz H w) : Calls Try.prog 103 #[.agg (fl (p.row C c)).toArray] w fun en w' => en = .returned (.string (strOfNums (parentB p))) ∧ St w [] w' := by
  have hM := Mem.start hf
  have hnl := numB_length p.loose.length
  refine C_bevyref08_parent ?_
  unfold F_bevyref08_parent
  ((with_reducible (refine mm_box hM ?_; clear hM; intro _ _ hM; refine mop_c trivial ?_; refine mm_ld hM ?_; refine mm_purC hM ?_ ?_)); (focus (first | exact trivial | assumption | omega)); (with_reducible (clear hM; intro _ hM)))
  rename_i g1 _ _
  refine ⟨fun v w' => v = .string (strOfNums (parentB p)) ∧ Mem H w [] w', ?_, ?_⟩
  · ((with_reducible (refine mop_c trivial ?_; refine mm_ld hM ?_)))
    rcases Bool.eq_false_or_eq_true p.set with hset | hset
    · have e : parentB p = [1] ++ p.pub.1 ++ p.abv.1 ++ numB p.loose.length ++ p.loose.flatMap numB := if_pos hset
      rw [hset]
      ((with_reducible (refine mif_true ?_; refine dp_c trivial ?_; refine dm_ld hM ?_; refine dm_purC hM ?_ (fun _ _ hM => ?_))); (focus (first | exact trivial | assumption | omega)))
      refine dp_cat _ _ (by simp [p.pub.2.1]) ?_
      ((with_reducible (refine dp_c trivial ?_)); (with_reducible refine dm_ld ‹Mem _ _ _ _› ?_); (with_reducible (refine dm_purC hM ?_ (fun _ _ hM => ?_))); (focus (first | exact trivial | assumption | omega)))
      refine dp_cat _ _ (by simp [p.pub.2.1, p.abv.2.1]) ?_
      ((with_reducible (refine dp_c trivial ?_)); (with_reducible refine dm_ld ‹Mem _ _ _ _› ?_); (with_reducible (refine dp_c trivial ?_; refine dm_purC hM ?_ (fun _ _ hM => ?_))); (focus (first | exact trivial | assumption | omega)))
      refine dp_cat _ _ (by simp [p.pub.2.1, p.abv.2.1]; omega) ?_
      ((with_reducible (refine mm_end hM ?_; clear hM; intro _ hM)))
      generalize hbase : [if true = true then 1 else 0] ++ p.pub.1 ++ p.abv.1 ++ numB p.loose.length = base
      have hbl : base.length ≤ 73 := by rw [← hbase]; simp [p.pub.2.1, p.abv.2.1]; omega
      refine ⟨fun v u w' => ∃ k : Nat, v = .string (strOfNums (base ++ (p.loose.take k).flatMap numB)) ∧ u = .int .i64 k ∧ k ≤ p.loose.length ∧ Mem H w [fb g1 96 (p.row C c)] w', fun _ u _ => match u with | .int _ k => p.loose.length - k.toNat | _ => 0, ⟨0, by simp, rfl, by omega, hM.sub⟩, ?_⟩
      clear hM
      rintro v u u2 w3 ⟨k, rfl, rfl, hk, hM⟩
      ((with_reducible (refine mop_c trivial ?_; refine mm_ld hM ?_; refine mop_c trivial ?_)))
      ((with_reducible (refine mop_cS trivial ?_ ?_)))
      · intro hlt
        have hlt' : k < p.loose.length := by omega
        have e1 := ints8_at (l := p.loose) (i := k) hlt'
        have hq := hp.2 _ (List.getElem_mem hlt')
        have hfl := byt_len (f := numB) (l := p.loose.take k) (k := 8) fun x _ => (numB_length x).1
        have hnk := numB_length p.loose[k]
        rw [List.length_take] at hfl
        ((with_reducible (refine mif_true ?_; refine mop_c trivial ?_; refine mm_ld hM ?_)); (with_reducible refine mm_ixs ‹_› ?_ ?_ ?_); (focus (simp only [List.length_map]; omega)); (focus (simp only [List.length_map]; first | done | omega)); (with_reducible (intro _ _ hA)); (cases hA); (with_reducible refine mm_lds0 hM ‹_› (map_atI ?_) ?_); (focus omega); (with_reducible (refine mm_purC hM ?_ ?_)); (focus (first | exact trivial | assumption | omega)); (with_reducible (clear hM; intro _ hM)))
        refine mop_cat _ _ (by rw [List.length_append]; omega) ?_
        ((with_reducible (refine mop_c ?_ ?_)); (focus omega))
        refine ⟨⟨k + 1, ?_, rfl, by omega, hM⟩, by simp only; omega⟩
        rw [List.take_succ_eq_append_getElem hlt', List.flatMap_append, List.append_assoc]
        simp
      · intro hge
        obtain rfl : k = p.loose.length := by omega
        rw [List.take_length]
        ((with_reducible (refine mif_false ?_)))
        refine ⟨?_, hM.sub⟩
        rw [e, ← hbase]
        rfl
    · have e : parentB p = [0] := if_neg (by rw [hset]; simp)
      rw [hset]
      ((with_reducible (refine mif_false ?_)))
      rw [e]
      exact ⟨rfl, hM.sub⟩
  rintro v u w2 ⟨rfl, hM⟩
  exact ⟨rfl, hM.st⟩
theorem rsum_ok (l : List Int) (hl : ∀ x ∈ l, 0 ≤ x ∧ x < 256) (hn : l.length ≤ 1000000) (w : World) : Calls Try.prog 56 #[.string (strOfNums l)] w fun en w' => en = .returned (.agg (u8s (shaH l).1).toArray) ∧ St w [] w' := by
  have h := refsum_ok (strOfNums l) w (by rw [strOfNums_size]; omega)
  rw [ints_str _ hl] at h
  exact h
theorem rhashAt_ok (hG : t.Gd) (h1 : Sl H 97 A (t.ls.map Lf.fds)) (h2 : Sl H 66 B qs) (h3 : All2 (PnF H) qs t.ps) : ∀ (f : Nat) (x : Int), level x ≤ f → thr t.size x → ∀ w, Fz H w →
    Calls Try.prog 57 #[tv A t.ls.length a B t.ps.length b, .int .i64 x] w fun en w' => en = .returned (ha (hAt f t x)) ∧ St w [] w' := by
  have hlen := hG.len
  have hts : t.size = t.ls.length := rfl
  have hq : qs.length = t.ps.length := h3.len
  have hleaf : ∀ (f : Nat) (x : Int), x % 2 = 0 → thr t.size x → ∀ w, Fz H w → Calls Try.prog 57 #[tv A t.ls.length a B t.ps.length b, .int .i64 x] w fun en w' => en = .returned (ha (hAt f t x)) ∧ St w [] w' := by
    intro f x he ht w hf
    have hM := Mem.start hf
    obtain ⟨k1, k2, k3⟩ := id ht
    have hix : (x / 2).toNat < t.ls.length := by omega
    have hla : leafAt t (x / 2) = t.ls[(x / 2).toNat] := by
      unfold leafAt
      rw [List.getD_eq_getElem?_getD, List.getElem?_eq_getElem hix]
      rfl
    have hlb := leafB_len t.ls[(x / 2).toNat]
    have hnm := hG.nm _ (List.getElem_mem hix)
    refine C_bevyref08_HashAt ?_
    unfold F_bevyref08_HashAt
    ((with_reducible (refine mm_box hM ?_; clear hM; intro _ _ hM; refine mm_new hM ?_; clear hM; intro _ _ hM; refine mop_c ?_ ?_)); (focus omega); (with_reducible (refine mop_cT trivial ?_ ?_)); (focus (first | assumption | omega | with_reducible rfl | exact fun h => Bool.noConfusion h)); (with_reducible (refine mif_true ?_; refine mop_c trivial ?_; refine mm_ld hM ?_; refine mop_c ?_ ?_)); (focus omega); (with_reducible refine mm_ixs ‹_› ?_ ?_ ?_); (focus (simp only [List.length_map]; omega)); (focus (simp only [List.length_map]; first | done | omega)); (with_reducible (intro _ _ hA)); (cases hA); (with_reducible refine mm_lds0 hM ‹_› (map_at ?_) ?_); (focus omega))
    refine mm_pure hM (rleaf_ok _ hnm _) (fun w hM => ?_)
    rw [show (ByteArray.mk #[108, 101, 97, 102]) = strOfNums sleaf from rfl]
    refine mop_cat _ _ (by simp; omega) ?_
    refine mm_pure hM (rsum_ok _ (fun y hy => by
      rcases List.mem_append.1 hy with hy | hy
      · simp at hy
        omega
      · exact leafB_byt _ hnm y hy) (by simp; omega) _) (fun w hM => ?_)
    ((with_reducible (refine mm_st hM ?_; clear hM; intro _ hM; refine rm_ld hM ?_)))
    exact ⟨by rw [hAt_leaf he, hla], hM.st⟩
  intro f
  induction f with
  | zero =>
    intro x hx ht w hf
    have he : x % 2 = 0 := by
      have := level_odd x
      omega
    exact hleaf 0 x he ht w hf
  | succ f ih =>
    intro x hx ht w hf
    by_cases he : x % 2 = 0
    · exact hleaf (f + 1) x he ht w hf
    have ho : x % 2 = 1 := by omega
    obtain ⟨k1, k2, k3⟩ := id ht
    obtain ⟨⟨t1, t2⟩, ⟨l1, l2⟩, -⟩ := lr_eq ht ho
    have hM := Mem.start hf
    have hix : (x / 2).toNat < t.ps.length := by omega
    obtain ⟨q, hq1, C, c, rfl, hC, hcl⟩ := h3.at_ (i := (x / 2).toNat) hix
    obtain ⟨p, hpe⟩ : ∃ p, t.ps[(x / 2).toNat] = p := ⟨_, rfl⟩
    have hpa : parAt t (x / 2) = p := by
      unfold parAt
      rw [List.getD_eq_getElem?_getD, List.getElem?_eq_getElem hix, hpe]
      rfl
    have hlo := hG.lo p (hpe ▸ List.getElem_mem _)
    have hpl := parentB_len hlo.1
    rw [hpe] at hq1 hC hcl
    refine C_bevyref08_HashAt ?_
    unfold F_bevyref08_HashAt
    ((with_reducible (refine mm_box hM ?_; clear hM; intro _ _ hM; refine mm_new hM ?_; clear hM; intro _ _ hM; refine mop_c ?_ ?_)); (focus omega); (with_reducible (refine mop_cF trivial ?_ ?_)); (focus (first | assumption | omega | with_reducible rfl | exact fun h => Bool.noConfusion h)); (with_reducible (refine mif_false ?_; refine mop_c trivial ?_; refine mm_ld hM ?_; refine mop_c trivial ?_; refine dp_c trivial ?_; refine dm_ld hM ?_; refine dp_c ?_ ?_)); (focus omega))
    refine dp_ixs h2 (by omega) hq.symm (fun bb oo hB => ?_)
    cases hB
    refine dm_lds0 hM h2 hq1 ?_
    refine dm_pure hM (fun w hM => rparent_ok p hC hlo hM.fz) (fun w' hx hM => ?_)
    rw [show (ByteArray.mk #[110, 111, 100, 101]) = strOfNums snode from rfl]
    refine dp_cat _ _ (by simp; omega) ?_
    ((with_reducible refine dm_ld ‹Mem _ _ _ _› ?_); (with_reducible (refine dm_purC hM ?_ (fun _ _ hM => ?_))); (focus (first | exact trivial | assumption | omega)))
    have hbl : ∀ y ∈ snode ++ parentB p ++ (hAt f t (lf t.size x)).1 ++ (hAt f t (rt t.size x)).1, 0 ≤ y ∧ y < 256 := fun y hy => by
      simp only [List.mem_append] at hy
      rcases hy with ((hy | hy) | hy) | hy
      · simp at hy
        omega
      · exact parentB_byt p hlo y hy
      · exact (hAt f t (lf t.size x)).2.2 y hy
      · exact (hAt f t (rt t.size x)).2.2 y hy
    have hM0 := hM
    refine dm_pure hM (fun w hM => ih (lf t.size x) (by omega) t1 w hM.fz) (fun w' hx hM => ?_)
    ((with_reducible (refine dm_purC hM ?_ (fun _ _ hM => ?_))); (focus (first | exact trivial | assumption | omega)))
    refine dp_cat _ _ (by simp [(hAt f t (lf t.size x)).2.1]; omega) ?_
    ((with_reducible refine dm_ld ‹Mem _ _ _ _› ?_); (with_reducible (refine dm_purC hM ?_ (fun _ _ hM => ?_))); (focus (first | exact trivial | assumption | omega)))
    refine dm_pure hM (fun w hM => ih (rt t.size x) (by omega) t2 w hM.fz) (fun w' hx hM => ?_)
    ((with_reducible (refine dm_purC hM ?_ (fun _ _ hM => ?_))); (focus (first | exact trivial | assumption | omega)))
    refine dp_cat _ _ (by simp [(hAt f t (lf t.size x)).2.1, (hAt f t (rt t.size x)).2.1]; omega) ?_
    refine dm_pure hM (fun w hM => rsum_ok _ hbl (by simp [(hAt f t (lf t.size x)).2.1, (hAt f t (rt t.size x)).2.1]; omega) w) (fun w' hx hM => ?_)
    ((with_reducible (refine dS_st hM ?_; clear hM; intro _ hM; refine mm_end hM ?_; clear hM; intro _ hM; refine rm_ld hM ?_)))
    refine ⟨?_, hM.st⟩
    rw [hAt, if_neg he, hpa]
    simp only [List.append_assoc]
theorem hash_c {v : Value} (h : TrF H v t) (hf : Fz H w) (hR : t.Rt) : Calls Try.prog 20 #[v] w fun en w' => en = .returned (ha (hRoot t)) ∧ St w [] w' := by
  obtain ⟨A, a, B, b, qs, rfl, h1, h2, h3⟩ := h.ex
  have hM := Mem.start hf
  have hlen := hR.len
  refine C_tree_Hash ?_
  unfold F_tree_Hash
  ((with_reducible (refine mm_box hM ?_; clear hM; intro _ _ hM; refine mm_new hM ?_; clear hM; intro _ _ hM; refine mm_ld hM ?_)))
  refine mm_pure hM (sound_ok h1 h2 h3 h.len.1 h.len.2 hM.fz) (fun w hM => ?_)
  rw [if_pos (Tr.rt.2 hR)]
  ((with_reducible (refine mm_st hM ?_; clear hM; intro _ hM; refine mop_c trivial ?_; refine mm_ld hM ?_; refine mop_c trivial ?_)))
  unfold hRoot
  by_cases hn : t.ls = []
  · have hl0 : t.ls.length = 0 := by rw [hn]; rfl
    rw [if_pos hn]
    ((with_reducible (refine mop_cT trivial ?_ ?_)); (focus (first | assumption | omega | with_reducible rfl | exact fun h => Bool.noConfusion h)); (with_reducible (refine mif_true ?_; refine mm_bsl hM ?_ ?_ ?_)); (focus rfl); (focus (constructor <;> simp)); (with_reducible (clear hM; intro _ _ hM)))
    refine mm_pure hM (sum1_ok bnone (by decide) hM) (fun w hM => ?_)
    ((with_reducible (refine mm_st hM ?_; clear hM; intro _ hM; refine rm_ld hM ?_)))
    exact ⟨rfl, hM.st⟩
  · have hl0 : 0 < t.ls.length := List.length_pos_iff.2 hn
    rw [if_neg hn]
    have hts : t.size = t.ls.length := rfl
    have hrt : thr t.size (root t.size) := root_thr ⟨by omega, by omega⟩
    have hlv : level (root t.size) ≤ 8 := by
      have := (up_eq (x := root t.size) (by have := hrt.2; omega)).2.2.2.2
      omega
    ((with_reducible (refine mop_cF trivial ?_ ?_)); (focus (first | assumption | omega | with_reducible rfl | exact fun h => Bool.noConfusion h)); (with_reducible (refine mif_false ?_; refine dm_ld hM ?_; refine dp_c trivial ?_; refine dm_ld hM ?_; refine dp_c trivial ?_; refine dm_purC hM ?_ (fun _ _ hM => ?_))); (focus (first | exact trivial | assumption | omega)))
    refine dm_pure hM (fun w hM => hashAt_ok (hR.gd hn) h1 h2 h3 8 (root t.size) hlv hrt w hM.fz) (fun w' hx hM => ?_)
    ((with_reducible (refine dS_st hM ?_; clear hM; intro _ hM; refine mm_end hM ?_; clear hM; intro _ hM; refine rm_ld hM ?_)))
    exact ⟨rfl, hM.st⟩
theorem rhash_c {v : Value} (h : TrF H v t) (hf : Fz H w) (hR : t.Rt) : Calls Try.prog 21 #[v] w fun en w' => en = .returned (ha (hRoot t)) ∧ St w [] w' := by
  obtain ⟨A, a, B, b, qs, rfl, h1, h2, h3⟩ := h.ex
  have hM := Mem.start hf
  have hlen := hR.len
  refine C_bevyref08_Hash ?_
  unfold F_bevyref08_Hash
  ((with_reducible (refine mm_box hM ?_; clear hM; intro _ _ hM; refine mm_new hM ?_; clear hM; intro _ _ hM; refine mop_c trivial ?_; refine mm_ld hM ?_; refine mop_c trivial ?_)))
  unfold hRoot
  by_cases hn : t.ls = []
  · have hl0 : t.ls.length = 0 := by rw [hn]; rfl
    rw [if_pos hn]
    ((with_reducible (refine mop_cT trivial ?_ ?_)); (focus (first | assumption | omega | with_reducible rfl | exact fun h => Bool.noConfusion h)); (with_reducible (refine mif_true ?_)))
    rw [show (ByteArray.mk #[110, 111, 110, 101]) = strOfNums snone from rfl]
    refine mm_pure hM (rsum_ok snone (by simp) (by simp) _) (fun w hM => ?_)
    ((with_reducible (refine mm_st hM ?_; clear hM; intro _ hM; refine rm_ld hM ?_)))
    exact ⟨rfl, hM.st⟩
  · have hl0 : 0 < t.ls.length := List.length_pos_iff.2 hn
    rw [if_neg hn]
    have hts : t.size = t.ls.length := rfl
    have hrt : thr t.size (root t.size) := root_thr ⟨by omega, by omega⟩
    have hlv : level (root t.size) ≤ 8 := by
      have := (up_eq (x := root t.size) (by have := hrt.2; omega)).2.2.2.2
      omega
    ((with_reducible (refine mop_cF trivial ?_ ?_)); (focus (first | assumption | omega | with_reducible rfl | exact fun h => Bool.noConfusion h)); (with_reducible (refine mif_false ?_; refine dm_ld hM ?_; refine dp_c trivial ?_; refine dm_ld hM ?_; refine dp_c trivial ?_; refine dm_purC hM ?_ (fun _ _ hM => ?_))); (focus (first | exact trivial | assumption | omega)))
    refine dm_pure hM (fun w hM => rhashAt_ok (hR.gd hn) h1 h2 h3 8 (root t.size) hlv hrt w hM.fz) (fun w' hx hM => ?_)
    ((with_reducible (refine dS_st hM ?_; clear hM; intro _ hM; refine mm_end hM ?_; clear hM; intro _ hM; refine rm_ld hM ?_)))
    exact ⟨rfl, hM.st⟩
end
end Go.Proofs.Ytopcnkejobomaaa
