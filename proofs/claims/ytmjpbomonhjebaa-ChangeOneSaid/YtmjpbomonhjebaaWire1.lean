/- Wire: what is written. -/
import Derived.Test.YtmjpbomonhjebaaMacB
import Derived.Test.YtmjpbomonhjebaaMgp
namespace Go.Proofs.Ytmjpbomonhjebaa
open Go.RowKit

/-- A number's bytes. -/
def numB (n : Int) : List Int :=
  if n < 64 then [n]
  else if n < 16384 then [64 + n / 256, n % 256]
  else if n < 1073741824 then [128 + n / 16777216, n / 65536 % 256, n / 256 % 256, n % 256]
  else [192 + n / 72057594037927936, n / 281474976710656 % 256, n / 1099511627776 % 256, n / 4294967296 % 256, n / 16777216 % 256, n / 65536 % 256, n / 256 % 256, n % 256]
theorem numB_range (n : Int) (h : 0 ≤ n ∧ n ≤ 4611686018427387903) : ∀ x ∈ numB n, 0 ≤ x ∧ x < 256 := by
  unfold numB
  split
  · intro x hx; simp at hx; omega
  · split
    · intro x hx; simp at hx; rcases hx with rfl | rfl <;> omega
    · split
      · intro x hx; simp at hx; rcases hx with rfl | rfl | rfl | rfl <;> omega
      · intro x hx; simp at hx; rcases hx with rfl | rfl | rfl | rfl | rfl | rfl | rfl | rfl <;> omega
theorem numB_length (n : Int) : (numB n).length ≤ 8 ∧ 1 ≤ (numB n).length := by
  unfold numB
  repeat' split
  all_goals simp
/-- What is written so far; is it bad? -/
def wrR (g : Nat) (out : List Int) (bad : Bool) : Res := exR (fun (p : Option Addr × Nat) => [fb g 178 [.one (.slice p.1 out.length p.2), .one (.bool bad)], rowR 5 1 p.1 out.length p.2 (byts out)])
section
variable {H : Hp} {w0 w : World} {L R : List Res} {g : Nat} {out : List Int} {bad : Bool}
theorem Mem.wr (h : Mem H w0 (wrR g out bad :: L) w) : ∃ A c, Mem H w0 (fb g 178 [.one (.slice A out.length c), .one (.bool bad)] :: rowR 5 1 A out.length c (byts out) :: L) w := by
  obtain ⟨p, h⟩ := h.unex
  exact ⟨p.1, p.2, h⟩
theorem Mem.unwr {A : Option Addr} {n c : Nat} (h : Mem H w0 (fb g 178 [.one (.slice A n c), .one (.bool bad)] :: rowR 5 1 A n c (byts out) :: L) w) (hn : n = out.length) : Mem H w0 (wrR g out bad :: L) w := by
  subst hn
  exact Mem.toex (R := fun (p : Option Addr × Nat) => [fb g 178 [.one (.slice p.1 out.length p.2), .one (.bool bad)], rowR 5 1 p.1 out.length p.2 (byts out)]) (A, c) h
theorem wnew_ok (hM : Mem H w0 L w) : Calls Try.prog 103 #[] w fun en w' => ∃ v, en = .returned v ∧ ∃ g, v = .pointer (some ⟨g, 0, none⟩) ∧ Mem H w0 (wrR g [] false :: L) w' := by
  refine C_wire_New ?_
  unfold F_wire_New
  ((with_reducible (refine mop_c trivial ?_; refine mm_box hM ?_; clear hM; intro _ _ hM)))
  rename_i g _
  have hM : Mem H w0 (fb g 178 [.one (.slice none 0 0), .one (.bool false)] :: rowR 5 1 none 0 0 (byts []) :: L) _ := (hM.row0 5 1).perm (.swap ..)
  exact ⟨_, rfl, g, rfl, Mem.unwr hM rfl⟩
theorem whash_ok (h : H32) (hb : out.length < 1000000000) (hM : Mem H w0 (wrR g out bad :: L) w) : Calls Try.prog 104 #[.pointer (some ⟨g, 0, none⟩), ha h] w fun en w' => ∃ v, en = .returned v ∧ v = .tuple #[] ∧ Mem H w0 (wrR g (out ++ h.1) bad :: L) w' := by
  refine C_wire_Writer_Hash ?_
  unfold F_wire_Writer_Hash
  obtain ⟨A, c, hM⟩ := hM.wr
  ((with_reducible (refine mm_box hM ?_; clear hM; intro _ _ hM; refine mop_c trivial ?_; refine mif_true ?_; refine dp_c trivial ?_; refine dp_c trivial ?_; refine dm_ld hM ?_; refine dp_c trivial ?_; refine df_no hM ?_; clear hM; intro _ hM)))
  refine mm_appb hM (by omega) (fun A' c' w4 hM => ?_)
  ((with_reducible (refine dp_c trivial ?_; refine dp_c trivial ?_; refine dS_st hM ?_; clear hM; intro _ hM; refine mm_end hM ?_; clear hM; intro _ hM)))
  exact ⟨_, rfl, rfl, Mem.unwr ((hM.upB g).sub : Mem H w0 (fb g 178 [.one (.slice A' (out.length + 32) c'), .one (.bool bad)] :: rowR 5 1 A' (out.length + 32) c' (byts (out ++ h.1)) :: L) _) (by simp [h.2.1])⟩
theorem bounds_ok (w : World) : Calls Try.prog 111 #[] w fun en w' => en = .returned (.agg #[.int .i64 64, .int .i64 16384, .int .i64 1073741824, .int .i64 4611686018427387903]) ∧ St w [] w' := by
  have hM := Mem.start (Fz.of w)
  refine C_wire_bounds ?_
  unfold F_wire_bounds
  ((with_reducible (refine mm_new hM ?_; clear hM; intro _ _ hM; refine mop_c trivial ?_; refine mm_st hM ?_; clear hM; intro _ hM; refine rm_ld hM ?_)))
  exact ⟨rfl, hM.st⟩
instance : PurC Try.prog 111 [] True (.agg #[.int .i64 64, .int .i64 16384, .int .i64 1073741824, .int .i64 4611686018427387903]) := ⟨fun _ w => bounds_ok w⟩
/-- A number's kind. -/
def kindN (n : Int) : Int := if n < 64 then 0 else if n < 16384 then 1 else if n < 1073741824 then 2 else 3
theorem numB_cases (n : Int) : (n < 64 ∧ kindN n = 0 ∧ numB n = [n]) ∨ (64 ≤ n ∧ n < 16384 ∧ kindN n = 1 ∧ numB n = [64 + n / 256, n % 256]) ∨
    (16384 ≤ n ∧ n < 1073741824 ∧ kindN n = 2 ∧ numB n = [128 + n / 16777216, n / 65536 % 256, n / 256 % 256, n % 256]) ∨
    (1073741824 ≤ n ∧ kindN n = 3 ∧ numB n = [192 + n / 72057594037927936, n / 281474976710656 % 256, n / 1099511627776 % 256, n / 4294967296 % 256, n / 16777216 % 256, n / 65536 % 256, n / 256 % 256, n % 256]) := by
  unfold kindN numB
  by_cases h1 : n < 64
  · exact .inl ⟨h1, if_pos h1, if_pos h1⟩
  · by_cases h2 : n < 16384
    · exact .inr (.inl ⟨by omega, h2, by rw [if_neg h1, if_pos h2], by rw [if_neg h1, if_pos h2]⟩)
    · by_cases h3 : n < 1073741824
      · exact .inr (.inr (.inl ⟨by omega, h3, by rw [if_neg h1, if_neg h2, if_pos h3], by rw [if_neg h1, if_neg h2, if_pos h3]⟩))
      · exact .inr (.inr (.inr ⟨by omega, by rw [if_neg h1, if_neg h2, if_neg h3], by rw [if_neg h1, if_neg h2, if_neg h3]⟩))
theorem numB_len (n : Int) : ((numB n).length : Int) = 1 * 2 ^ (kindN n).toNat := by
  rcases numB_cases n with ⟨_, h2, h3⟩ | ⟨_, _, h2, h3⟩ | ⟨_, _, h2, h3⟩ | ⟨_, h2, h3⟩ <;> (rw [h2, h3]; rfl)
theorem or64 (a k : Int) (ha : 0 ≤ a ∧ a < 64) (hk : 0 ≤ k ∧ k ≤ 3) : bits .or .u8 a (k * 64) = a + k * 64 := by
  have key : ∀ x : Fin 64, ∀ y : Fin 4, bits .or .u8 (x.val : Int) ((y.val : Int) * 64) = (x.val : Int) + (y.val : Int) * 64 := by decide +kernel
  have := key ⟨a.toNat, by omega⟩ ⟨k.toNat, by omega⟩
  simp only [Int.toNat_of_nonneg ha.1, Int.toNat_of_nonneg hk.1] at this
  exact this
theorem numB_head (n : Int) (h : 0 ≤ n ∧ n ≤ 4611686018427387903) : 0 ≤ (numB n).getD 0 0 - kindN n * 64 ∧ (numB n).getD 0 0 - kindN n * 64 < 64 ∧ 0 ≤ kindN n ∧ kindN n ≤ 3 := by
  rcases numB_cases n with ⟨_, h2, h3⟩ | ⟨_, _, h2, h3⟩ | ⟨_, _, h2, h3⟩ | ⟨_, h2, h3⟩ <;> (rw [h2, h3]; simp; omega)
theorem byteAt (n : Int) (h : 0 ≤ n ∧ n ≤ 4611686018427387903) (i : Nat) (hi : i < (numB n).length) :
    n / 2 ^ (8 * (((numB n).length : Int) - 1 - i)).toNat % 256 = if i = 0 then (numB n).getD 0 0 - kindN n * 64 else (numB n).getD i 0 := by
  rcases numB_cases n with ⟨h1, h2, h3⟩ | ⟨h1, h0, h2, h3⟩ | ⟨h1, h0, h2, h3⟩ | ⟨h1, h2, h3⟩ <;> rw [h3] at hi ⊢ <;> rw [h2]
  · obtain rfl : i = 0 := by simp at hi; omega
    simp
    omega
  · obtain rfl | rfl : i = 0 ∨ i = 1 := by simp at hi; omega
    all_goals simp
    all_goals omega
  · obtain rfl | rfl | rfl | rfl : i = 0 ∨ i = 1 ∨ i = 2 ∨ i = 3 := by simp at hi; omega
    all_goals simp
    all_goals omega
  · obtain rfl | rfl | rfl | rfl | rfl | rfl | rfl | rfl : i = 0 ∨ i = 1 ∨ i = 2 ∨ i = 3 ∨ i = 4 ∨ i = 5 ∨ i = 6 ∨ i = 7 := by simp at hi; omega
    all_goals simp
    all_goals omega
theorem byts_snoc {out : List Int} (l : List Int) (i : Nat) (h : i < l.length) : byts (out ++ l.take i) ++ [[.one (.int .u8 (l.getD i 0))]] = byts (out ++ l.take (i + 1)) := by
  have e : out ++ l.take (i + 1) = (out ++ l.take i) ++ [l.getD i 0] := by
    rw [List.take_succ_eq_append_getElem h, ← List.append_assoc, List.getD_eq_getElem?_getD, List.getElem?_eq_getElem h]
    rfl
  rw [e, byts_app (out ++ l.take i)]
  rfl
theorem shl1 (k : Int) (hk : 0 ≤ k ∧ k ≤ 3) : IntKind.i64.wrap (1 * 2 ^ k.toNat) = 1 * 2 ^ k.toNat := by
  obtain rfl | rfl | rfl | rfl : k = 0 ∨ k = 1 ∨ k = 2 ∨ k = 3 := by omega
  all_goals rfl
theorem shl6 (k : Int) (hk : 0 ≤ k ∧ k ≤ 3) : IntKind.i64.wrap (k * 2 ^ (6 : Int).toNat) = k * 64 := by
  obtain rfl | rfl | rfl | rfl : k = 0 ∨ k = 1 ∨ k = 2 ∨ k = 3 := by omega
  all_goals rfl
theorem wnum_ok (n : Int) (h : 0 ≤ n ∧ n ≤ 4611686018427387903) (hb : out.length < 1000000000) (hM : Mem H w0 (wrR g out bad :: L) w) : Calls Try.prog 105 #[.pointer (some ⟨g, 0, none⟩), .int .i64 n] w fun en w' => ∃ v, en = .returned v ∧ v = .tuple #[] ∧ Mem H w0 (wrR g (out ++ numB n) bad :: L) w' := by
  refine C_wire_Writer_Num ?_
  unfold F_wire_Writer_Num
  ((with_reducible (refine mop_c trivial ?_; refine mif_false ?_)))
  refine ⟨fun x w' => x = .bool false ∧ hM.now w', ?_, ?_⟩
  · ((with_reducible (refine mop_cF trivial ?_ ?_)); (focus (first | assumption | omega | with_reducible rfl | exact fun h => Bool.noConfusion h)); (with_reducible (refine mguard_yes ?_; refine mop_c trivial ?_; refine mguard_yes ?_; refine mop_cF trivial ?_ ?_)); (focus (first | assumption | omega | with_reducible rfl | exact fun h => Bool.noConfusion h)); (with_reducible (refine mop_c trivial ?_)))
    exact ⟨rfl, hM⟩
  rintro x u w1 ⟨rfl, hM⟩
  ((with_reducible (refine mif_false ?_)))
  refine ⟨fun x w' => ∃ k : Nat, x = .int .i64 k ∧ k ≤ 3 ∧ (1 ≤ k → 64 ≤ n) ∧ (2 ≤ k → 16384 ≤ n) ∧ (3 ≤ k → 1073741824 ≤ n) ∧ hM.now w', fun x _ => match x with | .int _ i => 3 - i.toNat | _ => 0, ⟨0, rfl, by omega, by omega, by omega, by omega, hM⟩, ?_⟩
  rintro x u w2 ⟨k, rfl, hk, h1, h2, h3, hM⟩
  have hlen := numB_length n
  refine ⟨fun w' => k < 3 ∧ (k = 0 → 64 ≤ n) ∧ (k = 1 → 16384 ≤ n) ∧ (k = 2 → 1073741824 ≤ n) ∧ hM.now w', ?_, ?_⟩
  · obtain rfl | rfl | rfl | rfl : k = 0 ∨ k = 1 ∨ k = 2 ∨ k = 3 := by omega
    · have e0 : (((0 : Nat) : Int)) = 0 := rfl
      simp only [e0]
      ((with_reducible (refine mop_cT trivial ?_ ?_)); (focus (first | assumption | omega | with_reducible rfl | exact fun h => Bool.noConfusion h)); (with_reducible (refine mguard_yes ?_; refine mop_c trivial ?_; refine mguard_yes ?_; refine mm_purC hM ?_ (fun _ hM2 => ?_))); (focus (first | exact trivial | assumption | omega)); (with_reducible (replace hM := hM2; clear hM2; refine mguard_yes ?_; refine mop_c trivial ?_; refine mguard_yes ?_)))
      refine mop_pur (v := .int .i64 64) (fun w => by kernel_rfl) ?_
      ((with_reducible (refine mguard_yes ?_)))
      ((with_reducible (refine mop_cS trivial ?_ ?_)))
      · intro hn
        ((with_reducible (refine mop_c trivial ?_; refine mif_true ?_)))
        exact ⟨by omega, by omega, by omega, by omega, hM⟩
      · intro hn
        ((with_reducible (refine mop_c trivial ?_; refine mif_false ?_)))
        have hkn : (0 : Int) = kindN n := by
          unfold kindN
          simp at h1 h2 h3
          repeat' split
          all_goals omega
        refine mop_pur (p_shl _ _ _ _ _ _ (by omega) (by simp [IntKind.bits])) ?_
        have hL : IntKind.i64.wrap (1 * 2 ^ (0 : Int).toNat) = ((numB n).length : Int) := by
          rw [numB_len, ← hkn]
          rfl
        rw [hL]
        refine ⟨fun x w' => ∃ i : Nat, x = .int .i64 i ∧ i ≤ (numB n).length ∧ Mem H w0 (wrR g (out ++ (numB n).take i) bad :: L) w', fun x _ => match x with | .int _ i => (numB n).length - i.toNat | _ => 0, ⟨0, rfl, by omega, by simpa using hM⟩, ?_⟩
        clear hM
        rintro x u w4 ⟨i, rfl, hi, hM⟩
        skip
        ((with_reducible (refine mop_cS trivial ?_ ?_)))
        · intro hlt
          have hlt' : i < (numB n).length := by omega
          have hby := byteAt n h i hlt'
          have hhd := numB_head n h
          ((with_reducible (refine mif_true ?_; refine mop_c ?_ ?_)); (focus omega); (with_reducible (refine mop_c ?_ ?_)); (focus omega); (with_reducible (refine mop_c ?_ ?_)); (focus omega); (with_reducible (refine mop_c ?_ ?_)); (focus omega); (with_reducible (refine mop_c trivial ?_)))
          rw [hby]
          refine ⟨fun x w' => x = .int .u8 ((numB n).getD i 0) ∧ hM.now w', ?_, ?_⟩
          · skip
            ((with_reducible (refine mop_cS trivial ?_ ?_)))
            · intro h0
              obtain rfl : i = 0 := by omega
              ((with_reducible (refine mif_true ?_)))
              refine mop_pur (p_shl _ _ _ _ _ _ (by omega) (by simp [IntKind.bits])) ?_
              have h6 : IntKind.i64.wrap ((0 : Int) * 2 ^ (6 : Int).toNat) = kindN n * 64 := by
                rw [← hkn]
                rfl
              rw [h6]
              ((with_reducible (refine mop_c trivial ?_; refine mop_c trivial ?_)))
              refine ⟨?_, hM⟩
              rw [if_pos rfl, Int.emod_eq_of_lt (by omega) (by omega), or64 _ _ (by omega) (by omega)]
              congr 1
              omega
            · intro h0
              ((with_reducible (refine mif_false ?_)))
              exact ⟨by rw [if_neg (by omega)], hM⟩
          · rintro x u w5 ⟨rfl, hM⟩
            obtain ⟨A, c, hM⟩ := hM.wr
            have hol : (out ++ (numB n).take i).length ≤ out.length + 8 := by rw [List.length_append, List.length_take]; omega
            ((with_reducible (refine mop_c trivial ?_; refine mop_c trivial ?_; refine mm_ld hM ?_; refine mm_bsl hM ?_ ?_ ?_)); (focus rfl); (focus (constructor <;> simp)); (with_reducible (clear hM; intro _ _ hM; refine mm_appo hM ?_ ?_)); (focus omega); (with_reducible (clear hM; intro _ _ _ hM; refine mop_c trivial ?_; refine mop_c trivial ?_; refine mm_st hM ?_; clear hM; intro _ hM; refine mop_c ?_ ?_)); (focus omega))
            rw [byts_snoc _ _ hlt'] at hM
            have hl2 : (out ++ (numB n).take i).length + 1 = (out ++ (numB n).take (i + 1)).length := by
              rw [List.length_append, List.length_append, List.length_take, List.length_take]; omega
            have hM2 := Mem.unwr (hM.upB g) hl2
            refine ⟨⟨i + 1, by rw [Int.natCast_add]; rfl, by omega, hM2⟩, ?_⟩
            show (numB n).length - ((i : Int) + 1).toNat < (numB n).length - (i : Int).toNat
            omega
        · intro hge
          ((with_reducible (refine mif_false ?_)))
          rw [List.take_of_length_le (by omega)] at hM
          exact ⟨_, rfl, rfl, hM⟩
    · have e0 : (((1 : Nat) : Int)) = 1 := rfl
      simp only [e0]
      ((with_reducible (refine mop_cT trivial ?_ ?_)); (focus (first | assumption | omega | with_reducible rfl | exact fun h => Bool.noConfusion h)); (with_reducible (refine mguard_yes ?_; refine mop_c trivial ?_; refine mguard_yes ?_; refine mm_purC hM ?_ (fun _ hM2 => ?_))); (focus (first | exact trivial | assumption | omega)); (with_reducible (replace hM := hM2; clear hM2; refine mguard_yes ?_; refine mop_c trivial ?_; refine mguard_yes ?_)))
      refine mop_pur (v := .int .i64 16384) (fun w => by kernel_rfl) ?_
      ((with_reducible (refine mguard_yes ?_)))
      ((with_reducible (refine mop_cS trivial ?_ ?_)))
      · intro hn
        ((with_reducible (refine mop_c trivial ?_; refine mif_true ?_)))
        exact ⟨by omega, by omega, by omega, by omega, hM⟩
      · intro hn
        ((with_reducible (refine mop_c trivial ?_; refine mif_false ?_)))
        have hkn : (1 : Int) = kindN n := by
          unfold kindN
          simp at h1 h2 h3
          repeat' split
          all_goals omega
        refine mop_pur (p_shl _ _ _ _ _ _ (by omega) (by simp [IntKind.bits])) ?_
        have hL : IntKind.i64.wrap (1 * 2 ^ (1 : Int).toNat) = ((numB n).length : Int) := by
          rw [numB_len, ← hkn]
          rfl
        rw [hL]
        refine ⟨fun x w' => ∃ i : Nat, x = .int .i64 i ∧ i ≤ (numB n).length ∧ Mem H w0 (wrR g (out ++ (numB n).take i) bad :: L) w', fun x _ => match x with | .int _ i => (numB n).length - i.toNat | _ => 0, ⟨0, rfl, by omega, by simpa using hM⟩, ?_⟩
        clear hM
        rintro x u w4 ⟨i, rfl, hi, hM⟩
        skip
        ((with_reducible (refine mop_cS trivial ?_ ?_)))
        · intro hlt
          have hlt' : i < (numB n).length := by omega
          have hby := byteAt n h i hlt'
          have hhd := numB_head n h
          ((with_reducible (refine mif_true ?_; refine mop_c ?_ ?_)); (focus omega); (with_reducible (refine mop_c ?_ ?_)); (focus omega); (with_reducible (refine mop_c ?_ ?_)); (focus omega); (with_reducible (refine mop_c ?_ ?_)); (focus omega); (with_reducible (refine mop_c trivial ?_)))
          rw [hby]
          refine ⟨fun x w' => x = .int .u8 ((numB n).getD i 0) ∧ hM.now w', ?_, ?_⟩
          · skip
            ((with_reducible (refine mop_cS trivial ?_ ?_)))
            · intro h0
              obtain rfl : i = 0 := by omega
              ((with_reducible (refine mif_true ?_)))
              refine mop_pur (p_shl _ _ _ _ _ _ (by omega) (by simp [IntKind.bits])) ?_
              have h6 : IntKind.i64.wrap ((1 : Int) * 2 ^ (6 : Int).toNat) = kindN n * 64 := by
                rw [← hkn]
                rfl
              rw [h6]
              ((with_reducible (refine mop_c trivial ?_; refine mop_c trivial ?_)))
              refine ⟨?_, hM⟩
              rw [if_pos rfl, Int.emod_eq_of_lt (by omega) (by omega), or64 _ _ (by omega) (by omega)]
              congr 1
              omega
            · intro h0
              ((with_reducible (refine mif_false ?_)))
              exact ⟨by rw [if_neg (by omega)], hM⟩
          · rintro x u w5 ⟨rfl, hM⟩
            obtain ⟨A, c, hM⟩ := hM.wr
            have hol : (out ++ (numB n).take i).length ≤ out.length + 8 := by rw [List.length_append, List.length_take]; omega
            ((with_reducible (refine mop_c trivial ?_; refine mop_c trivial ?_; refine mm_ld hM ?_; refine mm_bsl hM ?_ ?_ ?_)); (focus rfl); (focus (constructor <;> simp)); (with_reducible (clear hM; intro _ _ hM; refine mm_appo hM ?_ ?_)); (focus omega); (with_reducible (clear hM; intro _ _ _ hM; refine mop_c trivial ?_; refine mop_c trivial ?_; refine mm_st hM ?_; clear hM; intro _ hM; refine mop_c ?_ ?_)); (focus omega))
            rw [byts_snoc _ _ hlt'] at hM
            have hl2 : (out ++ (numB n).take i).length + 1 = (out ++ (numB n).take (i + 1)).length := by
              rw [List.length_append, List.length_append, List.length_take, List.length_take]; omega
            have hM2 := Mem.unwr (hM.upB g) hl2
            refine ⟨⟨i + 1, by rw [Int.natCast_add]; rfl, by omega, hM2⟩, ?_⟩
            show (numB n).length - ((i : Int) + 1).toNat < (numB n).length - (i : Int).toNat
            omega
        · intro hge
          ((with_reducible (refine mif_false ?_)))
          rw [List.take_of_length_le (by omega)] at hM
          exact ⟨_, rfl, rfl, hM⟩
    · have e0 : (((2 : Nat) : Int)) = 2 := rfl
      simp only [e0]
      ((with_reducible (refine mop_cT trivial ?_ ?_)); (focus (first | assumption | omega | with_reducible rfl | exact fun h => Bool.noConfusion h)); (with_reducible (refine mguard_yes ?_; refine mop_c trivial ?_; refine mguard_yes ?_; refine mm_purC hM ?_ (fun _ hM2 => ?_))); (focus (first | exact trivial | assumption | omega)); (with_reducible (replace hM := hM2; clear hM2; refine mguard_yes ?_; refine mop_c trivial ?_; refine mguard_yes ?_)))
      refine mop_pur (v := .int .i64 1073741824) (fun w => by kernel_rfl) ?_
      ((with_reducible (refine mguard_yes ?_)))
      ((with_reducible (refine mop_cS trivial ?_ ?_)))
      · intro hn
        ((with_reducible (refine mop_c trivial ?_; refine mif_true ?_)))
        exact ⟨by omega, by omega, by omega, by omega, hM⟩
      · intro hn
        ((with_reducible (refine mop_c trivial ?_; refine mif_false ?_)))
        have hkn : (2 : Int) = kindN n := by
          unfold kindN
          simp at h1 h2 h3
          repeat' split
          all_goals omega
        refine mop_pur (p_shl _ _ _ _ _ _ (by omega) (by simp [IntKind.bits])) ?_
        have hL : IntKind.i64.wrap (1 * 2 ^ (2 : Int).toNat) = ((numB n).length : Int) := by
          rw [numB_len, ← hkn]
          rfl
        rw [hL]
        refine ⟨fun x w' => ∃ i : Nat, x = .int .i64 i ∧ i ≤ (numB n).length ∧ Mem H w0 (wrR g (out ++ (numB n).take i) bad :: L) w', fun x _ => match x with | .int _ i => (numB n).length - i.toNat | _ => 0, ⟨0, rfl, by omega, by simpa using hM⟩, ?_⟩
        clear hM
        rintro x u w4 ⟨i, rfl, hi, hM⟩
        skip
        ((with_reducible (refine mop_cS trivial ?_ ?_)))
        · intro hlt
          have hlt' : i < (numB n).length := by omega
          have hby := byteAt n h i hlt'
          have hhd := numB_head n h
          ((with_reducible (refine mif_true ?_; refine mop_c ?_ ?_)); (focus omega); (with_reducible (refine mop_c ?_ ?_)); (focus omega); (with_reducible (refine mop_c ?_ ?_)); (focus omega); (with_reducible (refine mop_c ?_ ?_)); (focus omega); (with_reducible (refine mop_c trivial ?_)))
          rw [hby]
          refine ⟨fun x w' => x = .int .u8 ((numB n).getD i 0) ∧ hM.now w', ?_, ?_⟩
          · skip
            ((with_reducible (refine mop_cS trivial ?_ ?_)))
            · intro h0
              obtain rfl : i = 0 := by omega
              ((with_reducible (refine mif_true ?_)))
              refine mop_pur (p_shl _ _ _ _ _ _ (by omega) (by simp [IntKind.bits])) ?_
              have h6 : IntKind.i64.wrap ((2 : Int) * 2 ^ (6 : Int).toNat) = kindN n * 64 := by
                rw [← hkn]
                rfl
              rw [h6]
              ((with_reducible (refine mop_c trivial ?_; refine mop_c trivial ?_)))
              refine ⟨?_, hM⟩
              rw [if_pos rfl, Int.emod_eq_of_lt (by omega) (by omega), or64 _ _ (by omega) (by omega)]
              congr 1
              omega
            · intro h0
              ((with_reducible (refine mif_false ?_)))
              exact ⟨by rw [if_neg (by omega)], hM⟩
          · rintro x u w5 ⟨rfl, hM⟩
            obtain ⟨A, c, hM⟩ := hM.wr
            have hol : (out ++ (numB n).take i).length ≤ out.length + 8 := by rw [List.length_append, List.length_take]; omega
            ((with_reducible (refine mop_c trivial ?_; refine mop_c trivial ?_; refine mm_ld hM ?_; refine mm_bsl hM ?_ ?_ ?_)); (focus rfl); (focus (constructor <;> simp)); (with_reducible (clear hM; intro _ _ hM; refine mm_appo hM ?_ ?_)); (focus omega); (with_reducible (clear hM; intro _ _ _ hM; refine mop_c trivial ?_; refine mop_c trivial ?_; refine mm_st hM ?_; clear hM; intro _ hM; refine mop_c ?_ ?_)); (focus omega))
            rw [byts_snoc _ _ hlt'] at hM
            have hl2 : (out ++ (numB n).take i).length + 1 = (out ++ (numB n).take (i + 1)).length := by
              rw [List.length_append, List.length_append, List.length_take, List.length_take]; omega
            have hM2 := Mem.unwr (hM.upB g) hl2
            refine ⟨⟨i + 1, by rw [Int.natCast_add]; rfl, by omega, hM2⟩, ?_⟩
            show (numB n).length - ((i : Int) + 1).toNat < (numB n).length - (i : Int).toNat
            omega
        · intro hge
          ((with_reducible (refine mif_false ?_)))
          rw [List.take_of_length_le (by omega)] at hM
          exact ⟨_, rfl, rfl, hM⟩
    · have e0 : (((3 : Nat) : Int)) = 3 := rfl
      simp only [e0]
      ((with_reducible (refine mop_cF trivial ?_ ?_)); (focus (first | assumption | omega | with_reducible rfl | exact fun h => Bool.noConfusion h)); (with_reducible ((iterate 5 refine mguard_n2 ?_); refine mop_c trivial ?_; refine mif_false ?_)))
      · have hkn : (3 : Int) = kindN n := by
          unfold kindN
          simp at h1 h2 h3
          repeat' split
          all_goals omega
        refine mop_pur (p_shl _ _ _ _ _ _ (by omega) (by simp [IntKind.bits])) ?_
        have hL : IntKind.i64.wrap (1 * 2 ^ (3 : Int).toNat) = ((numB n).length : Int) := by
          rw [numB_len, ← hkn]
          rfl
        rw [hL]
        refine ⟨fun x w' => ∃ i : Nat, x = .int .i64 i ∧ i ≤ (numB n).length ∧ Mem H w0 (wrR g (out ++ (numB n).take i) bad :: L) w', fun x _ => match x with | .int _ i => (numB n).length - i.toNat | _ => 0, ⟨0, rfl, by omega, by simpa using hM⟩, ?_⟩
        clear hM
        rintro x u w4 ⟨i, rfl, hi, hM⟩
        skip
        ((with_reducible (refine mop_cS trivial ?_ ?_)))
        · intro hlt
          have hlt' : i < (numB n).length := by omega
          have hby := byteAt n h i hlt'
          have hhd := numB_head n h
          ((with_reducible (refine mif_true ?_; refine mop_c ?_ ?_)); (focus omega); (with_reducible (refine mop_c ?_ ?_)); (focus omega); (with_reducible (refine mop_c ?_ ?_)); (focus omega); (with_reducible (refine mop_c ?_ ?_)); (focus omega); (with_reducible (refine mop_c trivial ?_)))
          rw [hby]
          refine ⟨fun x w' => x = .int .u8 ((numB n).getD i 0) ∧ hM.now w', ?_, ?_⟩
          · skip
            ((with_reducible (refine mop_cS trivial ?_ ?_)))
            · intro h0
              obtain rfl : i = 0 := by omega
              ((with_reducible (refine mif_true ?_)))
              refine mop_pur (p_shl _ _ _ _ _ _ (by omega) (by simp [IntKind.bits])) ?_
              have h6 : IntKind.i64.wrap ((3 : Int) * 2 ^ (6 : Int).toNat) = kindN n * 64 := by
                rw [← hkn]
                rfl
              rw [h6]
              ((with_reducible (refine mop_c trivial ?_; refine mop_c trivial ?_)))
              refine ⟨?_, hM⟩
              rw [if_pos rfl, Int.emod_eq_of_lt (by omega) (by omega), or64 _ _ (by omega) (by omega)]
              congr 1
              omega
            · intro h0
              ((with_reducible (refine mif_false ?_)))
              exact ⟨by rw [if_neg (by omega)], hM⟩
          · rintro x u w5 ⟨rfl, hM⟩
            obtain ⟨A, c, hM⟩ := hM.wr
            have hol : (out ++ (numB n).take i).length ≤ out.length + 8 := by rw [List.length_append, List.length_take]; omega
            ((with_reducible (refine mop_c trivial ?_; refine mop_c trivial ?_; refine mm_ld hM ?_; refine mm_bsl hM ?_ ?_ ?_)); (focus rfl); (focus (constructor <;> simp)); (with_reducible (clear hM; intro _ _ hM; refine mm_appo hM ?_ ?_)); (focus omega); (with_reducible (clear hM; intro _ _ _ hM; refine mop_c trivial ?_; refine mop_c trivial ?_; refine mm_st hM ?_; clear hM; intro _ hM; refine mop_c ?_ ?_)); (focus omega))
            rw [byts_snoc _ _ hlt'] at hM
            have hl2 : (out ++ (numB n).take i).length + 1 = (out ++ (numB n).take (i + 1)).length := by
              rw [List.length_append, List.length_append, List.length_take, List.length_take]; omega
            have hM2 := Mem.unwr (hM.upB g) hl2
            refine ⟨⟨i + 1, by rw [Int.natCast_add]; rfl, by omega, hM2⟩, ?_⟩
            show (numB n).length - ((i : Int) + 1).toNat < (numB n).length - (i : Int).toNat
            omega
        · intro hge
          ((with_reducible (refine mif_false ?_)))
          rw [List.take_of_length_le (by omega)] at hM
          exact ⟨_, rfl, rfl, hM⟩
  · rintro u w3 ⟨hk3, g1, g2, g3, hM⟩
    ((with_reducible (refine mop_c ?_ ?_)); (focus omega))
    exact ⟨⟨k + 1, by simp, by omega, fun _ => by omega, fun _ => by omega, fun _ => by omega, hM⟩, by simp; omega⟩
theorem wend_ok (hM : Mem H w0 (wrR g out false :: L) w) : Calls Try.prog 106 #[.pointer (some ⟨g, 0, none⟩)] w fun en w' => en = .returned (.tuple #[.string (strOfNums out), .int .i64 0]) ∧ St w [] w' := by
  refine C_wire_Writer_End ?_
  unfold F_wire_Writer_End
  obtain ⟨A, c, hM⟩ := hM.wr
  refine ⟨fun x w' => x = .bool false ∧ w = w', ?_, ?_⟩
  · ((with_reducible (refine mop_c trivial ?_; refine mguard_yes ?_; refine mop_c trivial ?_; refine mguard_yes ?_; refine mop_c trivial ?_; refine mguard_yes ?_; refine mop_c trivial ?_; refine mguard_yes ?_; refine mm_ld hM ?_; refine mop_c trivial ?_)))
    exact ⟨rfl, rfl⟩
  rintro x u w2 ⟨rfl, rfl⟩
  ((with_reducible (refine mif_false ?_; refine mop_c trivial ?_; refine mop_c trivial ?_; refine mm_ld hM ?_)))
  refine mm_cvr hM (Nat.le_refl _) ?_
  rw [List.take_length]
  exact ⟨rfl, St.nil w⟩
end
end Go.Proofs.Ytmjpbomonhjebaa
