/- Wire: the document's numbers. -/
import Derived.Test.YtmjpbomonhjebaaWire1
namespace Go.Proofs.Ytmjpbomonhjebaa
open Go.RowKit

theorem qguard_un {want : Bool} {run : (Value → Prop) → Prop} {K : Value → Prop} (h : K undef) : qguard undef want run K := qguard_no (by intro h; cases h) h
theorem mguard_un {want : Bool} {w : World} {run : (Value → World → Prop) → Prop} {K : Value → World → Prop} (h : K undef w) : mguard undef want run w K := mguard_no (by intro h; cases h) h

theorem dp_cat {P : Program} {t : TypeId} {q : Bool} {K : Value → Prop} (a b : List Int) (h : a.length + b.length ≤ 1000000000000) (hk : K (.string (strOfNums (a ++ b)))) : dp P (o_bin .add t q (.string (strOfNums a)) (.string (strOfNums b))) K := by
  refine dp_c (by rw [strOfNums_size, strOfNums_size]; omega) ?_
  rw [strOfNums_append]
  exact hk
theorem mop_cat {P : Program} {t : TypeId} {q : Bool} {w : World} {K : Value → World → Prop} {X : List PanicEntry → World → Prop} (a b : List Int) (h : a.length + b.length ≤ 1000000000000) (hk : K (.string (strOfNums (a ++ b))) w) : mop P (o_bin .add t q (.string (strOfNums a)) (.string (strOfNums b))) w K X := by
  refine mop_c (by rw [strOfNums_size, strOfNums_size]; omega) ?_
  rw [strOfNums_append]
  exact hk
/-- The last j of eight bytes. -/
def b8 (n : Int) : List Int := [n / 72057594037927936 % 256, n / 281474976710656 % 256, n / 1099511627776 % 256, n / 4294967296 % 256, n / 16777216 % 256, n / 65536 % 256, n / 256 % 256, n % 256]
section
variable {H : Hp} {w0 w : World} {L R : List Res} {g : Nat}
theorem rhash_ok (h : H32) (w : World) : Calls Try.prog 60 #[ha h] w fun en w' => en = .returned (.string (strOfNums h.1)) ∧ St w [] w' := by
  have hM := Mem.start (Fz.of w)
  refine C_bevyref01_Hash ?_
  unfold F_bevyref01_Hash
  ((with_reducible (refine mm_box hM ?_; clear hM; intro _ _ hM; refine mop_c trivial ?_; refine mm_cvb hM ?_)))
  exact ⟨rfl, hM.st⟩
instance (h : H32) : PurC Try.prog 60 [.agg (u8s h.1).toArray] True (.string (strOfNums h.1)) := ⟨fun _ w => rhash_ok h w⟩
theorem rtext_ok (h : H32) (w : World) : Calls Try.prog 108 #[ha h] w fun en w' => en = .returned (.string (strOfNums h.1)) ∧ St w [] w' := by
  have hM := Mem.start (Fz.of w)
  refine C_bevyref05_text ?_
  unfold F_bevyref05_text
  ((with_reducible (refine mm_box hM ?_; clear hM; intro _ _ hM; refine mop_c trivial ?_; refine mm_cvb hM ?_)))
  exact ⟨rfl, hM.st⟩
instance (h : H32) : PurC Try.prog 108 [.agg (u8s h.1).toArray] True (.string (strOfNums h.1)) := ⟨fun _ w => rtext_ok h w⟩
theorem rnum_ok (n : Int) (h : 0 ≤ n ∧ n ≤ 4611686018427387903) (w : World) : Calls Try.prog 109 #[.int .i64 n] w fun en w' => en = .returned (.string (strOfNums (numB n))) ∧ St w [] w' := by
  have hM := Mem.start (Fz.of w)
  refine C_bevyref01_Num ?_
  unfold F_bevyref01_Num
  ((with_reducible (refine mop_cS trivial ?_ ?_)))
  · intro h1
    ((with_reducible (refine mif_true ?_; refine mop_c trivial ?_; refine mm_bsl hM ?_ ?_ ?_)); (focus rfl); (focus (constructor <;> simp)); (with_reducible (clear hM; intro _ _ hM)))
    refine mm_cvr (l := [n % 256]) (R := []) (a := ⟨.refl _⟩) hM (by simp) ?_
    refine ⟨?_, hM.st⟩
    unfold numB
    rw [if_pos h1, Int.emod_eq_of_lt h.1 (by omega)]
    rfl
  · intro h1
    ((with_reducible (refine mif_false ?_)))
    ((with_reducible (refine mop_cS trivial ?_ ?_)))
    · intro h2
      ((with_reducible (refine mif_true ?_; refine mop_c ?_ ?_)); (focus omega); (with_reducible (refine mop_c ?_ ?_)); (focus omega); (with_reducible (refine mop_c trivial ?_; refine mop_c ?_ ?_)); (focus omega); (with_reducible (refine mop_c trivial ?_; refine mm_bsl hM ?_ ?_ ?_)); (focus rfl); (focus (constructor <;> simp)); (with_reducible (clear hM; intro _ _ hM)))
      refine mm_cvr (l := [(64 + n / 256) % 256, n % 256 % 256]) (R := []) (a := ⟨.refl _⟩) hM (by simp) ?_
      refine ⟨?_, hM.st⟩
      unfold numB
      rw [if_neg h1, if_pos h2, Int.emod_eq_of_lt (a := 64 + n / 256) (by omega) (by omega), Int.emod_emod_of_dvd _ (by omega)]
      rfl
    · intro h2
      ((with_reducible (refine mif_false ?_)))
      ((with_reducible (refine mop_cS trivial ?_ ?_)))
      · intro h3
        ((with_reducible (refine mif_true ?_; refine mop_c ?_ ?_)); (focus omega); (with_reducible (refine mop_c ?_ ?_)); (focus omega); (with_reducible (refine mop_c trivial ?_; refine mop_c ?_ ?_)); (focus omega); (with_reducible (refine mop_c ?_ ?_)); (focus omega); (with_reducible (refine mop_c trivial ?_; refine mop_c ?_ ?_)); (focus omega); (with_reducible (refine mop_c ?_ ?_)); (focus omega); (with_reducible (refine mop_c trivial ?_; refine mop_c ?_ ?_)); (focus omega); (with_reducible (refine mop_c trivial ?_; refine mm_bsl hM ?_ ?_ ?_)); (focus rfl); (focus (constructor <;> simp)); (with_reducible (clear hM; intro _ _ hM)))
        refine mm_cvr (l := [(128 + n / 16777216) % 256, n / 65536 % 256 % 256, n / 256 % 256 % 256, n % 256 % 256]) (R := []) (a := ⟨.refl _⟩) hM (by simp) ?_
        refine ⟨?_, hM.st⟩
        unfold numB
        rw [if_neg h1, if_neg h2, if_pos h3, Int.emod_eq_of_lt (a := 128 + n / 16777216) (by omega) (by omega)]
        simp only [Int.emod_emod_of_dvd _ (Int.dvd_refl 256)]
        rfl
      · intro h3
        ((with_reducible (refine mif_false ?_; refine mm_new hM ?_; clear hM; intro _ _ hM)))
        rename_i g _
        refine ⟨fun x y w' => (x = .int .i64 (n) ∧ y = .int .i64 (7) ∧ Mem (Hp.of w) w [fb g 179 [.one (.int .u8 0), .one (.int .u8 0), .one (.int .u8 0), .one (.int .u8 0), .one (.int .u8 0), .one (.int .u8 0), .one (.int .u8 0), .one (.int .u8 0)]] w') ∨ (x = .int .i64 (n / 256) ∧ y = .int .i64 (6) ∧ Mem (Hp.of w) w [fb g 179 [.one (.int .u8 0), .one (.int .u8 0), .one (.int .u8 0), .one (.int .u8 0), .one (.int .u8 0), .one (.int .u8 0), .one (.int .u8 0), .one (.int .u8 (n % 256 % 256))]] w') ∨ (x = .int .i64 (n / 65536) ∧ y = .int .i64 (5) ∧ Mem (Hp.of w) w [fb g 179 [.one (.int .u8 0), .one (.int .u8 0), .one (.int .u8 0), .one (.int .u8 0), .one (.int .u8 0), .one (.int .u8 0), .one (.int .u8 (n / 256 % 256 % 256)), .one (.int .u8 (n % 256 % 256))]] w') ∨ (x = .int .i64 (n / 16777216) ∧ y = .int .i64 (4) ∧ Mem (Hp.of w) w [fb g 179 [.one (.int .u8 0), .one (.int .u8 0), .one (.int .u8 0), .one (.int .u8 0), .one (.int .u8 0), .one (.int .u8 (n / 65536 % 256 % 256)), .one (.int .u8 (n / 256 % 256 % 256)), .one (.int .u8 (n % 256 % 256))]] w') ∨ (x = .int .i64 (n / 4294967296) ∧ y = .int .i64 (3) ∧ Mem (Hp.of w) w [fb g 179 [.one (.int .u8 0), .one (.int .u8 0), .one (.int .u8 0), .one (.int .u8 0), .one (.int .u8 (n / 16777216 % 256 % 256)), .one (.int .u8 (n / 65536 % 256 % 256)), .one (.int .u8 (n / 256 % 256 % 256)), .one (.int .u8 (n % 256 % 256))]] w') ∨ (x = .int .i64 (n / 1099511627776) ∧ y = .int .i64 (2) ∧ Mem (Hp.of w) w [fb g 179 [.one (.int .u8 0), .one (.int .u8 0), .one (.int .u8 0), .one (.int .u8 (n / 4294967296 % 256 % 256)), .one (.int .u8 (n / 16777216 % 256 % 256)), .one (.int .u8 (n / 65536 % 256 % 256)), .one (.int .u8 (n / 256 % 256 % 256)), .one (.int .u8 (n % 256 % 256))]] w') ∨ (x = .int .i64 (n / 281474976710656) ∧ y = .int .i64 (1) ∧ Mem (Hp.of w) w [fb g 179 [.one (.int .u8 0), .one (.int .u8 0), .one (.int .u8 (n / 1099511627776 % 256 % 256)), .one (.int .u8 (n / 4294967296 % 256 % 256)), .one (.int .u8 (n / 16777216 % 256 % 256)), .one (.int .u8 (n / 65536 % 256 % 256)), .one (.int .u8 (n / 256 % 256 % 256)), .one (.int .u8 (n % 256 % 256))]] w') ∨ (x = .int .i64 (n / 72057594037927936) ∧ y = .int .i64 (0) ∧ Mem (Hp.of w) w [fb g 179 [.one (.int .u8 0), .one (.int .u8 (n / 281474976710656 % 256 % 256)), .one (.int .u8 (n / 1099511627776 % 256 % 256)), .one (.int .u8 (n / 4294967296 % 256 % 256)), .one (.int .u8 (n / 16777216 % 256 % 256)), .one (.int .u8 (n / 65536 % 256 % 256)), .one (.int .u8 (n / 256 % 256 % 256)), .one (.int .u8 (n % 256 % 256))]] w') ∨ (x = .int .i64 (n / 18446744073709551616) ∧ y = .int .i64 (-1) ∧ Mem (Hp.of w) w [fb g 179 [.one (.int .u8 (n / 72057594037927936 % 256 % 256)), .one (.int .u8 (n / 281474976710656 % 256 % 256)), .one (.int .u8 (n / 1099511627776 % 256 % 256)), .one (.int .u8 (n / 4294967296 % 256 % 256)), .one (.int .u8 (n / 16777216 % 256 % 256)), .one (.int .u8 (n / 65536 % 256 % 256)), .one (.int .u8 (n / 256 % 256 % 256)), .one (.int .u8 (n % 256 % 256))]] w'), fun _ y _ => match y with | .int _ i => (i + 1).toNat | _ => 0, .inl ⟨rfl, rfl, hM⟩, ?_⟩
        clear hM
        rintro x y u w2 (⟨rfl, rfl, hM⟩ | ⟨rfl, rfl, hM⟩ | ⟨rfl, rfl, hM⟩ | ⟨rfl, rfl, hM⟩ | ⟨rfl, rfl, hM⟩ | ⟨rfl, rfl, hM⟩ | ⟨rfl, rfl, hM⟩ | ⟨rfl, rfl, hM⟩ | ⟨rfl, rfl, hM⟩)
        · ((with_reducible (refine mop_cT trivial ?_ ?_)); (focus (first | assumption | omega | with_reducible rfl | exact fun h => Bool.noConfusion h)); (with_reducible (refine mif_true ?_; refine mop_c ?_ ?_)); (focus omega); (with_reducible (refine mop_c trivial ?_; refine mop_c trivial ?_; refine mm_st hM ?_; clear hM; intro _ hM; refine mop_c ?_ ?_)); (focus omega); (with_reducible (refine mop_c ?_ ?_)); (focus omega))
          refine ⟨.inr (.inl ⟨by first | rfl | (congr 1; omega), rfl, hM⟩), by first | decide | (dsimp only; omega) | (simp; done)⟩
        · ((with_reducible (refine mop_cT trivial ?_ ?_)); (focus (first | assumption | omega | with_reducible rfl | exact fun h => Bool.noConfusion h)); (with_reducible (refine mif_true ?_; refine mop_c ?_ ?_)); (focus omega); (with_reducible (refine mop_c trivial ?_; refine mop_c trivial ?_; refine mm_st hM ?_; clear hM; intro _ hM; refine mop_c ?_ ?_)); (focus omega); (with_reducible (refine mop_c ?_ ?_)); (focus omega))
          refine ⟨.inr (.inr (.inl ⟨by first | rfl | (congr 1; omega), rfl, hM⟩)), by first | decide | (dsimp only; omega) | (simp; done)⟩
        · ((with_reducible (refine mop_cT trivial ?_ ?_)); (focus (first | assumption | omega | with_reducible rfl | exact fun h => Bool.noConfusion h)); (with_reducible (refine mif_true ?_; refine mop_c ?_ ?_)); (focus omega); (with_reducible (refine mop_c trivial ?_; refine mop_c trivial ?_; refine mm_st hM ?_; clear hM; intro _ hM; refine mop_c ?_ ?_)); (focus omega); (with_reducible (refine mop_c ?_ ?_)); (focus omega))
          refine ⟨.inr (.inr (.inr (.inl ⟨by first | rfl | (congr 1; omega), rfl, hM⟩))), by first | decide | (dsimp only; omega) | (simp; done)⟩
        · ((with_reducible (refine mop_cT trivial ?_ ?_)); (focus (first | assumption | omega | with_reducible rfl | exact fun h => Bool.noConfusion h)); (with_reducible (refine mif_true ?_; refine mop_c ?_ ?_)); (focus omega); (with_reducible (refine mop_c trivial ?_; refine mop_c trivial ?_; refine mm_st hM ?_; clear hM; intro _ hM; refine mop_c ?_ ?_)); (focus omega); (with_reducible (refine mop_c ?_ ?_)); (focus omega))
          refine ⟨.inr (.inr (.inr (.inr (.inl ⟨by first | rfl | (congr 1; omega), rfl, hM⟩)))), by first | decide | (dsimp only; omega) | (simp; done)⟩
        · ((with_reducible (refine mop_cT trivial ?_ ?_)); (focus (first | assumption | omega | with_reducible rfl | exact fun h => Bool.noConfusion h)); (with_reducible (refine mif_true ?_; refine mop_c ?_ ?_)); (focus omega); (with_reducible (refine mop_c trivial ?_; refine mop_c trivial ?_; refine mm_st hM ?_; clear hM; intro _ hM; refine mop_c ?_ ?_)); (focus omega); (with_reducible (refine mop_c ?_ ?_)); (focus omega))
          refine ⟨.inr (.inr (.inr (.inr (.inr (.inl ⟨by first | rfl | (congr 1; omega), rfl, hM⟩))))), by first | decide | (dsimp only; omega) | (simp; done)⟩
        · ((with_reducible (refine mop_cT trivial ?_ ?_)); (focus (first | assumption | omega | with_reducible rfl | exact fun h => Bool.noConfusion h)); (with_reducible (refine mif_true ?_; refine mop_c ?_ ?_)); (focus omega); (with_reducible (refine mop_c trivial ?_; refine mop_c trivial ?_; refine mm_st hM ?_; clear hM; intro _ hM; refine mop_c ?_ ?_)); (focus omega); (with_reducible (refine mop_c ?_ ?_)); (focus omega))
          refine ⟨.inr (.inr (.inr (.inr (.inr (.inr (.inl ⟨by first | rfl | (congr 1; omega), rfl, hM⟩)))))), by first | decide | (dsimp only; omega) | (simp; done)⟩
        · ((with_reducible (refine mop_cT trivial ?_ ?_)); (focus (first | assumption | omega | with_reducible rfl | exact fun h => Bool.noConfusion h)); (with_reducible (refine mif_true ?_; refine mop_c ?_ ?_)); (focus omega); (with_reducible (refine mop_c trivial ?_; refine mop_c trivial ?_; refine mm_st hM ?_; clear hM; intro _ hM; refine mop_c ?_ ?_)); (focus omega); (with_reducible (refine mop_c ?_ ?_)); (focus omega))
          refine ⟨.inr (.inr (.inr (.inr (.inr (.inr (.inr (.inl ⟨by first | rfl | (congr 1; omega), rfl, hM⟩))))))), by first | decide | (dsimp only; omega) | (simp; done)⟩
        · ((with_reducible (refine mop_cT trivial ?_ ?_)); (focus (first | assumption | omega | with_reducible rfl | exact fun h => Bool.noConfusion h)); (with_reducible (refine mif_true ?_; refine mop_c ?_ ?_)); (focus omega); (with_reducible (refine mop_c trivial ?_; refine mop_c trivial ?_; refine mm_st hM ?_; clear hM; intro _ hM; refine mop_c ?_ ?_)); (focus omega); (with_reducible (refine mop_c ?_ ?_)); (focus omega))
          refine ⟨.inr (.inr (.inr (.inr (.inr (.inr (.inr (.inr (⟨by first | rfl | (congr 1; omega), rfl, hM⟩)))))))), by first | decide | (dsimp only; omega) | (simp; done)⟩
        · ((with_reducible (refine mop_cF trivial ?_ ?_)); (focus (first | assumption | omega | with_reducible rfl | exact fun h => Bool.noConfusion h)); (with_reducible (refine mif_false ?_; refine mop_c trivial ?_; refine mm_ld hM ?_; refine mop_c trivial ?_; refine mop_c trivial ?_; refine mm_st hM ?_; clear hM; intro _ hM; refine mop_c trivial ?_)))
          have hM := Mem.refd (fs' := [.arr 8 (u8s [(n / 72057594037927936 % 256 % 256 + 192) % 256, n / 281474976710656 % 256 % 256, n / 1099511627776 % 256 % 256, n / 4294967296 % 256 % 256, n / 16777216 % 256 % 256, n / 65536 % 256 % 256, n / 256 % 256 % 256, n % 256 % 256])]) hM rfl ⟨fun f hf => by
            rw [List.mem_singleton.1 hf]
            exact ⟨rfl, fun u hu => u8s_one _ u hu⟩⟩
          ((with_reducible (refine mm_cvb hM ?_)))
          refine ⟨?_, hM.st⟩
          unfold numB
          rw [if_neg h1, if_neg h2, if_neg h3]
          simp only [Int.emod_emod_of_dvd _ (Int.dvd_refl 256)]
          rw [show (n / 72057594037927936 % 256 + 192) % 256 = 192 + n / 72057594037927936 by omega]
instance (n : Int) : PurC Try.prog 109 [.int .i64 n] (0 ≤ n ∧ n ≤ 4611686018427387903) (.string (strOfNums (numB n))) := ⟨fun h w => rnum_ok n h w⟩
end
end Go.Proofs.Ytmjpbomonhjebaa
