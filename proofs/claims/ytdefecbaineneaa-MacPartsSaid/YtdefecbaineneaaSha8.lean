/- The order of digests; the law ShaOrders. -/
import Derived.Test.YtdefecbaineneaaSha7
namespace Go.Proofs.Ytdefecbaineneaa
open Go.RowKit

def cmpL : List Int → List Int → Int
  | x :: xs, y :: ys => if x < y then -1 else if y < x then 1 else cmpL xs ys
  | _, _ => 0
theorem cmpL_range : ∀ a b : List Int, -1 ≤ cmpL a b ∧ cmpL a b ≤ 1
  | [], _ => by simp [cmpL]
  | _ :: _, [] => by simp [cmpL]
  | x :: xs, y :: ys => by
    have := cmpL_range xs ys
    unfold cmpL
    split
    · omega
    · split <;> omega
theorem cmpL_anti : ∀ a b : List Int, cmpL a b = - cmpL b a
  | [], [] => rfl
  | [], _ :: _ => rfl
  | _ :: _, [] => rfl
  | x :: xs, y :: ys => by
    have := cmpL_anti xs ys
    unfold cmpL
    split
    · rw [if_neg (by omega)]
    · split
      · rfl
      · exact this
theorem cmpL_zero : ∀ a b : List Int, a.length = b.length → (cmpL a b = 0 ↔ a = b)
  | [], [], _ => by simp [cmpL]
  | x :: xs, y :: ys, h => by
    have := cmpL_zero xs ys (by simpa using h)
    unfold cmpL
    split
    · simp; omega
    · split
      · simp; omega
      · rw [this]
        have : x = y := by omega
        simp [this]
theorem cmpL_trans : ∀ a b c : List Int, a.length = b.length → b.length = c.length → cmpL a b ≤ 0 → cmpL b c ≤ 0 → cmpL a c ≤ 0
  | [], _, _, _, _, _, _ => by simp [cmpL]
  | x :: xs, y :: ys, z :: zs, h1, h2, h3, h4 => by
    have := cmpL_trans xs ys zs (by simpa using h1) (by simpa using h2)
    unfold cmpL at h3 h4 ⊢
    split at h3
    · split at h4
      · rw [if_pos (by omega)]; omega
      · split at h4
        · omega
        · rw [if_pos (by omega)]; omega
    · split at h3
      · omega
      · split at h4
        · rw [if_pos (by omega)]; omega
        · split at h4
          · omega
          · rw [if_neg (by omega), if_neg (by omega)]
            exact this h3 h4
theorem cmpL_drop (a b : List Int) (k : Nat) (ha : k < a.length) (hb : k < b.length) : cmpL (a.drop k) (b.drop k) = if a.getD k 0 < b.getD k 0 then -1 else if b.getD k 0 < a.getD k 0 then 1 else cmpL (a.drop (k + 1)) (b.drop (k + 1)) := by
  rw [List.drop_eq_getElem_cons ha, List.drop_eq_getElem_cons hb, cmpL]
  simp [List.getD, ha, hb]

theorem cmp_ok (x y : List Int) (w : World) (hx : x.length = 32) (hy : y.length = 32) : Calls Try.prog 19 #[hv x, hv y] w fun e w' => e = .returned (.int .i64 (cmpL x y)) ∧ St w [] w' := by
  refine C_sha_Cmp ?_
  unfold F_sha_Cmp
  refine mop_box (St.nil w) (fun b w1 h1 => ?_)
  have h1 : St w [⟨b, 23, u8s x, true⟩] w1 := by simpa [hv, Value.cells] using h1
  refine mop_box h1 (fun c w2 h2 => ?_)
  have h2 : St w [⟨c, 23, u8s y, true⟩, ⟨b, 23, u8s x, true⟩] w2 := by simpa [hv, Value.cells] using h2
  refine ⟨fun v w2 => ∃ k : Nat, k ≤ 32 ∧ v = .int .i64 k ∧ cmpL x y = cmpL (x.drop k) (y.drop k) ∧ St w [⟨c, 23, u8s y, true⟩, ⟨b, 23, u8s x, true⟩] w2, fun v _ => 32 - (intOf v).toNat, ⟨0, by omega, rfl, rfl, h2⟩, ?_⟩
  clear h1 h2
  rintro v u w3 ⟨k, hk, rfl, he, h3⟩
  (repeat (first | (refine mop_c ?_ ?_; first | exact trivial | omega) | (refine dp_c ?_ ?_; first | exact trivial | omega)))
  refine mif_dec (fun hlt => ?_) (fun hge => ?_)
  · have hk' : k < 32 := by omega
    rw [cmpL_drop x y k (by omega) (by omega)] at he
    have cx : ∀ w2, St w [⟨c, 23, u8s y, true⟩, ⟨b, 23, u8s x, true⟩] w2 → w2.cell? ⟨b, k, none⟩ = some (.int .u8 (x.getD k 0)) := fun w2 h => by
      rw [h.cell 1 rfl k]; exact u8s_at x k (by omega)
    have cy : ∀ w2, St w [⟨c, 23, u8s y, true⟩, ⟨b, 23, u8s x, true⟩] w2 → w2.cell? ⟨c, k, none⟩ = some (.int .u8 (y.getD k 0)) := fun w2 h => by
      rw [h.cell 0 rfl k]; exact u8s_at y k (by omega)
    generalize x.getD k 0 = p at he cx
    generalize y.getD k 0 = q at he cy
    (repeat (first | (refine mop_c ?_ ?_; first | exact trivial | omega) | (refine dp_c ?_ ?_; first | exact trivial | omega)))
    refine dq_ld (cx _ h3) (by omega) ?_
    (repeat (first | (refine mop_c ?_ ?_; first | exact trivial | omega) | (refine dp_c ?_ ?_; first | exact trivial | omega)))
    refine dq_ld (cy _ h3) (by omega) ?_
    (repeat (first | (refine mop_c ?_ ?_; first | exact trivial | omega) | (refine dp_c ?_ ?_; first | exact trivial | omega)))
    refine dend_intro fun w4 hd4 => ?_
    have h4 := h3.drawn hd4
    refine mif_dec (fun hl => ?_) (fun hl => ?_)
    · rw [if_pos hl] at he
      rw [he]
      exact ⟨rfl, h4.drop.drop⟩
    · rw [if_neg hl] at he
      (repeat (first | (refine mop_c ?_ ?_; first | exact trivial | omega) | (refine dp_c ?_ ?_; first | exact trivial | omega)))
      refine dq_ld (cx _ h4) (by omega) ?_
      (repeat (first | (refine mop_c ?_ ?_; first | exact trivial | omega) | (refine dp_c ?_ ?_; first | exact trivial | omega)))
      refine dq_ld (cy _ h4) (by omega) ?_
      (repeat (first | (refine mop_c ?_ ?_; first | exact trivial | omega) | (refine dp_c ?_ ?_; first | exact trivial | omega)))
      refine dend_intro fun w5 hd5 => ?_
      have h5 := h4.drawn hd5
      refine mif_dec (fun hl2 => ?_) (fun hl2 => ?_)
      · rw [if_pos hl2] at he
        rw [he]
        exact ⟨rfl, h5.drop.drop⟩
      · rw [if_neg hl2] at he
        (repeat (first | (refine mop_c ?_ ?_; first | exact trivial | omega) | (refine dp_c ?_ ?_; first | exact trivial | omega)))
        exact ⟨⟨k + 1, by omega, rfl, he, h5⟩, by simp [intOf]; omega⟩
  · obtain rfl : k = 32 := by omega
    rw [List.drop_eq_nil_of_le (by omega)] at he
    rw [he]
    exact ⟨rfl, h3.drop.drop⟩

theorem less_l : ∀ a b : List Int, a.length = b.length → (∀ x ∈ a, 0 ≤ x ∧ x < 256) → (∀ x ∈ b, 0 ≤ x ∧ x < 256) → Op.bytesLess (strOfNums a).toList (strOfNums b).toList = decide (cmpL a b < 0) := by
  have tl : ∀ l : List Int, (strOfNums l).toList = l.map fun z => UInt8.ofNat z.toNat := fun l => by rw [ByteArray.toList_eq]; simp [strOfNums]
  intro a b
  rw [tl, tl]
  induction a generalizing b with
  | nil => intro h _ _; cases b with | nil => rfl | cons _ _ => simp at h
  | cons x xs ih =>
    intro h ha hb
    cases b with
    | nil => simp at h
    | cons y ys =>
      have := ih ys (by simpa using h) (fun z hz => ha z (List.mem_cons_of_mem _ hz)) (fun z hz => hb z (List.mem_cons_of_mem _ hz))
      have hx := ha x (List.mem_cons_self ..)
      have hy := hb y (List.mem_cons_self ..)
      simp only [List.map_cons, Op.bytesLess, this, cmpL]
      have e1 : (UInt8.ofNat x.toNat < UInt8.ofNat y.toNat) ↔ x < y := by
        rw [UInt8.lt_iff_toNat_lt]
        simp
        omega
      have e2 : (UInt8.ofNat x.toNat = UInt8.ofNat y.toNat) ↔ x = y := by
        rw [← UInt8.toNat_inj]
        simp
        omega
      by_cases h1 : x < y
      · simp [e1, h1]
      · by_cases h2 : y < x
        · have : ¬ x = y := by omega
          simp [e1, e2, h1, h2, this]
        · have : x = y := by omega
          subst this
          simp
theorem p_lss_string (t : TypeId) (q : Bool) (a b : ByteArray) : Pur Try.prog (o_bin .lss t q (.string a) (.string b)) (.bool (Op.bytesLess a.toList b.toList)) := fun w => by
  simp [o_bin, sv, eqGuard, Go.binOp_string_lss]
theorem less_ok (x y : List Int) (w : World) (hx : x.length = 32) (hy : y.length = 32) (rx : ∀ z ∈ x, 0 ≤ z ∧ z < 256) (ry : ∀ z ∈ y, 0 ≤ z ∧ z < 256) : Calls Try.prog 20 #[hv x, hv y] w fun e w' => e = .returned (.bool (decide (cmpL x y < 0))) ∧ St w [] w' := by
  refine C_bevyref02_Less ?_
  unfold F_bevyref02_Less
  refine mop_box (St.nil w) (fun b w1 h1 => ?_)
  have h1 : St w [⟨b, 22, u8s x, true⟩] w1 := by simpa [hv, Value.cells] using h1
  refine mop_box h1 (fun c w2 h2 => ?_)
  have h2 : St w [⟨c, 22, u8s y, true⟩, ⟨b, 22, u8s x, true⟩] w2 := by simpa [hv, Value.cells] using h2
  clear h1
  (repeat (first | (refine mop_c ?_ ?_; first | exact trivial | omega) | (refine dp_c ?_ ?_; first | exact trivial | omega)))
  refine dq_pur (fun w3 hw => pw_conv_bytes 50 9 5 b 0 32 _ x (by kernel_rfl) (by kernel_rfl) (by kernel_rfl) hx (fun i hi => hw.cell (by rw [Nat.zero_add, h2.cell 1 rfl i]; exact u8s_at x i (by omega)))) ?_
  (repeat (first | (refine mop_c ?_ ?_; first | exact trivial | omega) | (refine dp_c ?_ ?_; first | exact trivial | omega)))
  refine dq_pur (fun w3 hw => pw_conv_bytes 50 9 5 c 0 32 _ y (by kernel_rfl) (by kernel_rfl) (by kernel_rfl) hy (fun i hi => hw.cell (by rw [Nat.zero_add, h2.cell 0 rfl i]; exact u8s_at y i (by omega)))) ?_
  refine dp_pur (p_lss_string _ _ _ _) ?_
  rw [less_l x y (by omega) rx ry]
  refine dend_intro fun w3 hd => ?_
  exact ⟨rfl, (h2.drawn hd).drop.drop⟩

theorem p_unot (a : Bool) : Pur Try.prog (o_un .not (.bool a)) (.bool !a) := fun w => by
  simp [o_un, sv, Op.unary]
theorem p_neg (a : Int) : Pur Try.prog (o_un .neg (.int .i64 a)) (.int .i64 (IntKind.i64.wrap (-a))) := fun w => by
  simp [o_un, sv, Op.unary, Op.intArith]
theorem p_neq_bool (q : Bool) (a b : Bool) : Pur Try.prog (o_bin .neq 4 q (.bool a) (.bool b)) (.bool (!(a == b))) := fun w => by
  simp [o_bin, sv, eqGuard, go_sem, run_neq_bool (P := Try.prog) w 4 a b (by kernel_rfl)]
theorem p_eql_bool (q : Bool) (a b : Bool) : Pur Try.prog (o_bin .eql 4 q (.bool a) (.bool b)) (.bool (a == b)) := fun w => by
  simp [o_bin, sv, eqGuard, go_sem, run_eql_bool (P := Try.prog) w 4 a b (by kernel_rfl)]
instance (a : Bool) : StepC Try.prog (o_un .not (.bool a)) True (.bool !a) := ⟨fun _ => p_unot a⟩
instance (a : Int) : StepC Try.prog (o_un .neg (.int .i64 a)) (-9223372036854775808 ≤ -a ∧ -a < 9223372036854775808) (.int .i64 (-a)) := ⟨fun h => by have := p_neg a; rwa [wrap_in h] at this⟩
instance (q : Bool) (a b : Bool) : StepC Try.prog (o_bin .neq 4 q (.bool a) (.bool b)) True (.bool !(a == b)) := ⟨fun _ => p_neq_bool q a b⟩
instance (q : Bool) (a b : Bool) : StepC Try.prog (o_bin .eql 4 q (.bool a) (.bool b)) True (.bool (a == b)) := ⟨fun _ => p_eql_bool q a b⟩

set_option maxHeartbeats 1000000 in
theorem shaOrders_ok (x y z : List Int) (w : World) (hx : x.length = 32) (hy : y.length = 32) (hz : z.length = 32) (rx : ∀ c ∈ x, 0 ≤ c ∧ c < 256) (ry : ∀ c ∈ y, 0 ≤ c ∧ c < 256) :
    Calls Try.prog 6 #[hv x, hv y, hv z] w fun e w' => e = .returned (.bool true) ∧ St w [] w' := by
  refine C_bevylaw02_ShaOrders ?_
  unfold F_bevylaw02_ShaOrders
  refine mop_box (St.nil w) (fun b w1 h1 => ?_)
  have h1 : St w [⟨b, 23, u8s x, true⟩] w1 := by simpa [hv, Value.cells] using h1
  refine mop_box h1 (fun c w2 h2 => ?_)
  have h2 : St w [⟨c, 23, u8s y, true⟩, ⟨b, 23, u8s x, true⟩] w2 := by simpa [hv, Value.cells] using h2
  refine mop_box h2 (fun d w3 h3 => ?_)
  have h3 : St w [⟨d, 23, u8s z, true⟩, ⟨c, 23, u8s y, true⟩, ⟨b, 23, u8s x, true⟩] w3 := by simpa [hv, Value.cells] using h3
  clear h1 h2
  obtain ⟨L, hL⟩ : ∃ L : List Bk, L = [⟨d, 23, u8s z, true⟩, ⟨c, 23, u8s y, true⟩, ⟨b, 23, u8s x, true⟩] := ⟨_, rfl⟩
  rw [← hL] at h3
  have cx : ∀ w2, St w L w2 → ∀ k v, (u8s x)[k]? = some v → w2.cell? ⟨b, 0 + k, none⟩ = some v := fun w2 h => cells_of_row (by rw [hL] at h; exact h.mem (k := 2) rfl)
  have cy : ∀ w2, St w L w2 → ∀ k v, (u8s y)[k]? = some v → w2.cell? ⟨c, 0 + k, none⟩ = some v := fun w2 h => cells_of_row (by rw [hL] at h; exact h.mem (k := 1) rfl)
  have cz : ∀ w2, St w L w2 → ∀ k v, (u8s z)[k]? = some v → w2.cell? ⟨d, 0 + k, none⟩ = some v := fun w2 h => cells_of_row (by rw [hL] at h; exact h.mem (k := 0) rfl)
  have fin : ∀ w2, St w L w2 → St w [] w2 := fun w2 h => by rw [hL] at h; exact h.drop.drop.drop
  have lx : (u8s x).length = 32 := by simp [u8s, hx]
  have ly : (u8s y).length = 32 := by simp [u8s, hy]
  have lz : (u8s z).length = 32 := by simp [u8s, hz]
  have r1 := cmpL_range x y
  have r2 := cmpL_range y x
  have an := cmpL_anti x y
  have ze := cmpL_zero x y (by omega)
  have tr := cmpL_trans x y z (by omega) (by omega)
  refine mop_ldN (cx _ h3) lx rfl ?_
  refine mop_ldN (cy _ h3) ly rfl ?_
  refine mop_to (cmp_ok x y w3 hx hy) ?_
  rintro e w4 ⟨rfl, h4⟩
  have h4 := h3.call0 h4
  refine ⟨fun v w5 => v = .bool false ∧ St w L w5, ?_, ?_⟩
  · refine mop_to (awake_ok w4) ?_
    rintro e w5 ⟨rfl, h5⟩
    have h5 := h4.call0 h5
    refine mop_c trivial ?_
    rw [Bool.not_true]
    refine mguard_yes ?_
    (repeat (first | (refine mop_c ?_ ?_; first | exact trivial | omega) | (refine dp_c ?_ ?_; first | exact trivial | omega)))
    refine mguard_yes ?_
    refine mop_ldN (cy _ h5) ly rfl ?_
    refine mguard_yes ?_
    refine mop_ldN (cx _ h5) lx rfl ?_
    refine mguard_yes ?_
    refine mop_to (cmp_ok y x w5 hy hx) ?_
    rintro e w6 ⟨rfl, h6⟩
    have h6 := h5.call0 h6
    refine mguard_yes ?_
    (repeat (first | (refine mop_c ?_ ?_; first | exact trivial | omega) | (refine dp_c ?_ ?_; first | exact trivial | omega)))
    refine mguard_yes ?_
    (repeat (first | (refine mop_c ?_ ?_; first | exact trivial | omega) | (refine dp_c ?_ ?_; first | exact trivial | omega)))
    rw [show decide (cmpL x y ≠ -cmpL y x) = false by simp [an]]
    (repeat (first | (refine mop_c ?_ ?_; first | exact trivial | omega) | (refine dp_c ?_ ?_; first | exact trivial | omega)))
    refine mguard_yes ?_
    (repeat (first | (refine mop_c ?_ ?_; first | exact trivial | omega) | (refine dp_c ?_ ?_; first | exact trivial | omega)))
    refine mguard_yes ?_
    (repeat (first | (refine mop_c ?_ ?_; first | exact trivial | omega) | (refine dp_c ?_ ?_; first | exact trivial | omega)))
    refine mguard_yes ?_
    refine mop_ldN (cx _ h6) lx rfl ?_
    refine mguard_yes ?_
    refine mop_ldN (cy _ h6) ly rfl ?_
    refine mguard_yes ?_
    refine mop_to (less_ok x y w6 hx hy rx ry) ?_
    rintro e w7 ⟨rfl, h7⟩
    have h7 := h6.call0 h7
    refine mguard_yes ?_
    (repeat (first | (refine mop_c ?_ ?_; first | exact trivial | omega) | (refine dp_c ?_ ?_; first | exact trivial | omega)))
    rw [show (!(decide (cmpL x y < 0) == decide (cmpL x y < 0))) = false by simp]
    (repeat (first | (refine mop_c ?_ ?_; first | exact trivial | omega) | (refine dp_c ?_ ?_; first | exact trivial | omega)))
    refine mguard_yes ?_
    (repeat (first | (refine mop_c ?_ ?_; first | exact trivial | omega) | (refine dp_c ?_ ?_; first | exact trivial | omega)))
    refine mguard_yes ?_
    (repeat (first | (refine mop_c ?_ ?_; first | exact trivial | omega) | (refine dp_c ?_ ?_; first | exact trivial | omega)))
    refine mguard_yes ?_
    refine mop_ldN (cx _ h7) lx rfl ?_
    refine mguard_yes ?_
    refine mop_ldN (cy _ h7) ly rfl ?_
    refine mguard_yes ?_
    refine mop_pur (p_eql_hv _ x y hx hy) ?_
    refine mguard_yes ?_
    (repeat (first | (refine mop_c ?_ ?_; first | exact trivial | omega) | (refine dp_c ?_ ?_; first | exact trivial | omega)))
    rw [show (!(decide (cmpL x y = 0) == decide (x = y))) = false by simp [ze]]
    (repeat (first | (refine mop_c ?_ ?_; first | exact trivial | omega) | (refine dp_c ?_ ?_; first | exact trivial | omega)))
    refine mguard_yes ?_
    (repeat (first | (refine mop_c ?_ ?_; first | exact trivial | omega) | (refine dp_c ?_ ?_; first | exact trivial | omega)))
    refine mguard_yes ?_
    (repeat (first | (refine mop_c ?_ ?_; first | exact trivial | omega) | (refine dp_c ?_ ?_; first | exact trivial | omega)))
    rw [show decide (cmpL x y < -1) = false by simp; omega]
    (repeat (first | (refine mop_c ?_ ?_; first | exact trivial | omega) | (refine dp_c ?_ ?_; first | exact trivial | omega)))
    refine mguard_yes ?_
    (repeat (first | (refine mop_c ?_ ?_; first | exact trivial | omega) | (refine dp_c ?_ ?_; first | exact trivial | omega)))
    refine mguard_yes ?_
    (repeat (first | (refine mop_c ?_ ?_; first | exact trivial | omega) | (refine dp_c ?_ ?_; first | exact trivial | omega)))
    rw [show decide (1 < cmpL x y) = false by simp; omega]
    (repeat (first | (refine mop_c ?_ ?_; first | exact trivial | omega) | (refine dp_c ?_ ?_; first | exact trivial | omega)))
    exact ⟨rfl, h7⟩
  · rintro v u w5 ⟨rfl, h5⟩
    refine mif_false ?_
    (repeat (first | (refine mop_c ?_ ?_; first | exact trivial | omega) | (refine dp_c ?_ ?_; first | exact trivial | omega)))
    by_cases h1 : 0 < cmpL x y
    · simp only [h1, decide_true]
      repeat refine mguard_no (by simp) ?_
      (repeat (first | (refine mop_c ?_ ?_; first | exact trivial | omega) | (refine dp_c ?_ ?_; first | exact trivial | omega)))
      repeat refine mguard_no (by simp) ?_
      (repeat (first | (refine mop_c ?_ ?_; first | exact trivial | omega) | (refine dp_c ?_ ?_; first | exact trivial | omega)))
      exact ⟨rfl, fin _ h5⟩
    · simp only [h1, decide_false]
      refine mguard_yes ?_
      refine mop_ldN (cy _ h5) ly rfl ?_
      refine mguard_yes ?_
      refine mop_ldN (cz _ h5) lz rfl ?_
      refine mguard_yes ?_
      refine mop_to (cmp_ok y z w5 hy hz) ?_
      rintro e w6 ⟨rfl, h6⟩
      have h6 := h5.call0 h6
      refine mguard_yes ?_
      (repeat (first | (refine mop_c ?_ ?_; first | exact trivial | omega) | (refine dp_c ?_ ?_; first | exact trivial | omega)))
      by_cases h2 : 0 < cmpL y z
      · simp only [h2, decide_true]
        (repeat (first | (refine mop_c ?_ ?_; first | exact trivial | omega) | (refine dp_c ?_ ?_; first | exact trivial | omega)))
        repeat refine mguard_no (by simp) ?_
        (repeat (first | (refine mop_c ?_ ?_; first | exact trivial | omega) | (refine dp_c ?_ ?_; first | exact trivial | omega)))
        exact ⟨rfl, fin _ h6⟩
      · simp only [h2, decide_false]
        (repeat (first | (refine mop_c ?_ ?_; first | exact trivial | omega) | (refine dp_c ?_ ?_; first | exact trivial | omega)))
        refine mguard_yes ?_
        refine mop_ldN (cx _ h6) lx rfl ?_
        refine mguard_yes ?_
        refine mop_ldN (cz _ h6) lz rfl ?_
        refine mguard_yes ?_
        refine mop_to (cmp_ok x z w6 hx hz) ?_
        rintro e w7 ⟨rfl, h7⟩
        have h7 := h6.call0 h7
        refine mguard_yes ?_
        (repeat (first | (refine mop_c ?_ ?_; first | exact trivial | omega) | (refine dp_c ?_ ?_; first | exact trivial | omega)))
        rw [show decide (cmpL x z ≤ 0) = true by simp; exact tr (by omega) (by omega)]
        (repeat (first | (refine mop_c ?_ ?_; first | exact trivial | omega) | (refine dp_c ?_ ?_; first | exact trivial | omega)))
        exact ⟨rfl, fin _ h7⟩
end Go.Proofs.Ytdefecbaineneaa
