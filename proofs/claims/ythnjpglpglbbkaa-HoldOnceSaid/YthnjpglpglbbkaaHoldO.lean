/- Hold: the walk of HoldOnce. -/
import Derived.Test.YthnjpglpglbbkaaHoldP
namespace Go.Proofs.Ythnjpglpglbbkaa
open Go.RowKit

/-- What is left of items when those are gone that wait for what the first i wait for. -/
def leftOf (l : List Item) (i : Nat) : List Item := l.filter fun y => !((l.take i).any fun z => decide (z.wait = y.wait))
theorem leftOf_zero (l : List Item) : leftOf l 0 = l := by simp [leftOf]
theorem leftOf_succ (l : List Item) (i : Nat) (h : i < l.length) : (leftOf l i).filter (fun y => !decide (y.wait = l[i].wait)) = leftOf l (i + 1) := by
  unfold leftOf
  rw [List.filter_filter]
  refine List.filter_congr fun y _ => ?_
  rw [List.take_succ_eq_append_getElem h, List.any_append]
  simp only [List.any_cons, List.any_nil, Bool.or_false, Bool.not_or]
  rw [Bool.and_comm]
  congr 2
  rw [Bool.eq_iff_iff]
  simp [eq_comm]
theorem leftOf_all (l : List Item) : leftOf l l.length = [] := by
  unfold leftOf
  rw [List.filter_eq_nil_iff]
  intro y hy
  simp only [List.take_length, Bool.not_eq_true', Bool.not_eq_false]
  rw [List.any_eq_true]
  exact ⟨y, hy, by simp⟩
theorem leftOf_out (l : List Item) (i : Nat) (h : i < l.length) : (leftOf l i).filter (fun y => decide (y.wait = l[i].wait)) = [] ∨ (leftOf l i).filter (fun y => decide (y.wait = l[i].wait)) = (l.drop i).filter fun y => decide (y.wait = l[i].wait) := by
  by_cases hz : ∃ z ∈ l.take i, z.wait = l[i].wait
  · left
    obtain ⟨z, hz, hw⟩ := hz
    rw [List.filter_eq_nil_iff]
    intro y hy hyw
    simp only [leftOf, List.mem_filter] at hy
    have : ((l.take i).any fun z => decide (z.wait = y.wait)) = true := List.any_eq_true.2 ⟨z, hz, by simp at hyw; simp [hw, hyw]⟩
    rw [this] at hy
    simp at hy
  · right
    have h1 : (leftOf l i).filter (fun y => decide (y.wait = l[i].wait)) = l.filter fun y => decide (y.wait = l[i].wait) := by
      unfold leftOf
      rw [List.filter_filter]
      refine List.filter_congr fun y _ => ?_
      cases hd : decide (y.wait = l[i].wait) with
      | false => simp
      | true =>
        simp only [Bool.true_and, Bool.not_eq_true']
        rw [List.any_eq_false]
        intro z hz2 hw
        simp at hw hd
        exact hz ⟨z, hz2, by rw [hw, hd]⟩
    rw [h1]
    conv => lhs; arg 2; rw [← List.take_append_drop i l]
    rw [List.filter_append, List.filter_eq_nil_iff.2, List.nil_append]
    intro y hy hw
    exact hz ⟨y, hy, by simpa using hw⟩
theorem filter_parts (p : Item → Bool) : ∀ l : List Item, (l.filter p).length + (l.filter fun y => !p y).length = l.length
  | [] => rfl
  | x :: l => by
    have := filter_parts p l
    simp only [List.filter_cons, List.length_cons]
    cases p x <;> simp <;> omega
/-- How many of the items from i to j are of a kind. -/
def seen (p : Item → Bool) (l : List Item) (i j : Nat) : Nat := (((l.take j).drop i).filter p).length
theorem seen_same (p : Item → Bool) (l : List Item) (i : Nat) : seen p l i i = 0 := by
  unfold seen
  rw [List.drop_eq_nil_of_le (by simp; omega)]
  rfl
theorem seen_succ (p : Item → Bool) (l : List Item) (i j : Nat) (hij : i ≤ j) (h : j < l.length) : seen p l i (j + 1) = seen p l i j + if p l[j] then 1 else 0 := by
  unfold seen
  rw [List.take_succ_eq_append_getElem h, List.drop_append_of_le_length (by simp; omega), List.filter_append, List.length_append]
  congr 1
  simp only [List.filter_cons, List.filter_nil]
  split <;> rfl
theorem seen_all (p : Item → Bool) (l : List Item) (i : Nat) : seen p l i l.length = ((l.drop i).filter p).length := by
  unfold seen
  rw [List.take_length]
theorem seen_at (p : Item → Bool) (l : List Item) (i j : Nat) (hij : i ≤ j) (h : j < l.length) (hp : p l[j] = true) : ∃ hk : seen p l i j < ((l.drop i).filter p).length, ((l.drop i).filter p)[seen p l i j] = l[j] := by
  have e : (l.drop i).filter p = ((l.take j).drop i).filter p ++ (l[j] :: (l.drop (j + 1)).filter p) := by
    have h1 : l.drop i = (l.take j).drop i ++ l.drop j := by
      conv => lhs; rw [← List.take_append_drop j l]
      rw [List.drop_append_of_le_length (by simp; omega)]
    rw [h1, List.filter_append, List.drop_eq_getElem_cons h, List.filter_cons, if_pos hp]
  have hlen : ((l.drop i).filter p).length = seen p l i j + (((l.drop (j + 1)).filter p).length + 1) := by rw [e, List.length_append]; rfl
  refine ⟨by omega, ?_⟩
  simp only [e]
  rw [List.getElem_append_right (by simp [seen])]
  simp [seen]
section
variable {H : Hp} {w0 w : World} {L R : List Res}
theorem putL_cases (room : Int) (xs : List Item) (x : Item) : (putL room xs x = (xs, 8)) ∨ (putL room xs x = (xs, 9)) ∨ (putL room xs x = (xs ++ [x], 0) ∧ (xs.length : Int) < room) := by
  unfold putL
  split
  · exact .inl rfl
  · split
    · exact .inr (.inl rfl)
    · exact .inr (.inr ⟨rfl, by omega⟩)
theorem holdOnce_ok (room : Int) (hroom : 0 ≤ room ∧ room < 256) (l : List Item) (A : Option Addr) (cap : Nat) (hs : Sl H 66 A (l.map Item.fds)) (hf : Fz H w) :
    Calls Try.prog 3 #[.int .u8 room, .slice A l.length cap] w fun en w' => en = .returned (.bool true) ∧ St w [] w' := by
  have hM := Mem.start hf
  refine C_bevylaw16_HoldOnce ?_
  unfold F_bevylaw16_HoldOnce
  refine ⟨fun x w' => ∃ b : Bool, x = .bool b ∧ (b = false → l.length ≤ 400) ∧ hM.now w', ?_, ?_⟩
  · refine mm_pure hM (hawake_ok hM.fz) (fun w1 hM => ?_)
    ((with_reducible (refine mop_c trivial ?_; refine mguard_yes ?_; refine mop_c trivial ?_; refine mguard_yes ?_; refine mop_c trivial ?_; refine mguard_yes ?_)))
    ((with_reducible (refine mop_cS trivial ?_ ?_))) <;>
    · intro h
      ((with_reducible (refine mop_c trivial ?_)))
      exact ⟨_, rfl, by simp; try omega, hM⟩
  rintro x u w2 ⟨b, rfl, hb, hM⟩
  cases b with
  | true =>
    ((with_reducible (refine mif_true ?_)))
    refine mm_pure hM (hawake_ok hM.fz) (fun w1 hM => ?_)
    exact ⟨rfl, hM.st⟩
  | false =>
    have hb := hb rfl
    ((with_reducible (refine mif_false ?_; refine mop_c ?_ ?_)); (focus omega))
    refine mm_own (new_ok room (by omega) hM) ?_
    rintro v w3 ⟨g, rfl, hM⟩
    ((with_reducible (refine mop_c trivial ?_; refine mop_c trivial ?_)))
    refine ⟨fun x y w' => ∃ (i : Nat) (xs : List Item) (A' : Option Addr) (c' : Nat), x = .slice A' xs.length c' ∧ y = .int .i64 i ∧ i ≤ l.length ∧ xs.length ≤ i ∧ (xs.length : Int) ≤ room ∧
      Mem H w [irow A' c' xs, holdR g room xs] w', fun _ y _ => match y with | .int _ i => l.length - i.toNat | _ => 0,
      ⟨0, [], none, 0, rfl, rfl, by omega, by simp, by simp; omega, hM.row0 34 66⟩, ?_⟩
    rintro x y u w4 ⟨i, xs, A1, c1, rfl, rfl, hi, hxs, hxr, hM⟩
    ((with_reducible (refine mop_c trivial ?_)))
    ((with_reducible (refine mop_cS trivial ?_ ?_)))
    · intro hlt
      have hlt' : i < l.length := by omega
      ((with_reducible (refine mif_true ?_)))
      refine ⟨fun x w' => ∃ (xs : List Item) (A' : Option Addr) (c' : Nat), x = .slice A' xs.length c' ∧ xs.length ≤ i + 1 ∧ (xs.length : Int) ≤ room ∧ Mem H w [irow A' c' xs, holdR g room xs] w', ?_, ?_⟩
      · ((with_reducible refine mm_ixs ‹_› ?_ ?_ ?_); (focus (simp only [List.length_map]; omega)); (focus (simp only [List.length_map]; first | done | omega)); (with_reducible (intro _ _ hA)); (cases hA); (with_reducible refine mm_lds0 hM ‹_› (map_atI ?_) ?_); (focus omega))
        refine mm_pure hM (item_ok _ hM.fz) (fun w5 hM => ?_)
        refine mm_own (put_ok g room xs l[i] (by omega) (hM.at_ (holdR g room xs))) ?_
        rintro v w6 ⟨rfl, hM⟩
        rcases putL_cases room xs l[i] with hp | hp | ⟨hp, hp2⟩
        · rw [hp] at hM ⊢
          ((with_reducible (refine mop_cF trivial ?_ ?_)); (focus (first | assumption | omega)); (with_reducible (refine mif_false ?_)))
          exact ⟨_, _, _, rfl, by omega, hxr, hM.sub⟩
        · rw [hp] at hM ⊢
          ((with_reducible (refine mop_cF trivial ?_ ?_)); (focus (first | assumption | omega)); (with_reducible (refine mif_false ?_)))
          exact ⟨_, _, _, rfl, by omega, hxr, hM.sub⟩
        · rw [hp] at hM ⊢
          ((with_reducible (refine mop_cT trivial ?_ ?_)); (focus (first | assumption | omega)); (with_reducible (refine mif_true ?_)); (with_reducible refine mm_ixs ‹_› ?_ ?_ ?_); (focus (simp only [List.length_map]; omega)); (focus (simp only [List.length_map]; first | done | omega)); (with_reducible (intro _ _ hA)); (cases hA); (with_reducible refine mm_lds0 hM ‹_› (map_atI ?_) ?_); (focus omega); (with_reducible (refine mm_bsl hM ?_ ?_ ?_)); (focus rfl); (focus (constructor <;> simp)); (with_reducible (clear hM; intro _ _ hM; refine mm_appo hM ?_ ?_)); (focus omega); (with_reducible (clear hM; intro _ _ _ hM)))
          rename_i A2 c2 _
          refine ⟨xs ++ [l[i]], A2, c2, by simp, by simp; omega, by simp; omega, ?_⟩
          simpa [irow] using hM
      · rintro x u w5 ⟨xs, A2, c2, rfl, hxs, hxr, hM⟩
        ((with_reducible (refine mop_c ?_ ?_)); (focus omega))
        exact ⟨⟨i + 1, xs, A2, c2, rfl, by simp, by omega, hxs, hxr, hM⟩, by simp; omega⟩
    · intro hge
      ((with_reducible (refine mif_false ?_)))
      obtain ⟨H1, hl1, hM2, hsx, _⟩ := (hM.up A1).fz0
      replace hM := hM2
      clear hM2
      refine ⟨fun x w' => x = .bool false ∧ hM.now w', ?_, ?_⟩
      · ((with_reducible (refine mop_c trivial ?_; refine mop_c ?_ ?_)); (focus omega); (with_reducible (refine mop_cF trivial ?_ ?_)); (focus (first | assumption | omega)); (with_reducible (refine mguard_yes ?_; refine mop_c trivial ?_; refine mguard_yes ?_)))
        refine mop_same (len_ok g room xs hM) (by kernel_rfl) ?_
        ((with_reducible (refine mguard_yes ?_; refine mop_c trivial ?_; refine mguard_yes ?_; refine mop_c trivial ?_; refine mguard_yes ?_; refine mop_cF trivial ?_ ?_)); (focus (first | assumption | omega)); (with_reducible (refine mop_c trivial ?_)))
        exact ⟨rfl, hM⟩
      rintro x u w5 ⟨rfl, hM⟩
      ((with_reducible (refine mif_false ?_)))
      refine ⟨fun x y w' => ∃ (i n : Nat) (H' : Hp), x = .int .i64 n ∧ y = .int .i64 i ∧ i ≤ xs.length ∧ n + (leftOf xs i).length = xs.length ∧ Le w H H' ∧ ISl H' A1 xs ∧ Mem H' w [holdR g room (leftOf xs i)] w',
        fun _ y _ => match y with | .int _ i => xs.length - i.toNat | _ => 0, ⟨0, 0, H1, rfl, rfl, by omega, by simp [leftOf_zero], hl1, hsx, by simpa [leftOf_zero] using hM⟩, ?_⟩
      clear hM
      rintro x y u w6 ⟨i, n, H2, rfl, rfl, hi, hn, hl2, hs2, hM⟩
      have hll : (leftOf xs i).length ≤ xs.length := List.length_filter_le _ _
      ((with_reducible (refine mop_c trivial ?_)))
      ((with_reducible (refine mop_cS trivial ?_ ?_)))
      · intro hlt
        have hlt' : i < xs.length := by omega
        ((with_reducible (refine mif_true ?_)); (with_reducible refine mm_ixs ‹_› ?_ ?_ ?_); (focus (simp only [List.length_map]; omega)); (focus (simp only [List.length_map]; first | done | omega)); (with_reducible (intro _ _ hA)); (cases hA); (with_reducible (refine mop_c trivial ?_)); (with_reducible refine mm_lds hM ‹_› (map_atI ?_) ?_); (focus omega))
        refine mm_own (take_ok g room (leftOf xs i) xs[i].wait (by omega) hM) ?_
        rintro v w7 ⟨H3, A3, c3, rfl, hl3, hs3, hM⟩
        have ho := leftOf_out xs i hlt'
        have hsum := filter_parts (fun y => decide (y.wait = xs[i].wait)) (leftOf xs i)
        rw [leftOf_succ xs i hlt'] at hM hsum
        generalize (leftOf xs i).filter (fun y => decide (y.wait = xs[i].wait)) = out at ho hsum hs3 ⊢
        refine mm_call hM (plain_ok A3 c3 _ _ rfl (by omega) hs3 hM.fz) ?_
        rintro H4 v w8 hl4 hM ⟨A4, c4, n4, rfl, rfl, hs4⟩
        have hs5 := hs2.mono (hl3.trans hl4).le
        refine ⟨fun x y w' => ∃ (j k : Nat), x = .int .i64 k ∧ y = .int .i64 j ∧ i ≤ j ∧ j ≤ xs.length ∧ (out = [] → j = i ∧ k = 0) ∧ (out ≠ [] → k = seen (fun y => decide (y.wait = xs[i].wait)) xs i j) ∧ hM.now w',
          fun _ y _ => match y with | .int _ i => xs.length - i.toNat | _ => 0, ⟨i, 0, rfl, rfl, by omega, by omega, (fun _ => ⟨rfl, rfl⟩), (fun _ => (seen_same _ _ _).symm), hM⟩, ?_⟩
        rintro x y u w9 ⟨j, k, rfl, rfl, hij, hj, he, hne, hM⟩
        have hol : out.length ≤ xs.length := by omega
        refine ⟨fun w' => j < xs.length ∧ out ≠ [] ∧ hM.now w', ?_, ?_⟩
        · ((with_reducible (refine mop_c trivial ?_)))
          ((with_reducible (refine mop_cS trivial ?_ ?_)))
          · intro hjl
            ((with_reducible (refine mguard_yes ?_; refine mop_c trivial ?_; refine mguard_yes ?_; refine mop_c trivial ?_; refine mguard_yes ?_)))
            ((with_reducible (refine mop_cS trivial ?_ ?_)))
            · intro h0
              ((with_reducible (refine mop_c trivial ?_; refine mif_true ?_)))
              exact ⟨by omega, by rintro rfl; simp at h0, hM⟩
            · intro h0
              have h00 : out = [] := List.eq_nil_of_length_eq_zero (by omega)
              obtain ⟨_, hk⟩ := he h00
              subst hk
              subst h00
              ((with_reducible (refine mop_c trivial ?_; refine mif_false ?_; refine mop_c trivial ?_; refine mop_cF trivial ?_ ?_)); (focus (first | assumption | omega)); (with_reducible (refine mif_false ?_; refine mop_c ?_ ?_)); (focus omega); (with_reducible (refine mop_c ?_ ?_)); (focus omega))
              exact ⟨⟨i + 1, n, H4, by simp, by simp, by omega, by simp at hsum; omega, hl2.trans (hl3.trans hl4), hs5, hM⟩, by simp; omega⟩
          · intro hjl
            have hjl : j = xs.length := by omega
            subst hjl
            have h1 : out ≠ [] := by rintro rfl; have := (he rfl).1; omega
            have hk := hne h1
            rw [seen_all] at hk
            have hol2 : k = out.length := by
              rcases ho with h | h
              · exact absurd h h1
              · rw [h]; exact hk
            subst hol2
            ((with_reducible ((iterate 3 refine mguard_n2 ?_); refine mop_c trivial ?_; refine mif_false ?_; refine mop_c trivial ?_; refine mop_cF trivial ?_ ?_)); (focus (first | assumption | omega)); (with_reducible (refine mif_false ?_; refine mop_c ?_ ?_)); (focus omega); (with_reducible (refine mop_c ?_ ?_)); (focus omega))
            exact ⟨⟨i + 1, n + out.length, H4, by simp, by simp, by omega, by omega, hl2.trans (hl3.trans hl4), hs5, hM⟩, by simp; omega⟩
        · rintro u w10 ⟨hjl, h1, hM⟩
          have hk := hne h1
          have hout := ho.resolve_left h1
          have hss := seen_succ (fun y => decide (y.wait = xs[i].wait)) xs i j hij hjl
          refine ⟨fun x w' => ∃ k : Nat, x = .int .i64 k ∧ k = seen (fun y => decide (y.wait = xs[i].wait)) xs i (j + 1) ∧ hM.now w', ?_, ?_⟩
          · ((with_reducible refine dp_ixs ‹_› ?_ ?_ ?_); (focus (simp only [List.length_map]; omega)); (focus (simp only [List.length_map]; first | done | omega)); (with_reducible (intro _ _ hA)); (cases hA); (with_reducible (refine dp_c trivial ?_)); (with_reducible refine dm_lds hM ‹_› (map_atI ?_) ?_); (focus omega); (with_reducible refine dp_ixs ‹_› ?_ ?_ ?_); (focus (simp only [List.length_map]; omega)); (focus (simp only [List.length_map]; first | done | omega)); (with_reducible (intro _ _ hA)); (cases hA); (with_reducible (refine dp_c trivial ?_)); (with_reducible refine dm_lds hM ‹_› (map_atI ?_) ?_); (focus omega))
            ((with_reducible (refine dp_cS trivial ?_ ?_)))
            · intro hw
              obtain ⟨hk1, hk2⟩ := seen_at (fun y => decide (y.wait = xs[i].wait)) xs i j hij hjl (by simp [hw])
              have hk3 : k < out.length := by rw [hout, hk]; exact hk1
              have hk4 : out[k] = xs[j] := by
                subst hk
                simp only [hout]
                exact hk2
              ((with_reducible (refine mm_end hM (fun _ hM2 => ?_); replace hM := hM2; clear hM2; refine mif_true ?_)))
              refine ⟨fun x w' => x = .bool false ∧ hM.now w', ?_, ?_⟩
              · ((with_reducible (refine dp_c trivial ?_; refine dp_cF trivial ?_ ?_)); (focus (first | assumption | omega)); (with_reducible (refine qguard_yes ?_; refine dp_c trivial ?_; refine qguard_yes ?_; refine dp_c trivial ?_; refine qguard_yes ?_)); (with_reducible refine dp_ixs ‹_› ?_ ?_ ?_); (focus (simp only [List.length_map]; omega)); (focus (simp only [List.length_map]; first | done | omega)); (with_reducible (intro _ _ hA)); (cases hA); (with_reducible (refine qguard_yes ?_)); (with_reducible refine dm_lds0 hM ‹_› (map_atI ?_) ?_); (focus omega); (with_reducible (refine qguard_yes ?_; refine dp_c trivial ?_; refine qguard_yes ?_; refine dp_c trivial ?_; refine qguard_yes ?_)); (with_reducible refine dp_ixs ‹_› ?_ ?_ ?_); (focus (simp only [List.length_map]; omega)); (focus (simp only [List.length_map]; first | done | omega)); (with_reducible (intro _ _ hA)); (cases hA); (with_reducible (refine qguard_yes ?_)); (with_reducible refine dm_lds0 hM ‹_› (map_atI ?_) ?_); (focus omega); (with_reducible (refine qguard_yes ?_)))
                refine dp_cF trivial (by rw [hk4]; simp) ?_
                ((with_reducible (refine dp_c trivial ?_; refine mm_end hM (fun _ hM2 => ?_); replace hM := hM2; clear hM2)))
                exact ⟨rfl, hM⟩
              · rintro x u w11 ⟨rfl, hM⟩
                ((with_reducible (refine mif_false ?_; refine mop_c ?_ ?_)); (focus omega))
                exact ⟨k + 1, by simp, by rw [hss, if_pos (by simp [hw])]; omega, hM⟩
            · intro hw
              ((with_reducible (refine mm_end hM (fun _ hM2 => ?_); replace hM := hM2; clear hM2; refine mif_false ?_)))
              exact ⟨k, rfl, by rw [hss, if_neg (by simpa using hw)]; omega, hM⟩
          · rintro x u w11 ⟨k, rfl, hk, hM⟩
            ((with_reducible (refine mop_c ?_ ?_)); (focus omega))
            exact ⟨⟨j + 1, k, rfl, by simp, by omega, by omega, fun h => absurd h h1, fun _ => hk, hM⟩, by simp; omega⟩
      · intro hge
        have : i = xs.length := by omega
        subst this
        rw [leftOf_all] at hM hn
        simp only [List.length_nil] at hn
        ((with_reducible (refine mif_false ?_; refine mop_c trivial ?_; refine mop_cT trivial ?_ ?_)); (focus (first | assumption | omega)); (with_reducible (refine mguard_yes ?_; refine mop_c trivial ?_; refine mguard_yes ?_)))
        refine mop_same (len_ok g room [] hM) (by kernel_rfl) ?_
        ((with_reducible (refine mguard_yes ?_)))
        exact ⟨rfl, hM.st⟩
end
end Go.Proofs.Ythnjpglpglbbkaa
