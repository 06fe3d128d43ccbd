/- Dock: the example, DockOrders. -/
import Derived.Test.YtihelggfpeokbaaDock1
namespace Go.Proofs.Ytihelggfpeokbaa
open Go.RowKit

abbrev i64s (l : List Int) : List (List Fd) := l.map fun z => [.one (.int .i64 z)]
abbrev bools (l : List Bool) : List (List Fd) := l.map fun z => [.one (.bool z)]
theorem isnoc (l : List Int) (x : Int) : i64s l ++ [[.one (.int .i64 x)]] = i64s (l ++ [x]) := by simp
section
variable {H : Hp} {w0 w : World} {L R : List Res} {g : Nat} {b : Bx}
theorem awake_ok (hf : Fz H w) : Calls Try.prog 6 #[] w fun en w' => en = .returned (.bool true) ∧ St w [] w' := by
  have hM := Mem.start hf
  refine C_bevylaw18_awake ?_
  unfold F_bevylaw18_awake
  refine mm_own (new_ok 1 (by omega) hM) ?_
  rintro v w1 ⟨g, rfl, hM⟩
  ((with_reducible (refine mop_c trivial ?_; refine mop_c trivial ?_)))
  refine mm_own (post_ok 5 (by simp) hM) ?_
  rintro v w2 ⟨rfl, hM⟩
  refine mm_own (post_ok 6 (by simp [bpost]) hM) ?_
  rintro v w3 ⟨rfl, hM⟩
  refine mm_own (take_ok hM) ?_
  rintro v w4 ⟨rfl, hM⟩
  simp only [bpost, Int.toNat_one, List.length_nil, List.nil_append, Bool.false_eq_true, if_false, Nat.lt_irrefl, List.length_cons, if_pos Nat.zero_lt_one, Nat.zero_add] at hM ⊢
  ((with_reducible (refine mop_c trivial ?_; refine mop_c trivial ?_; refine mop_cT trivial ?_ ?_)); (focus (first | assumption | omega | with_reducible rfl | exact fun h => Bool.noConfusion h)); (with_reducible (refine mguard_yes ?_; refine mop_c trivial ?_; refine mguard_yes ?_; refine mop_cT trivial ?_ ?_)); (focus (first | assumption | omega | with_reducible rfl | exact fun h => Bool.noConfusion h)); (with_reducible (refine mop_c trivial ?_; refine mguard_yes ?_; refine mop_c trivial ?_; refine mguard_yes ?_; refine mop_cT trivial ?_ ?_)); (focus (first | assumption | omega | with_reducible rfl | exact fun h => Bool.noConfusion h)); (with_reducible (refine mop_c trivial ?_; refine mguard_yes ?_; refine mop_c trivial ?_; refine mguard_yes ?_)))
  refine mm_same (lost_ok hM) ?_
  ((with_reducible (refine mguard_yes ?_)))
  simp only [List.headD_cons, List.isEmpty_cons, Bool.not_false]
  ((with_reducible (refine mop_cT trivial ?_ ?_)); (focus (first | assumption | omega | with_reducible rfl | exact fun h => Bool.noConfusion h)); (with_reducible (refine mop_c trivial ?_; refine mguard_yes ?_; refine mop_c trivial ?_; refine mop_c trivial ?_; refine mguard_yes ?_; refine mop_c trivial ?_; refine mguard_yes ?_; refine mop_cT trivial ?_ ?_)); (focus (first | assumption | omega | with_reducible rfl | exact fun h => Bool.noConfusion h)); (with_reducible (refine mop_c trivial ?_)))
  exact ⟨rfl, hM.st⟩
theorem dockOrders_ok (room : Int) (hr : 0 ≤ room ∧ room < 256) (A1 : Option Addr) (c1 : Nat) (ts : List Int) (hs1 : Sl H 1 A1 (i64s ts)) (A2 : Option Addr) (c2 : Nat) (bs : List Bool) (hs2 : Sl H 1 A2 (bools bs)) (hf : Fz H w) :
    Calls Try.prog 3 #[.int .u8 room, .slice A1 ts.length c1, .slice A2 bs.length c2] w fun en w' => en = .returned (.bool true) ∧ St w [] w' := by
  have hM := Mem.start hf
  refine C_bevylaw18_DockOrders ?_
  unfold F_bevylaw18_DockOrders
  refine ⟨fun x w' => ∃ b : Bool, x = .bool b ∧ (b = false → ts.length ≤ 500 ∧ bs.length ≤ 500) ∧ hM.now w', ?_, ?_⟩
  · refine mm_pure hM (awake_ok hM.fz) (fun w1 hM => ?_)
    ((with_reducible (refine mop_c trivial ?_; refine mguard_yes ?_; refine mop_c trivial ?_; refine mguard_yes ?_; refine mop_c trivial ?_; refine mguard_yes ?_)))
    ((with_reducible (refine mop_cS trivial ?_ ?_)))
    · intro h
      ((with_reducible (refine mop_c trivial ?_; (iterate 3 refine mguard_n1 ?_); refine mop_c trivial ?_)))
      exact ⟨_, rfl, by simp, hM⟩
    · intro h
      ((with_reducible (refine mop_c trivial ?_; refine mguard_yes ?_; refine mop_c trivial ?_; refine mguard_yes ?_; refine mop_c trivial ?_; refine mguard_yes ?_)))
      ((with_reducible (refine mop_cS trivial ?_ ?_))) <;>
      · intro h
        ((with_reducible (refine mop_c trivial ?_)))
        exact ⟨_, rfl, by simp; try omega, hM⟩
  rintro x u w2 ⟨c, rfl, hb, hM⟩
  cases c with
  | true =>
    ((with_reducible (refine mif_true ?_)))
    refine mm_pure hM (awake_ok hM.fz) (fun w1 hM => ?_)
    exact ⟨rfl, hM.st⟩
  | false =>
    obtain ⟨hb1, hb2⟩ := hb rfl
    ((with_reducible (refine mif_false ?_; refine mop_c ?_ ?_)); (focus omega); (with_reducible (refine mop_c ?_ ?_)); (focus omega))
    refine mm_own (new_ok (1 + room) (by omega) hM) ?_
    rintro v w3 ⟨g, rfl, hM⟩
    ((with_reducible (refine mop_c trivial ?_; refine mop_c trivial ?_)))
    refine ⟨fun x y z i w' => ∃ (In Out : List Int) (b : Bx) (k : Nat) (A3 : Option Addr) (c3 : Nat) (A4 : Option Addr) (c4 : Nat), x = .slice A3 In.length c3 ∧ y = .slice A4 Out.length c4 ∧ z = .int .i64 b.lost ∧ i = .int .i64 k ∧ k ≤ ts.length ∧ In.length ≤ k ∧ b.lost ≤ k ∧ b.cl = false ∧ Out ++ b.xs = In ∧
        Mem H w [rowR 3 1 A3 In.length c3 (i64s In), rowR 3 1 A4 Out.length c4 (i64s Out), boxR g b] w', fun _ _ _ i _ => match i with | .int _ i => ts.length - i.toNat | _ => 0,
      ⟨[], [], _, 0, none, 0, none, 0, rfl, rfl, rfl, rfl, by omega, by simp, by simp, rfl, rfl, (hM.row0 3 1).row0 3 1⟩, ?_⟩
    clear hM
    rintro x y z i u w4 ⟨In, Out, b, k, A3, c3, A4, c4, rfl, rfl, rfl, rfl, hk, hIn, hlo, hcl, hio, hM⟩
    have hol : Out.length ≤ In.length := by rw [← hio]; simp
    ((with_reducible (refine mop_c trivial ?_)))
    ((with_reducible (refine mop_cS trivial ?_ ?_)))
    · intro hlt
      have hlt' : k < ts.length := by omega
      ((with_reducible (refine mif_true ?_)))
      refine ⟨fun x y z w' => ∃ (In Out : List Int) (b : Bx) (A3 : Option Addr) (c3 : Nat) (A4 : Option Addr) (c4 : Nat), x = .slice A3 In.length c3 ∧ y = .slice A4 Out.length c4 ∧ z = .int .i64 b.lost ∧ In.length ≤ k + 1 ∧ b.lost ≤ k + 1 ∧ b.cl = false ∧ Out ++ b.xs = In ∧
        Mem H w [rowR 3 1 A3 In.length c3 (i64s In), rowR 3 1 A4 Out.length c4 (i64s Out), boxR g b] w', ?_, ?_⟩
      · refine ⟨fun x z w' => ∃ (In : List Int) (b : Bx) (A3 : Option Addr) (c3 : Nat), x = .slice A3 In.length c3 ∧ z = .int .i64 b.lost ∧ In.length ≤ k + 1 ∧ b.lost ≤ k + 1 ∧ b.cl = false ∧ Out ++ b.xs = In ∧
          Mem H w [rowR 3 1 A3 In.length c3 (i64s In), rowR 3 1 A4 Out.length c4 (i64s Out), boxR g b] w', ?_, ?_⟩
        · ((with_reducible refine mm_ixs ‹_› ?_ ?_ ?_); (focus (simp only [List.length_map]; omega)); (focus (simp only [List.length_map]; first | done | omega)); (with_reducible (intro _ _ hA)); (cases hA); (with_reducible refine mm_lds0 hM ‹_› (map_atI ?_) ?_); (focus omega))
          refine mm_own (post_ok ts[k] (by omega) (hM.at_ (boxR g b))) ?_
          rintro v w5 ⟨rfl, hM⟩
          unfold bpost at hM ⊢
          rw [hcl] at hM ⊢
          rw [if_neg (by simp)] at hM ⊢
          by_cases hroom : b.xs.length < b.room
          · rw [if_pos hroom] at hM ⊢
            ((with_reducible (refine mop_cT trivial ?_ ?_)); (focus (first | assumption | omega | with_reducible rfl | exact fun h => Bool.noConfusion h)); (with_reducible (refine mif_true ?_)); (with_reducible refine mm_ixs ‹_› ?_ ?_ ?_); (focus (simp only [List.length_map]; omega)); (focus (simp only [List.length_map]; first | done | omega)); (with_reducible (intro _ _ hA)); (cases hA); (with_reducible refine mm_lds0 hM ‹_› (map_atI ?_) ?_); (focus omega); (with_reducible (refine mm_bsl hM ?_ ?_ ?_)); (focus rfl); (focus (constructor <;> simp)); (with_reducible (clear hM; intro _ _ hM; refine mm_appo hM ?_ ?_)); (focus omega); (with_reducible (clear hM; intro _ _ _ hM)))
            rename_i A5 c5 _
            rw [isnoc] at hM
            exact ⟨In ++ [ts[k]], { b with xs := b.xs ++ [ts[k]] }, A5, c5, by simp, rfl, by simp; omega, by simp only []; omega, hcl, by rw [← hio]; simp, by simpa [hcl] using (hM.sub : Mem H w [rowR 3 1 A5 (In.length + 1) c5 (i64s (In ++ [ts[k]])), rowR 3 1 A4 Out.length c4 (i64s Out), boxR g { b with xs := b.xs ++ [ts[k]], cl := false }] _)⟩
          · rw [if_neg hroom] at hM ⊢
            ((with_reducible (refine mop_cF trivial ?_ ?_)); (focus (first | assumption | omega | with_reducible rfl | exact fun h => Bool.noConfusion h)); (with_reducible (refine mif_false ?_; refine mop_c ?_ ?_)); (focus omega))
            exact ⟨In, { b with lost := b.lost + 1 }, A3, c3, rfl, by simp, by omega, by simp; omega, hcl, hio, by simpa [hcl] using (hM.sub : Mem H w [rowR 3 1 A3 In.length c3 (i64s In), rowR 3 1 A4 Out.length c4 (i64s Out), boxR g { b with lost := b.lost + 1, cl := false }] _)⟩
        · rintro x z u w5 ⟨In, b, A3, c3, rfl, rfl, hIn, hlo, hcl, hio, hM⟩
          have hol : Out.length ≤ In.length := by rw [← hio]; simp
          refine ⟨fun x w' => ∃ c : Bool, x = .bool c ∧ hM.now w', ?_, ?_⟩
          · ((with_reducible (refine mop_c trivial ?_)))
            ((with_reducible (refine mop_cS trivial ?_ ?_)))
            · intro h
              have h' : k < bs.length := by omega
              ((with_reducible (refine mguard_yes ?_; refine mop_c trivial ?_; refine mguard_yes ?_; refine mop_c trivial ?_; refine mguard_yes ?_)); (with_reducible refine mm_ixs ‹_› ?_ ?_ ?_); (focus (simp only [List.length_map]; omega)); (focus (simp only [List.length_map]; first | done | omega)); (with_reducible (intro _ _ hA)); (cases hA); (with_reducible (refine mguard_yes ?_)); (with_reducible refine mm_lds0 hM ‹_› (map_atI ?_) ?_); (focus omega); (with_reducible (refine mop_c trivial ?_)))
              exact ⟨_, rfl, hM⟩
            · intro h
              ((with_reducible ((iterate 4 refine mguard_n2 ?_); refine mop_c trivial ?_)))
              exact ⟨_, rfl, hM⟩
          rintro x u w6 ⟨c, rfl, hM⟩
          cases c
          · ((with_reducible (refine mif_false ?_)))
            exact ⟨In, Out, b, A3, c3, A4, c4, rfl, rfl, rfl, hIn, hlo, hcl, hio, hM⟩
          · ((with_reducible (refine mif_true ?_)))
            refine mm_own (take_ok (hM.at_ (boxR g b))) ?_
            rintro v w7 ⟨rfl, hM⟩
            ((with_reducible (refine mop_c trivial ?_; refine mop_c trivial ?_)))
            cases hx : b.xs with
            | nil =>
              rw [hx] at hM hio
              simp only [List.isEmpty_nil, Bool.not_true]
              ((with_reducible (refine mif_false ?_)))
              exact ⟨In, Out, { b with xs := [] }, A3, c3, A4, c4, rfl, rfl, rfl, hIn, hlo, hcl, hio, (hM.sub : Mem H w [rowR 3 1 A3 In.length c3 (i64s In), rowR 3 1 A4 Out.length c4 (i64s Out), boxR g { b with xs := ([] : List Int).tail }] _)⟩
            | cons q rest =>
              rw [hx] at hM hio
              simp only [List.isEmpty_cons, Bool.not_false, List.headD_cons]
              ((with_reducible (refine mif_true ?_; refine mm_bsl hM ?_ ?_ ?_)); (focus rfl); (focus (constructor <;> simp)); (with_reducible (clear hM; intro _ _ hM; refine mm_appo hM ?_ ?_)); (focus omega); (with_reducible (clear hM; intro _ _ _ hM)))
              rename_i A5 c5 _
              rw [isnoc] at hM
              exact ⟨In, Out ++ [q], { b with xs := rest }, A3, c3, A5, c5, rfl, by simp, rfl, hIn, hlo, hcl, by rw [← hio]; simp, by simpa using (hM.sub : Mem H w [rowR 3 1 A3 In.length c3 (i64s In), rowR 3 1 A5 (Out.length + 1) c5 (i64s (Out ++ [q])), boxR g { b with xs := (q :: rest).tail }] _)⟩
      · rintro x y z u w5 ⟨In, Out, b, A3, c3, A4, c4, rfl, rfl, rfl, hIn, hlo, hcl, hio, hM⟩
        ((with_reducible (refine mop_c ?_ ?_)); (focus omega))
        exact ⟨⟨In, Out, b, k + 1, A3, c3, A4, c4, rfl, rfl, rfl, by simp, by omega, hIn, hlo, hcl, hio, hM⟩, by simp; omega⟩
    · intro hge
      ((with_reducible (refine mif_false ?_)))
      refine mm_own (close_ok (hM.at_ (boxR g b))) ?_
      rintro v w5 ⟨rfl, hM⟩
      refine mm_own (take_ok hM) ?_
      rintro v w6 ⟨rfl, hM⟩
      ((with_reducible (refine mop_c trivial ?_; refine mop_c trivial ?_)))
      refine ⟨fun x y z w' => ∃ (Out : List Int) (q : Int) (c : Bool) (xs : List Int) (A4 : Option Addr) (c4 : Nat), x = .slice A4 Out.length c4 ∧ y = .int .i64 q ∧ z = .bool c ∧ (c = true → Out ++ q :: xs = In) ∧ (c = false → xs = [] ∧ Out = In) ∧
        Mem H w [boxR g { b with xs := xs, cl := true }, rowR 3 1 A3 In.length c3 (i64s In), rowR 3 1 A4 Out.length c4 (i64s Out)] w', fun x _ z _ => match x, z with | .slice _ n _, .bool true => 1000 - n | _, _ => 0,
        ⟨Out, _, _, b.xs.tail, A4, c4, rfl, rfl, rfl, ?_, ?_, hM⟩, ?_⟩
      · intro h
        cases hx : b.xs with
        | nil => rw [hx] at h; simp at h
        | cons q rest => rw [hx] at hio; simpa using hio
      · intro h
        cases hx : b.xs with
        | nil => rw [hx] at hio; simpa using hio
        | cons q rest => rw [hx] at h; simp at h
      clear hM
      rintro x y z u w7 ⟨Out, q, c, xs, A4, c4, rfl, rfl, rfl, h1, h2, hM⟩
      cases c with
      | true =>
        have h1 := h1 rfl
        have hol : Out.length < In.length := by rw [← h1]; simp
        ((with_reducible (refine mif_true ?_; refine mm_bsl hM ?_ ?_ ?_)); (focus rfl); (focus (constructor <;> simp)); (with_reducible (clear hM; intro _ _ hM; refine mm_appo hM ?_ ?_)); (focus omega); (with_reducible (clear hM; intro _ _ _ hM)))
        rename_i A5 c5 _
        rw [isnoc] at hM
        refine mm_own (take_ok (hM.at_ (boxR g { b with xs := xs, cl := true }))) ?_
        rintro v w8 ⟨rfl, hM⟩
        ((with_reducible (refine mop_c trivial ?_; refine mop_c trivial ?_)))
        refine ⟨⟨Out ++ [q], _, _, xs.tail, A5, c5, by simp, rfl, rfl, ?_, ?_, ?_⟩, ?_⟩
        · intro h
          cases hx : xs with
          | nil => rw [hx] at h; simp at h
          | cons q2 rest => rw [hx] at h1; simpa using h1
        · intro h
          cases hx : xs with
          | nil => rw [hx] at h1; simpa using h1
          | cons q2 rest => rw [hx] at h; simp at h
        · simpa using (hM.sub : Mem H w [boxR g { b with xs := xs.tail, cl := true }, rowR 3 1 A3 In.length c3 (i64s In), rowR 3 1 A5 (Out.length + 1) c5 (i64s (Out ++ [q]))] _)
        · cases hx : xs <;> simp <;> omega
      | false =>
        obtain ⟨rfl, rfl⟩ := h2 rfl
        ((with_reducible (refine mif_false ?_)))
        refine ⟨fun x w' => x = .bool false ∧ hM.now w', ?_, ?_⟩
        · ((with_reducible (refine mop_c trivial ?_; refine mop_c trivial ?_; refine mop_cF trivial ?_ ?_)); (focus (first | assumption | omega | with_reducible rfl | exact fun h => Bool.noConfusion h)); (with_reducible (refine mguard_yes ?_; refine mop_c trivial ?_; refine mguard_yes ?_)))
          refine mm_same (lost_ok (hM.at_ (boxR g { b with xs := [], cl := true }))) ?_
          ((with_reducible (refine mguard_yes ?_; refine mop_c trivial ?_; refine mguard_yes ?_)))
          exact ⟨by simp, hM⟩
        rintro x u w8 ⟨rfl, hM⟩
        ((with_reducible (refine mif_false ?_)))
        refine ⟨fun y w' => ∃ j : Nat, y = .int .i64 j ∧ j ≤ Out.length ∧ hM.now w', fun y _ => match y with | .int _ i => Out.length - i.toNat | _ => 0, ⟨0, rfl, by omega, hM⟩, ?_⟩
        rintro y u w9 ⟨j, rfl, hj, hM⟩
        ((with_reducible (refine mop_c trivial ?_)))
        ((with_reducible (refine mop_cS trivial ?_ ?_)))
        · intro hlj
          have hlj' : j < Out.length := by omega
          ((with_reducible (refine mif_true ?_; refine dp_ixr hM ?_ ?_)); (focus omega); (with_reducible (intro _ hA)); (cases hA); (with_reducible (refine dm_ldr0 hM (map_atI ?_) ?_)); (focus omega); (with_reducible (refine dp_ixr hM ?_ ?_)); (focus omega); (with_reducible (intro _ hA)); (cases hA); (with_reducible (refine dm_ldr0 hM (map_atI ?_) ?_)); (focus omega); (with_reducible (refine dp_cF trivial ?_ ?_)); (focus (first | assumption | omega | with_reducible rfl | exact fun h => Bool.noConfusion h)); (with_reducible (refine mm_end hM ?_; clear hM; intro _ hM; refine mif_false ?_; refine mop_c ?_ ?_)); (focus omega))
          exact ⟨⟨j + 1, by simp, by omega, hM⟩, by simp; omega⟩
        · intro hgj
          ((with_reducible (refine mif_false ?_)))
          refine mm_own (post_ok 1 (by simp only []; omega) (hM.at_ (boxR g { b with xs := [], cl := true }))) ?_
          rintro v w8 ⟨rfl, hM⟩
          unfold bpost at hM ⊢
          rw [if_pos rfl] at hM ⊢
          ((with_reducible (refine mop_cT trivial ?_ ?_)); (focus (first | assumption | omega | with_reducible rfl | exact fun h => Bool.noConfusion h)))
          exact ⟨rfl, hM.st⟩
end
end Go.Proofs.Ytihelggfpeokbaa
