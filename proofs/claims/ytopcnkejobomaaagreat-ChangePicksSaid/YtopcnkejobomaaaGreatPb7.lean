/- ChangePicks holds for every input. (The end of the proof.) -/
import Derived.Test.YtopcnkejobomaaaGreatPb6
import Derived.Test.YtopcnkejobomaaaGreatRows
import Derived.Carry
set_option linter.unusedVariables false
namespace Go.Proofs.YtopcnkejobomaaaGreat
open Go.RowKit
structure SW {α : Type} (lt : α → α → Bool) : Prop where
  irr : ∀ x, lt x x = false
  tra : ∀ x y z, lt x y = true → lt y z = true → lt x z = true
  neg : ∀ x y z, lt x y = false → lt y z = false → lt x z = false
section
variable {α : Type} {lt : α → α → Bool}
theorem SW.asy (h : SW lt) {x y : α} (k : lt x y = true) : lt y x = false := by
  cases hc : lt y x
  · rfl
  · have := h.tra x y x k hc
    rw [h.irr] at this
    cases this
def tl (lt : α → α → Bool) (p q : α × Nat) : Prop := lt p.1 q.1 = true ∨ (lt q.1 p.1 = false ∧ p.2 < q.2)
theorem SW.tlt (h : SW lt) {p q r : α × Nat} (a : tl lt p q) (b : tl lt q r) : tl lt p r := by
  rcases a with a | ⟨a, a2⟩ <;> rcases b with b | ⟨b, b2⟩
  · exact .inl (h.tra _ _ _ a b)
  · refine .inl ?_
    cases hc : lt p.1 r.1
    · rw [h.neg _ _ _ hc b] at a
      cases a
    · rfl
  · refine .inl ?_
    cases hc : lt p.1 r.1
    · rw [h.neg _ _ _ a hc] at b
      cases b
    · rfl
  · exact .inr ⟨h.neg _ _ _ b a, by omega⟩
theorem SW.tla (h : SW lt) {p q : α × Nat} (a : tl lt p q) (b : tl lt q p) : False := by
  rcases a with a | ⟨a, a2⟩ <;> rcases b with b | ⟨b, b2⟩
  · have := h.asy a
    rw [this] at b
    cases b
  · rw [b] at a
    cases a
  · rw [a] at b
    cases b
  · omega
theorem tl_of (p q : α × Nat) (h : lt q.1 p.1 = false) (ht : p.2 < q.2) : tl lt p q := .inr ⟨h, ht⟩
def insB (lt : α → α → Bool) (x : α) : List α → List α
  | [] => [x]
  | y :: r => if lt x y then x :: y :: r else y :: insB lt x r
def srtB (lt : α → α → Bool) (l : List α) : List α := l.foldl (fun acc x => insB lt x acc) []
abbrev ltT (lt : α → α → Bool) : α × Nat → α × Nat → Bool := fun p q => lt p.1 q.1
theorem insT_fst (x : α × Nat) : ∀ T : List (α × Nat), (insB (ltT lt) x T).map (·.1) = insB lt x.1 (T.map (·.1))
  | [] => rfl
  | y :: r => by
    simp only [insB, List.map_cons]
    split <;> simp [insT_fst x r]
theorem insB_perm (x : α) : ∀ T : List α, (insB lt x T).Perm (x :: T)
  | [] => .refl _
  | y :: r => by
    simp only [insB]
    split
    · exact .refl _
    · exact ((insB_perm x r).cons y).trans (.swap ..)
theorem insT_pw (h : SW lt) {x : α × Nat} : ∀ {T : List (α × Nat)}, T.Pairwise (tl lt) → (∀ y ∈ T, y.2 < x.2) → (insB (ltT lt) x T).Pairwise (tl lt)
  | [], _, _ => by simp [insB]
  | y :: r, hp, ht => by
    obtain ⟨h1, h2⟩ := List.pairwise_cons.1 hp
    simp only [insB]
    split
    · rename_i hc
      refine List.pairwise_cons.2 ⟨fun z hz => ?_, hp⟩
      rcases List.mem_cons.1 hz with rfl | hz
      · exact .inl hc
      · exact h.tlt (.inl hc) (h1 z hz)
    · rename_i hc
      refine List.pairwise_cons.2 ⟨fun z hz => ?_, insT_pw h h2 fun z hz => ht z (List.mem_cons_of_mem _ hz)⟩
      rcases List.mem_cons.1 ((insB_perm x r).mem_iff.1 hz) with rfl | hz
      · exact tl_of _ _ (by simpa using hc) (ht y (List.mem_cons_self ..))
      · exact h1 z hz
theorem foldT (h : SW lt) : ∀ (P acc : List (α × Nat)), acc.Pairwise (tl lt) → P.Pairwise (fun p q => p.2 < q.2) → (∀ y ∈ acc, ∀ p ∈ P, y.2 < p.2) →
    (P.foldl (fun a x => insB (ltT lt) x a) acc).Pairwise (tl lt) ∧ (P.foldl (fun a x => insB (ltT lt) x a) acc).Perm (acc ++ P) ∧ (P.foldl (fun a x => insB (ltT lt) x a) acc).map (·.1) = (P.map (·.1)).foldl (fun a x => insB lt x a) (acc.map (·.1))
  | [], acc, ha, _, _ => ⟨ha, by simp, rfl⟩
  | p :: r, acc, ha, hp, ht => by
    obtain ⟨h1, h2⟩ := List.pairwise_cons.1 hp
    have hperm := insB_perm (lt := ltT lt) p acc
    obtain ⟨k1, k2, k3⟩ := foldT h r (insB (ltT lt) p acc) (insT_pw h ha fun y hy => ht y hy p (List.mem_cons_self ..)) h2 (fun y hy q hq => by
      rcases List.mem_cons.1 (hperm.mem_iff.1 hy) with rfl | hy
      · exact h1 q hq
      · exact ht y hy q (List.mem_cons_of_mem _ hq))
    refine ⟨k1, ?_, ?_⟩
    · exact k2.trans ((hperm.append_right r).trans (List.perm_middle.symm))
    · rw [List.foldl_cons, k3, List.map_cons, List.foldl_cons, insT_fst]
theorem srt_eq (h : SW lt) {l : List α} {T : List (α × Nat)} (hp : T.Perm l.zipIdx) (hs : T.Pairwise (tl lt)) : T.map (·.1) = srtB lt l := by
  have ht : (l.zipIdx).Pairwise (fun p q => p.2 < q.2) := by
    have h2 : (l.zipIdx.map (·.2)).Pairwise (· < ·) := by
      rw [List.zipIdx_map_snd]
      exact List.pairwise_lt_range'
    exact List.pairwise_map.1 h2
  obtain ⟨k1, k2, k3⟩ := foldT h l.zipIdx [] .nil ht (fun _ hy => by cases hy)
  have e : T = (l.zipIdx).foldl (fun a x => insB (ltT lt) x a) [] := by
    refine List.Perm.eq_of_pairwise (fun a b _ _ hab hba => (h.tla hab hba).elim) hs k1 (hp.trans ?_)
    simpa using k2.symm
  rw [e, k3, List.zipIdx_map_fst]
  rfl
def okR (lt : α → α → Bool) (U0 U : List (α × Nat)) : Prop := U.Perm U0 ∧ U.Pairwise (tl lt)
inductive Runs (lt : α → α → Bool) (bs : Nat) : List (α × Nat) → List (α × Nat) → Prop
  | last {U0 U : List (α × Nat)} (h : okR lt U0 U) (hl : U.length ≤ bs) : Runs lt bs U0 U
  | cons {U0 U R0 R : List (α × Nat)} (h : okR lt U0 U) (hl : U.length = bs) (hr : Runs lt bs R0 R) : Runs lt bs (U0 ++ R0) (U ++ R)
inductive RunsF (lt : α → α → Bool) (bs : Nat) : List (α × Nat) → List (α × Nat) → Prop
  | nil : RunsF lt bs [] []
  | snoc {A0 A U0 U : List (α × Nat)} (ha : RunsF lt bs A0 A) (h : okR lt U0 U) (hl : U.length = bs) : RunsF lt bs (A0 ++ U0) (A ++ U)
theorem RunsF.app {bs : Nat} {A0 A : List (α × Nat)} (h : RunsF lt bs A0 A) : ∀ {R0 R : List (α × Nat)}, Runs lt bs R0 R → Runs lt bs (A0 ++ R0) (A ++ R) := by
  induction h with
  | nil => exact fun h => h
  | snoc ha h hl ih =>
    intro R0 R hr
    rw [List.append_assoc, List.append_assoc]
    exact ih (.cons h hl hr)
theorem Runs.len {bs : Nat} {R0 R : List (α × Nat)} (h : Runs lt bs R0 R) : R0.length = R.length := by
  induction h with
  | last h hl => exact h.1.length_eq.symm
  | cons h hl hr ih => rw [List.length_append, List.length_append, ih, h.1.length_eq]
theorem RunsF.len {bs : Nat} {R0 R : List (α × Nat)} (h : RunsF lt bs R0 R) : R0.length = R.length := by
  induction h with
  | nil => rfl
  | snoc ha h hl ih => rw [List.length_append, List.length_append, ih, h.1.length_eq]
theorem Runs.short {bs : Nat} {R0 R : List (α × Nat)} (h : Runs lt bs R0 R) (hl : R.length ≤ bs) : okR lt R0 R := by
  cases h with
  | last h _ => exact h
  | cons h hu hr =>
    rename_i U0 U R0 R
    have hz : R = [] := List.eq_nil_of_length_eq_zero (by rw [List.length_append] at hl; omega)
    have hz0 : R0 = [] := List.eq_nil_of_length_eq_zero (by rw [hr.len, hz]; rfl)
    rw [hz, hz0, List.append_nil, List.append_nil]
    exact h
theorem okR.nil : okR lt ([] : List (α × Nat)) [] := ⟨.refl _, .nil⟩
theorem Runs.first {bs : Nat} {R0 R : List (α × Nat)} (h : Runs lt bs R0 R) (hl : bs ≤ R.length) : ∃ U0 U S0 S, R0 = U0 ++ S0 ∧ R = U ++ S ∧ okR lt U0 U ∧ U.length = bs ∧ Runs lt bs S0 S := by
  cases h with
  | last h hu => exact ⟨R0, R, [], [], by simp, by simp, h, by omega, .last .nil (by simp)⟩
  | cons h hu hr => exact ⟨_, _, _, _, rfl, rfl, h, hu, hr⟩
theorem pw_ins (h : SW lt) {X Y : List (α × Nat)} {x : α × Nat} (hp : (X ++ Y).Pairwise (tl lt)) (hy : ∀ y ∈ Y, tl lt x y) (hx : X = [] ∨ ∃ X' y, X = X' ++ [y] ∧ tl lt y x) : (X ++ x :: Y).Pairwise (tl lt) := by
  obtain ⟨h1, h2, h3⟩ := List.pairwise_append.1 hp
  refine List.pairwise_append.2 ⟨h1, List.pairwise_cons.2 ⟨hy, h2⟩, fun u hu v hv => ?_⟩
  rcases List.mem_cons.1 hv with rfl | hv
  · rcases hx with rfl | ⟨X', y, rfl, hxy⟩
    · cases hu
    · rcases List.mem_append.1 hu with hu | hu
      · exact h.tlt ((List.pairwise_append.1 h1).2.2 u hu y (by simp)) hxy
      · rw [List.mem_singleton.1 hu]
        exact hxy
  · exact h3 u hu v hv
theorem pw_join (h : SW lt) {X Y : List (α × Nat)} (h1 : X.Pairwise (tl lt)) (h2 : Y.Pairwise (tl lt)) (hx : X = [] ∨ Y = [] ∨ ∃ X' x y Y', X = X' ++ [x] ∧ Y = y :: Y' ∧ tl lt x y) : (X ++ Y).Pairwise (tl lt) := by
  refine List.pairwise_append.2 ⟨h1, h2, fun u hu v hv => ?_⟩
  rcases hx with rfl | rfl | ⟨X', x, y, Y', rfl, rfl, hxy⟩
  · cases hu
  · cases hv
  · have a : u = x ∨ tl lt u x := by
      rcases List.mem_append.1 hu with hu | hu
      · exact .inr ((List.pairwise_append.1 h1).2.2 u hu x (by simp))
      · exact .inl (List.mem_singleton.1 hu)
    have b : v = y ∨ tl lt y v := by
      rcases List.mem_cons.1 hv with hv | hv
      · exact .inl hv
      · exact .inr ((List.pairwise_cons.1 h2).1 v hv)
    rcases a with rfl | a <;> rcases b with rfl | b
    · exact hxy
    · exact h.tlt hxy b
    · exact h.tlt a hxy
    · exact h.tlt a (h.tlt hxy b)
theorem pw_cross {X Y : List (α × Nat)} (h : (X ++ Y).Pairwise (tl lt)) : ∀ u ∈ X, ∀ v ∈ Y, tl lt u v := (List.pairwise_append.1 h).2.2
theorem pw_four (h : SW lt) {U1 U2 V1 V2 M1 M2 : List (α × Nat)} (hu : (U1 ++ U2).Pairwise (tl lt)) (hv : (V1 ++ V2).Pairwise (tl lt)) (p1 : M1.Perm (U1 ++ V1)) (p2 : M2.Perm (U2 ++ V2)) (s1 : M1.Pairwise (tl lt)) (s2 : M2.Pairwise (tl lt))
    (c1 : U1 = [] ∨ V2 = [] ∨ ∃ X' x y Y', U1 = X' ++ [x] ∧ V2 = y :: Y' ∧ tl lt x y) (c2 : V1 = [] ∨ U2 = [] ∨ ∃ X' x y Y', V1 = X' ++ [x] ∧ U2 = y :: Y' ∧ tl lt x y) : (M1 ++ M2).Pairwise (tl lt) := by
  have a1 := pw_cross (pw_join h (List.pairwise_append.1 hu).1 (List.pairwise_append.1 hv).2.1 c1)
  have a2 := pw_cross (pw_join h (List.pairwise_append.1 hv).1 (List.pairwise_append.1 hu).2.1 c2)
  have a3 := pw_cross hu
  have a4 := pw_cross hv
  refine List.pairwise_append.2 ⟨s1, s2, fun x hx y hy => ?_⟩
  rcases List.mem_append.1 (p1.mem_iff.1 hx) with hx | hx <;> rcases List.mem_append.1 (p2.mem_iff.1 hy) with hy | hy
  · exact a3 x hx y hy
  · exact a1 x hx y hy
  · exact a2 x hx y hy
  · exact a4 x hx y hy
theorem swp_set {β : Type} (P Q S : List β) (x y : β) {i j : Nat} (hi : i = P.length) (hj : j = P.length + 1 + Q.length) : ((P ++ x :: (Q ++ y :: S)).set i y).set j x = P ++ y :: (Q ++ x :: S) := by
  subst hi
  subst hj
  rw [List.set_append_right _ _ (Nat.le_refl _), Nat.sub_self, List.set_cons_zero, List.set_append_right _ _ (by omega), show P.length + 1 + Q.length - P.length = Q.length + 1 by omega, List.set_cons_succ, List.set_append_right _ _ (Nat.le_refl _), Nat.sub_self, List.set_cons_zero]
theorem swp_set' {β : Type} (P Q S : List β) (x y : β) {i j : Nat} (hi : i = P.length) (hj : j = P.length + 1 + Q.length) : ((P ++ x :: (Q ++ y :: S)).set j x).set i y = P ++ y :: (Q ++ x :: S) := by
  rw [List.set_comm _ _ (by omega)]
  exact swp_set P Q S x y hi hj
theorem swp_l {β : Type} (P Q S : List β) (x y : β) {i : Nat} (hi : i = P.length) (h : i < (P ++ x :: (Q ++ y :: S)).length) : (P ++ x :: (Q ++ y :: S))[i] = x := by
  subst hi
  simp
theorem swp_r {β : Type} (P Q S : List β) (x y : β) {j : Nat} (hj : j = P.length + 1 + Q.length) (h : j < (P ++ x :: (Q ++ y :: S)).length) : (P ++ x :: (Q ++ y :: S))[j] = y := by
  subst hj
  rw [List.getElem_append_right (by omega)]
  simp only [show P.length + 1 + Q.length - P.length = Q.length + 1 by omega, List.getElem_cons_succ]
  rw [List.getElem_append_right (by omega)]
  simp
end
end Go.Proofs.YtopcnkejobomaaaGreat
namespace Go.Proofs.YtopcnkejobomaaaGreat
open Go.RowKit
section
variable {α : Type} {lt : α → α → Bool}
theorem pw_mid {X Y : List (α × Nat)} {x : α × Nat} (hp : (X ++ Y).Pairwise (tl lt)) (h1 : ∀ y ∈ X, tl lt y x) (h2 : ∀ y ∈ Y, tl lt x y) : (X ++ x :: Y).Pairwise (tl lt) := by
  obtain ⟨a1, a2, a3⟩ := List.pairwise_append.1 hp
  refine List.pairwise_append.2 ⟨a1, List.pairwise_cons.2 ⟨h2, a2⟩, fun u hu v hv => ?_⟩
  rcases List.mem_cons.1 hv with rfl | hv
  · exact h1 u hu
  · exact a3 u hu v hv
theorem up_take (h : SW lt) {V : List (α × Nat)} (hp : V.Pairwise (tl lt)) {i : Nat} (hi : i < V.length) {x : α × Nat} (hx : tl lt V[i] x) : ∀ y ∈ V.take (i + 1), tl lt y x := fun y hy => by
  obtain ⟨j, hj, rfl⟩ := List.mem_take_iff_getElem.1 hy
  by_cases hc : j = i
  · subst hc
    exact hx
  · exact h.tlt (List.pairwise_iff_getElem.1 hp j i (by omega) hi (by omega)) hx
theorem dn_drop (h : SW lt) {V : List (α × Nat)} (hp : V.Pairwise (tl lt)) {i : Nat} (hi : i < V.length) {x : α × Nat} (hx : tl lt x V[i]) : ∀ y ∈ V.drop i, tl lt x y := fun y hy => by
  obtain ⟨j, hj, rfl⟩ := List.mem_drop_iff_getElem.1 hy
  by_cases hc : j = 0
  · subst hc
    exact hx
  · exact h.tlt hx (List.pairwise_iff_getElem.1 hp i (i + j) hi (by omega) (by omega))
theorem ends {U V : List (α × Nat)} {k j : Nat} (h : k = 0 ∨ j = V.length ∨ ∃ (hk : k - 1 < U.length) (hj : j < V.length), tl lt U[k - 1] V[j]) : U.take k = [] ∨ V.drop j = [] ∨ ∃ X' x y Y', U.take k = X' ++ [x] ∧ V.drop j = y :: Y' ∧ tl lt x y := by
  rcases h with rfl | rfl | ⟨hk, hj, h⟩
  · exact .inl rfl
  · exact .inr (.inl (List.drop_length))
  · by_cases h0 : k = 0
    · exact .inl (by rw [h0]; rfl)
    · refine .inr (.inr ⟨U.take (k - 1), U[k - 1], V[j], V.drop (j + 1), ?_, List.drop_eq_getElem_cons hj, h⟩)
      rw [← List.take_succ_eq_append_getElem hk]
      congr 1
      omega
end
end Go.Proofs.YtopcnkejobomaaaGreat
namespace Go.Proofs.YtopcnkejobomaaaGreat
open Go.RowKit
def cmpL : List Int → List Int → Int
  | x :: xs, y :: ys => if x < y then -1 else if y < x then 1 else cmpL xs ys
  | _, _ => 0
theorem cmpL_anti : ∀ a b : List Int, cmpL a b = - cmpL b a
  | [], [] => rfl
  | [], _ :: _ => rfl
  | _ :: _, [] => rfl
  | x :: xs, y :: ys => by
    have := cmpL_anti xs ys
    unfold cmpL
    split
    · rw [if_neg (by omega)]
    · split
      · rfl
      · exact this
theorem cmpL_zero : ∀ a b : List Int, a.length = b.length → (cmpL a b = 0 ↔ a = b)
  | [], [], _ => by simp [cmpL]
  | x :: xs, y :: ys, h => by
    have := cmpL_zero xs ys (by simpa using h)
    unfold cmpL
    split
    · simp; omega
    · split
      · simp; omega
      · rw [this]
        have : x = y := by omega
        simp [this]
theorem cmpL_trans : ∀ a b c : List Int, a.length = b.length → b.length = c.length → cmpL a b ≤ 0 → cmpL b c ≤ 0 → cmpL a c ≤ 0
  | [], _, _, _, _, _, _ => by simp [cmpL]
  | x :: xs, y :: ys, z :: zs, h1, h2, h3, h4 => by
    have := cmpL_trans xs ys zs (by simpa using h1) (by simpa using h2)
    unfold cmpL at h3 h4 ⊢
    split at h3
    · split at h4
      · rw [if_pos (by omega)]; omega
      · split at h4
        · omega
        · rw [if_pos (by omega)]; omega
    · split at h3
      · omega
      · split at h4
        · rw [if_pos (by omega)]; omega
        · split at h4
          · omega
          · rw [if_neg (by omega), if_neg (by omega)]
            exact this h3 h4
theorem cmpL_drop (a b : List Int) (k : Nat) (ha : k < a.length) (hb : k < b.length) : cmpL (a.drop k) (b.drop k) = if a.getD k 0 < b.getD k 0 then -1 else if b.getD k 0 < a.getD k 0 then 1 else cmpL (a.drop (k + 1)) (b.drop (k + 1)) := by
  rw [List.drop_eq_getElem_cons ha, List.drop_eq_getElem_cons hb, cmpL]
  simp [List.getD, ha, hb]
theorem less_l : ∀ a b : List Int, a.length = b.length → (∀ x ∈ a, 0 ≤ x ∧ x < 256) → (∀ x ∈ b, 0 ≤ x ∧ x < 256) → Op.bytesLess (strOfNums a).toList (strOfNums b).toList = decide (cmpL a b < 0) := by
  have tl : ∀ l : List Int, (strOfNums l).toList = l.map fun z => UInt8.ofNat z.toNat := fun l => by rw [ByteArray.toList_eq]; simp [strOfNums]
  intro a b
  rw [tl, tl]
  induction a generalizing b with
  | nil => intro h _ _; cases b with | nil => rfl | cons _ _ => simp at h
  | cons x xs ih =>
    intro h ha hb
    cases b with
    | nil => simp at h
    | cons y ys =>
      have := ih ys (by simpa using h) (fun z hz => ha z (List.mem_cons_of_mem _ hz)) (fun z hz => hb z (List.mem_cons_of_mem _ hz))
      have hx := ha x (List.mem_cons_self ..)
      have hy := hb y (List.mem_cons_self ..)
      simp only [List.map_cons, Op.bytesLess, this, cmpL]
      have e1 : (UInt8.ofNat x.toNat < UInt8.ofNat y.toNat) ↔ x < y := by
        rw [UInt8.lt_iff_toNat_lt]
        simp
        omega
      have e2 : (UInt8.ofNat x.toNat = UInt8.ofNat y.toNat) ↔ x = y := by
        rw [← UInt8.toNat_inj]
        simp
        omega
      by_cases h1 : x < y
      · simp [e1, h1]
      · by_cases h2 : y < x
        · have : ¬ x = y := by omega
          simp [e1, e2, h1, h2, this]
        · have : x = y := by omega
          subst this
          simp
theorem p_lss_string (t : TypeId) (q : Bool) (a b : ByteArray) : Pur Tryz.prog (o_bin .lss t q (.string a) (.string b)) (.bool (Op.bytesLess a.toList b.toList)) := fun w => by
  simp [o_bin, sv, eqGuard, Go.binOp_string_lss]
theorem cmp_lt {a b c : H32} (h1 : cmpL a.1 b.1 < 0) (h2 : cmpL b.1 c.1 < 0) : cmpL a.1 c.1 < 0 := by
  have t := cmpL_trans a.1 b.1 c.1 (by rw [a.2.1, b.2.1]) (by rw [b.2.1, c.2.1]) (by omega) (by omega)
  rcases Int.lt_or_eq_of_le t with h | h
  · exact h
  · have e := (cmpL_zero a.1 c.1 (by rw [a.2.1, c.2.1])).1 h
    rw [e, cmpL_anti] at h1
    omega
theorem cmp_nlt {a b c : H32} (h1 : ¬ cmpL a.1 b.1 < 0) (h2 : ¬ cmpL b.1 c.1 < 0) : ¬ cmpL a.1 c.1 < 0 := by
  have e1 := cmpL_anti a.1 b.1
  have e2 := cmpL_anti b.1 c.1
  have e3 := cmpL_anti a.1 c.1
  have t := cmpL_trans c.1 b.1 a.1 (by rw [c.2.1, b.2.1]) (by rw [b.2.1, a.2.1]) (by omega) (by omega)
  omega
theorem cmp_irr (a : H32) : cmpL a.1 a.1 = 0 := (cmpL_zero _ _ rfl).2 rfl
theorem cmph_ok (x y : H32) (w : World) : Calls Tryz.prog 64 #[ha x, ha y] w fun en w' => en = .returned (.int .i64 (cmpL x.1 y.1)) ∧ St w [] w' := by
  have hM := Mem.start (Fz.of w)
  have hx := x.2.1
  have hy := y.2.1
  refine C_sha_Cmp ?_
  unfold F_sha_Cmp
  ((with_reducible (refine mm_box hM ?_; clear hM; intro _ _ hM; refine mm_box hM ?_; clear hM; intro _ _ hM)))
  refine ⟨fun v w' => ∃ k : Nat, v = .int .i64 k ∧ k ≤ 32 ∧ cmpL x.1 y.1 = cmpL (x.1.drop k) (y.1.drop k) ∧ hM.now w', fun v _ => match v with | .int _ k => 32 - k.toNat | _ => 0, ⟨0, rfl, by omega, rfl, hM⟩, ?_⟩
  rintro v u w3 ⟨k, rfl, hk, he, hM⟩
  ((with_reducible (refine mop_cS trivial ?_ ?_)))
  · intro hlt
    have hk' : k < 32 := by omega
    rw [cmpL_drop x.1 y.1 k (by omega) (by omega)] at he
    have cx : (u8s x.1)[((k : Int)).toNat]? = some (.int .u8 (x.1.getD k 0)) := by
      rw [Int.toNat_natCast]
      exact u8s_at x.1 k (by omega)
    have cy : (u8s y.1)[((k : Int)).toNat]? = some (.int .u8 (y.1.getD k 0)) := by
      rw [Int.toNat_natCast]
      exact u8s_at y.1 k (by omega)
    generalize x.1.getD k 0 = p at he cx
    generalize y.1.getD k 0 = q at he cy
    ((with_reducible (refine mif_true ?_; refine dp_c ?_ ?_)); (focus omega))
    refine dm_lda hM cx ?_
    ((with_reducible (refine dp_c ?_ ?_)); (focus omega))
    refine dm_lda hM cy ?_
    skip
    ((with_reducible (refine dp_cS trivial ?_ ?_)))
    · intro hl
      rw [if_pos hl] at he
      ((with_reducible (refine mm_end hM ?_; clear hM; intro _ hM; refine mif_true ?_)))
      exact ⟨by rw [he], hM.st⟩
    · intro hl
      rw [if_neg hl] at he
      ((with_reducible (refine mm_end hM ?_; clear hM; intro _ hM; refine mif_false ?_; refine dp_c ?_ ?_)); (focus omega))
      refine dm_lda hM cx ?_
      ((with_reducible (refine dp_c ?_ ?_)); (focus omega))
      refine dm_lda hM cy ?_
      skip
      ((with_reducible (refine dp_cS trivial ?_ ?_)))
      · intro hl2
        rw [if_pos hl2] at he
        ((with_reducible (refine mm_end hM ?_; clear hM; intro _ hM; refine mif_true ?_)))
        exact ⟨by rw [he], hM.st⟩
      · intro hl2
        rw [if_neg hl2] at he
        ((with_reducible (refine mm_end hM ?_; clear hM; intro _ hM; refine mif_false ?_; refine mop_c ?_ ?_)); (focus omega))
        exact ⟨⟨k + 1, by rw [Value.int.injEq]; refine ⟨rfl, ?_⟩; push_cast; rfl, by omega, he, hM⟩, by simp only; omega⟩
  · intro hge
    obtain rfl : k = 32 := by omega
    rw [List.drop_eq_nil_of_le (by omega)] at he
    ((with_reducible (refine mif_false ?_)))
    exact ⟨by rw [he]; rfl, hM.st⟩
instance (x y : H32) : PurC Tryz.prog 64 [.agg (u8s x.1).toArray, .agg (u8s y.1).toArray] True (.int .i64 (cmpL x.1 y.1)) := ⟨fun _ w => cmph_ok x y w⟩
theorem lessh_ok (x y : H32) (w : World) : Calls Tryz.prog 67 #[ha x, ha y] w fun en w' => en = .returned (.bool (decide (cmpL x.1 y.1 < 0))) ∧ St w [] w' := by
  have hM := Mem.start (Fz.of w)
  have hx := x.2.1
  have hy := y.2.1
  refine C_bevyref02_Less ?_
  unfold F_bevyref02_Less
  ((with_reducible (refine mm_box hM ?_; clear hM; intro _ _ hM; refine mm_box hM ?_; clear hM; intro _ _ hM; refine dp_c trivial ?_; refine dm_cvb hM ?_; refine dp_c trivial ?_; refine dm_cvb hM ?_)))
  refine dp_pur (p_lss_string _ _ _ _) ?_
  rw [less_l x.1 y.1 (by omega) x.2.2 y.2.2]
  ((with_reducible (refine mm_end hM ?_; clear hM; intro _ hM)))
  exact ⟨rfl, hM.st⟩
instance (x y : H32) : PurC Tryz.prog 67 [.agg (u8s x.1).toArray, .agg (u8s y.1).toArray] True (.bool (decide (cmpL x.1 y.1 < 0))) := ⟨fun _ w => lessh_ok x y w⟩
end Go.Proofs.YtopcnkejobomaaaGreat
namespace Go.Proofs.YtopcnkejobomaaaGreat.Chg
open Go.RowKit
section
theorem cpack_ok (p : Prp) (w : World) : Calls Tryz.prog 104 #[prv p] w fun en w' => en = .returned (.string (if p.right then packB p else es0)) ∧ St w [] w' := by
  have hM := Mem.start (Fz.of w)
  have hl := textL_length p
  have l7 := p.sign.2.1
  refine C_change_Pack ?_
  unfold F_change_Pack
  ((with_reducible (refine mm_box hM ?_; clear hM; intro _ _ hM; refine mm_ld hM ?_; refine mm_purC hM ?_ ?_)); (focus (first | exact trivial | assumption | omega)); (with_reducible (clear hM; intro _ hM; refine mop_c trivial ?_)))
  by_cases h : p.right
  · rw [decide_eq_true h, if_pos h]
    simp only [Bool.not_true]
    ((with_reducible (refine mif_false ?_; refine dm_ld hM ?_; refine dm_purC hM ?_ (fun _ _ hM => ?_))); (focus (first | exact trivial | assumption | omega)); (with_reducible (refine dp_c trivial ?_; refine dp_c trivial ?_)))
    refine dm_cvb (by assumption) ?_
    unfold txt
    first | refine mop_cat (textL p) p.sign.1 (by omega) ?_ | refine dp_cat (textL p) p.sign.1 (by omega) ?_
    ((with_reducible (refine mm_end hM ?_; clear hM; intro _ hM)))
    exact ⟨rfl, hM.st⟩
  · rw [decide_eq_false h, if_neg h]
    simp only [Bool.not_false]
    ((with_reducible (refine mif_true ?_)))
    first | exact ⟨rfl, hM.st⟩ | exact ⟨trivial, hM.st⟩
theorem rpack_ok (p : Prp) (h : p.right) (w : World) : Calls Tryz.prog 135 #[prv p] w fun en w' => en = .returned (.string (packB p)) ∧ St w [] w' := by
  have hM := Mem.start (Fz.of w)
  have hl := textL_length p
  have l7 := p.sign.2.1
  refine C_bevyref10_Pack ?_
  unfold F_bevyref10_Pack
  ((with_reducible (refine mm_box hM ?_; clear hM; intro _ _ hM; refine dm_ld hM ?_; refine dm_purC hM ?_ (fun _ _ hM => ?_))); (focus (first | exact trivial | assumption | omega)); (with_reducible (refine dp_c trivial ?_)); (with_reducible refine dm_ld ‹Mem _ _ _ _› ?_); (with_reducible (refine dm_purC hM ?_ (fun _ _ hM => ?_))); (focus (first | exact trivial | assumption | omega)))
  unfold txt
  first | refine mop_cat (textL p) p.sign.1 (by omega) ?_ | refine dp_cat (textL p) p.sign.1 (by omega) ?_
  ((with_reducible (refine mm_end hM ?_; clear hM; intro _ hM)))
  exact ⟨rfl, hM.st⟩
instance (p : Prp) : PurC Tryz.prog 104 [prv p] True (.string (if p.right then packB p else es0)) := ⟨fun _ w => cpack_ok p w⟩
instance (p : Prp) : PurC Tryz.prog 135 [prv p] p.right (.string (packB p)) := ⟨fun h w => rpack_ok p h w⟩
def idP (p : Prp) : H32 := shaH (ints schange ++ ints (packB p))
theorem cid_ok (p : Prp) (w : World) : Calls Tryz.prog 65 #[prv p] w fun en w' => en = .returned (.agg (u8s (if p.right then idP p else hzero).1).toArray) ∧ St w [] w' := by
  have hM := Mem.start (Fz.of w)
  have hl := textL_length p
  have l7 := p.sign.2.1
  have hsz : (packB p).size = (textL p ++ p.sign.1).length := strOfNums_size _
  rw [List.length_append] at hsz
  refine C_change_Id ?_
  unfold F_change_Id
  ((with_reducible (refine mm_box hM ?_; clear hM; intro _ _ hM; refine mm_new hM ?_; clear hM; intro _ _ hM; refine mm_ld hM ?_; refine mm_purC hM ?_ ?_)); (focus (first | exact trivial | assumption | omega)); (with_reducible (clear hM; intro _ hM; refine mop_c trivial ?_)))
  by_cases h : p.right
  · rw [decide_eq_true h, if_pos h]
    ((with_reducible (refine mif_nt ?_; refine mm_ld hM ?_; refine mm_purC hM ?_ ?_)); (focus (first | exact trivial | assumption | omega)); (with_reducible (clear hM; intro _ hM; refine mm_bsl hM ?_ ?_ ?_)); (focus rfl); (focus (constructor <;> simp)); (with_reducible (clear hM; intro _ _ hM)))
    rw [if_pos h] at hM
    refine mm_pure hM (sum2_ok schange (packB p) (by rw [hsz]; show 6 + _ < _; omega) hM) (fun w2 hM => ?_)
    ((with_reducible (refine mm_st hM ?_; clear hM; intro _ hM; refine rm_ld hM ?_)))
    exact ⟨rfl, hM.st⟩
  · rw [decide_eq_false h, if_neg h]
    ((with_reducible (refine mif_nf ?_; refine mop_c trivial ?_; refine mm_st hM ?_; clear hM; intro _ hM; refine rm_ld hM ?_)))
    exact ⟨rfl, hM.st⟩
instance (s : ByteArray) : PurC Tryz.prog 43 [.string s] (s.size < 1099511627776) (.agg (u8s (shaH (ints s)).1).toArray) := ⟨fun h w => refsum_ok s w h⟩
theorem rid_ok (p : Prp) (h : p.right) (w : World) : Calls Tryz.prog 107 #[prv p] w fun en w' => en = .returned (.agg (u8s (idP p).1).toArray) ∧ St w [] w' := by
  have hM := Mem.start (Fz.of w)
  have hl := textL_length p
  have l7 := p.sign.2.1
  have hsz : (packB p).size = (textL p ++ p.sign.1).length := strOfNums_size _
  rw [List.length_append] at hsz
  refine C_bevyref10_Id ?_
  unfold F_bevyref10_Id
  ((with_reducible (refine mm_box hM ?_; clear hM; intro _ _ hM; refine mm_new hM ?_; clear hM; intro _ _ hM; refine mm_ld hM ?_; refine mm_purC hM ?_ ?_)); (focus (first | exact trivial | assumption | omega)); (with_reducible (clear hM; intro _ hM)))
  refine mop_c (by rw [hsz]; show 6 + _ ≤ _; omega) ?_
  have hs2 : (schange ++ packB p).size < 1099511627776 := by rw [ByteArray.size_append, hsz]; show 6 + _ < _; omega
  ((with_reducible (refine mm_purC hM ?_ ?_)); (focus (first | exact trivial | assumption | omega)); (with_reducible (clear hM; intro _ hM; refine mm_st hM ?_; clear hM; intro _ hM; refine rm_ld hM ?_)))
  refine ⟨?_, hM.st⟩
  rw [ints_append]
  rfl
instance (p : Prp) : PurC Tryz.prog 65 [prv p] True (.agg (u8s (if p.right then idP p else hzero).1).toArray) := ⟨fun _ w => cid_ok p w⟩
instance (p : Prp) : PurC Tryz.prog 107 [prv p] p.right (.agg (u8s (idP p).1).toArray) := ⟨fun h w => rid_ok p h w⟩
def idH (p : Prp) : H32 := if p.right then idP p else hzero
theorem key_ok (p : Prp) (w : World) : Calls Tryz.prog 68 #[prv p] w fun en w' => en = .returned (.agg (u8s (idH p).1).toArray) ∧ St w [] w' := by
  have hM := Mem.start (Fz.of w)
  refine C_bevyref10_key ?_
  unfold F_bevyref10_key
  ((with_reducible (refine mm_box hM ?_; clear hM; intro _ _ hM; refine mm_new hM ?_; clear hM; intro _ _ hM; refine mm_ld hM ?_; refine mm_purC hM ?_ ?_)); (focus (first | exact trivial | assumption | omega)); (with_reducible (clear hM; intro _ hM; refine mop_c trivial ?_)))
  unfold idH
  by_cases h : p.right
  · rw [decide_eq_true h, if_pos h]
    ((with_reducible (refine mif_nt ?_; refine mm_ld hM ?_; refine mm_purC hM ?_ ?_)); (focus (first | exact trivial | assumption | omega)); (with_reducible (clear hM; intro _ hM; refine mm_st hM ?_; clear hM; intro _ hM; refine rm_ld hM ?_)))
    exact ⟨rfl, hM.st⟩
  · rw [decide_eq_false h, if_neg h]
    ((with_reducible (refine mif_nf ?_; refine mop_c trivial ?_; refine mm_st hM ?_; clear hM; intro _ hM; refine rm_ld hM ?_)))
    exact ⟨rfl, hM.st⟩
instance (p : Prp) : PurC Tryz.prog 68 [prv p] True (.agg (u8s (idH p).1).toArray) := ⟨fun _ w => key_ok p w⟩
def cvP (p q : Prp) : Int := if p.lt q then -1 else if q.lt p then 1 else cmpL (idH p).1 (idH q).1
theorem cvP_neg (p q : Prp) : cvP p q < 0 ↔ p.lt q ∨ ¬ q.lt p ∧ cmpL (idH p).1 (idH q).1 < 0 := by
  unfold cvP
  by_cases h1 : p.lt q
  · rw [if_pos h1]
    exact ⟨fun _ => .inl h1, fun _ => by omega⟩
  · rw [if_neg h1]
    by_cases h2 : q.lt p
    · rw [if_pos h2]
      exact ⟨fun h => by omega, fun h => h.elim (fun h => absurd h h1) (fun h => absurd h2 h.1)⟩
    · rw [if_neg h2]
      exact ⟨fun h => .inr ⟨h2, h⟩, fun h => h.elim (fun h => absurd h h1) (fun h => h.2)⟩
theorem cvP_sw : SW (fun x y => decide (cvP x y < 0)) := by
  refine ⟨fun x => decide_eq_false fun h => ?_, fun x y z h1 h2 => decide_eq_true ?_, fun x y z h1 h2 => decide_eq_false ?_⟩
  · rcases (cvP_neg _ _).1 h with h | h
    · exact lt_irr x h
    · have := cmp_irr (idH x)
      omega
  · have h1 := (cvP_neg _ _).1 (of_decide_eq_true h1)
    have h2 := (cvP_neg _ _).1 (of_decide_eq_true h2)
    have hc := fun a b => cmp_lt (a := idH x) (b := idH y) (c := idH z) a b
    refine (cvP_neg _ _).2 ?_
    unfold Prp.lt at *
    by_cases c1 : cmpL (idH x).1 (idH y).1 < 0 <;> by_cases c2 : cmpL (idH y).1 (idH z).1 < 0
    · have := hc c1 c2
      omega
    all_goals omega
  · have h1 : ¬ (x.lt y ∨ ¬ y.lt x ∧ cmpL (idH x).1 (idH y).1 < 0) := fun h => of_decide_eq_false h1 ((cvP_neg _ _).2 h)
    have h2 : ¬ (y.lt z ∨ ¬ z.lt y ∧ cmpL (idH y).1 (idH z).1 < 0) := fun h => of_decide_eq_false h2 ((cvP_neg _ _).2 h)
    have hc := fun a b => cmp_nlt (a := idH x) (b := idH y) (c := idH z) a b
    intro h3
    have h3 := (cvP_neg _ _).1 h3
    unfold Prp.lt at *
    by_cases c1 : cmpL (idH x).1 (idH y).1 < 0 <;> by_cases c2 : cmpL (idH y).1 (idH z).1 < 0
    all_goals first | omega | (have := hc c1 c2; omega)
theorem pick1_ok (p q : Prp) (w : World) : Calls Tryz.prog 63 #[prv p, prv q] w fun en w' => en = .returned (.int .i64 (cvP p q)) ∧ St w [] w' := by
  have hM := Mem.start (Fz.of w)
  refine C_change_Pick_1 ?_
  unfold F_change_Pick_1
  ((with_reducible (refine mm_box hM ?_; clear hM; intro _ _ hM; refine mm_box hM ?_; clear hM; intro _ _ hM; refine mm_ld hM ?_; refine mm_ld hM ?_; refine mm_purC hM ?_ ?_)); (focus (first | exact trivial | assumption | omega)); (with_reducible (clear hM; intro _ hM)))
  unfold cvP
  by_cases h1 : p.lt q
  · rw [decide_eq_true h1, if_pos h1]
    ((with_reducible (refine mif_true ?_)))
    exact ⟨rfl, hM.st⟩
  · rw [decide_eq_false h1, if_neg h1]
    ((with_reducible (refine mif_false ?_; refine mm_ld hM ?_; refine mm_ld hM ?_; refine mm_purC hM ?_ ?_)); (focus (first | exact trivial | assumption | omega)); (with_reducible (clear hM; intro _ hM)))
    by_cases h2 : q.lt p
    · rw [decide_eq_true h2, if_pos h2]
      ((with_reducible (refine mif_true ?_)))
      exact ⟨rfl, hM.st⟩
    · rw [decide_eq_false h2, if_neg h2]
      ((with_reducible (refine mif_false ?_; refine dm_ld hM ?_; refine dm_purC hM ?_ (fun _ _ hM => ?_))); (focus (first | exact trivial | assumption | omega)); (with_reducible refine dm_ld ‹Mem _ _ _ _› ?_); (with_reducible (refine dm_purC hM ?_ (fun _ _ hM => ?_))); (focus (first | exact trivial | assumption | omega)); (with_reducible (refine dm_purC hM ?_ (fun _ _ hM => ?_))); (focus (first | exact trivial | assumption | omega)); (with_reducible (refine mm_end hM ?_; clear hM; intro _ hM)))
      exact ⟨rfl, hM.st⟩
instance (p q : Prp) : PurC Tryz.prog 63 [.agg (fl p.fds).toArray, .agg (fl q.fds).toArray] True (.int .i64 (cvP p q)) := ⟨fun _ w => pick1_ok p q w⟩
end
end Go.Proofs.YtopcnkejobomaaaGreat.Chg
namespace Go.Proofs.YtopcnkejobomaaaGreat
open Go.RowKit
theorem dm_str0 {P : Program} {H : Hp} {w0 w : World} {L R1 : List Res} {g k m n cap e sz : Nat} {tt : TypeId} {q : Bool} {v : Value} {fs gs fs' : List Fd} {ps : List (List Fd)} {K : Value → World → Prop} (h : Mem H w0 L w) [c : ShpC P tt q m] [a : AtA L (some ⟨g, 0, none⟩) n cap e sz ps R1] (hk : ps[k]? = some fs) [f : Vf v m gs] [p : Put fs 0 gs fs'] (hK : ∀ w', Mem H w0 (rowR e sz (some ⟨g, 0, none⟩) n cap (ps.set k fs') :: R1) w' → K undef w') : df P w (o_store tt (.pointer (some ⟨g, 0 + k * sz, none⟩)) v) false K := dm_stf (off := 0) h hk hK
abbrev ltP (cv : Chg.Prp → Chg.Prp → Int) : Chg.Prp → Chg.Prp → Bool := fun x y => decide (cv x y < 0)
abbrev fTP (T : List (Chg.Prp × Nat)) : List (List Fd) := T.map fun p => Chg.Prp.fds p.1
theorem fTP_set (T : List (Chg.Prp × Nat)) (k : Nat) (x : Chg.Prp × Nat) : (fTP T).set k (Chg.Prp.fds x.1) = fTP (T.set k x) := (List.map_set (f := fun p : Chg.Prp × Nat => Chg.Prp.fds p.1)).symm
theorem swpP (P Q S : List (Chg.Prp × Nat)) (x y : Chg.Prp × Nat) {i j : Nat} (hi : i = P.length) (hj : j = P.length + 1 + Q.length) : ((fTP (P ++ x :: (Q ++ y :: S))).set i (Chg.Prp.fds y.1)).set j (Chg.Prp.fds x.1) = fTP (P ++ y :: (Q ++ x :: S)) := by
  rw [fTP_set, fTP_set, swp_set P Q S x y hi hj]
theorem swpP' (P Q S : List (Chg.Prp × Nat)) (x y : Chg.Prp × Nat) {i j : Nat} (hi : i = P.length) (hj : j = P.length + 1 + Q.length) : ((fTP (P ++ x :: (Q ++ y :: S))).set j (Chg.Prp.fds x.1)).set i (Chg.Prp.fds y.1) = fTP (P ++ y :: (Q ++ x :: S)) := by
  rw [fTP_set, fTP_set, swp_set' P Q S x y hi hj]
section
variable {H : Hp} {w0 w : World} {L R : List Res} {A : Option Addr} {n c : Nat} {cv : Chg.Prp → Chg.Prp → Int} {fc : Nat}
theorem swapRP_ok (P U Q V S : List (Chg.Prp × Nat)) (hn : (P ++ (U ++ (Q ++ (V ++ S)))).length = n) (hl : n ≤ 1000000) (hU : U.length = V.length) (x4 : Value) (hM : Mem H w0 (rowR 87 101 A n c (fTP (P ++ (U ++ (Q ++ (V ++ S))))) :: R) w) :
    Calls Tryz.prog 162 #[.slice A n c, .int .i64 P.length, .int .i64 ((P.length : Int) + U.length + Q.length), .int .i64 U.length, x4] w fun en w' => ∃ v, en = .returned v ∧ v = .tuple #[] ∧ Mem H w0 (rowR 87 101 A n c (fTP (P ++ (V ++ (Q ++ (U ++ S))))) :: R) w' := by
  simp only [List.length_append] at hn
  refine C_slices_swapRangeCmpFunc_api_Proposal ?_
  unfold F_slices_swapRangeCmpFunc_api_Proposal
  refine ⟨fun v w' => ∃ i : Nat, v = .int .i64 i ∧ i ≤ U.length ∧ Mem H w0 (rowR 87 101 A n c (fTP (P ++ ((V.take i ++ U.drop i) ++ (Q ++ ((U.take i ++ V.drop i) ++ S))))) :: R) w', fun v _ => match v with | .int _ k => U.length - k.toNat | _ => 0, ⟨0, rfl, by omega, by simpa using hM⟩, ?_⟩
  clear hM
  rintro v u w1 ⟨i, rfl, hi, hM⟩
  ((with_reducible (refine mop_cS trivial ?_ ?_)))
  · intro hlt
    have hiu : i < U.length := by omega
    have hiv : i < V.length := by omega
    obtain ⟨T, hT⟩ : ∃ T, P ++ ((V.take i ++ U.drop i) ++ (Q ++ ((U.take i ++ V.drop i) ++ S))) = T := ⟨_, rfl⟩
    have e1 : T = (P ++ V.take i) ++ U[i] :: ((U.drop (i + 1) ++ Q ++ U.take i) ++ V[i] :: (V.drop (i + 1) ++ S)) := by
      rw [← hT, List.drop_eq_getElem_cons hiu, List.drop_eq_getElem_cons hiv]
      simp only [List.append_assoc, List.cons_append]
    have e2 : P ++ ((V.take (i + 1) ++ U.drop (i + 1)) ++ (Q ++ ((U.take (i + 1) ++ V.drop (i + 1)) ++ S))) = (P ++ V.take i) ++ V[i] :: ((U.drop (i + 1) ++ Q ++ U.take i) ++ U[i] :: (V.drop (i + 1) ++ S)) := by
      rw [List.take_succ_eq_append_getElem hiu, List.take_succ_eq_append_getElem hiv]
      simp only [List.append_assoc, List.cons_append, List.nil_append]
    have p1 : P.length + i = (P ++ V.take i).length := by rw [List.length_append, List.length_take]; omega
    have p2 : P.length + U.length + Q.length + i = (P ++ V.take i).length + 1 + (U.drop (i + 1) ++ Q ++ U.take i).length := by
      simp only [List.length_append, List.length_take, List.length_drop]
      omega
    have hTl : T.length = n := by
      rw [← hT]
      simp only [List.length_append, List.length_take, List.length_drop]
      omega
    rw [hT] at hM
    have g1 : ∀ (k : Nat) (hk : k < T.length), k = P.length + i → T[k] = U[i] := fun k hk e => by
      subst e
      simp only [e1]
      exact swp_l _ _ _ _ _ p1 _
    have g2 : ∀ (k : Nat) (hk : k < T.length), k = P.length + U.length + Q.length + i → T[k] = V[i] := fun k hk e => by
      subst e
      simp only [e1]
      exact swp_r _ _ _ _ _ p2 _
    have i1 : ((P.length : Int) + i).toNat = P.length + i := by omega
    have i2 : ((P.length : Int) + U.length + Q.length + i).toNat = P.length + U.length + Q.length + i := by omega
    ((with_reducible (refine mif_true ?_; refine dp_c ?_ ?_)); (focus omega); (with_reducible (refine dp_c ?_ ?_)); (focus omega); (with_reducible (refine dp_c ?_ ?_)); (focus omega); (with_reducible (refine dp_ixr hM ?_ ?_)); (focus omega); (with_reducible (intro _ hA)); (cases hA); (with_reducible (refine dm_ldr0 hM (map_atI ?_) ?_)); (focus omega); (with_reducible (refine dp_c ?_ ?_)); (focus omega); (with_reducible (refine dp_ixr hM ?_ ?_)); (focus omega); (with_reducible (intro _ hA)); (cases hA); (with_reducible (refine dm_ldr0 hM (map_atI ?_) ?_)); (focus omega); (with_reducible (refine dp_ixr hM ?_ ?_)); (focus omega); (with_reducible (intro _ hA)); (cases hA))
    refine dm_str0 hM (map_at (by omega)) (fun w' hM => ?_)
    ((with_reducible (refine dp_ixr hM ?_ ?_)); (focus omega); (with_reducible (intro _ hA)); (cases hA))
    refine dm_str0 hM (by rw [List.getElem?_set_ne (by omega)]; exact map_at (by omega)) (fun w' hM => ?_)
    rw [g1 _ _ rfl, g2 _ _ rfl, i1, i2] at hM
    have hs : ((fTP T).set (P.length + i) (Chg.Prp.fds V[i].1)).set (P.length + U.length + Q.length + i) (Chg.Prp.fds U[i].1) = fTP (P ++ ((V.take (i + 1) ++ U.drop (i + 1)) ++ (Q ++ ((U.take (i + 1) ++ V.drop (i + 1)) ++ S)))) := by
      rw [e2, e1]
      exact swpP _ _ _ _ _ p1 p2
    have hM2 : Mem H w0 (rowR 87 101 _ n c (((fTP T).set (P.length + i) (Chg.Prp.fds V[i].1)).set (P.length + U.length + Q.length + i) (Chg.Prp.fds U[i].1)) :: R) _ := hM
    rw [hs] at hM2
    have hM := hM2
    clear hM2
    ((with_reducible (refine mm_end hM ?_; clear hM; intro _ hM; refine mop_c ?_ ?_)); (focus omega))
    exact ⟨⟨i + 1, rfl, by omega, hM⟩, by simp only; omega⟩
  · intro hge
    obtain rfl : i = U.length := by omega
    ((with_reducible (refine mif_false ?_)))
    refine ⟨_, rfl, rfl, ?_⟩
    have e : P ++ ((V.take U.length ++ U.drop U.length) ++ (Q ++ ((U.take U.length ++ V.drop U.length) ++ S))) = P ++ (V ++ (Q ++ (U ++ S))) := by
      rw [hU, List.take_length, List.drop_length, ← hU, List.take_length, List.drop_length]
      simp
    rw [← e]
    exact hM
end
end Go.Proofs.YtopcnkejobomaaaGreat
namespace Go.Proofs.YtopcnkejobomaaaGreat
open Go.RowKit
section
variable {H : Hp} {w0 w : World} {L R : List Res} {A : Option Addr} {n c : Nat} {cv : Chg.Prp → Chg.Prp → Int} {fc : Nat}
theorem swapRP_to {T T' : List (Chg.Prp × Nat)} (P U Q V S : List (Chg.Prp × Nat)) {a b k : Int} (ha : a = P.length) (hb : b = (P.length : Int) + U.length + Q.length) (hk : k = U.length) (hT : T = P ++ (U ++ (Q ++ (V ++ S)))) (hT' : T' = P ++ (V ++ (Q ++ (U ++ S)))) (hn : T.length = n) (hl : n ≤ 1000000) (hU : U.length = V.length) (x4 : Value) (hM : Mem H w0 (rowR 87 101 A n c (fTP T) :: R) w) :
    Calls Tryz.prog 162 #[.slice A n c, .int .i64 a, .int .i64 b, .int .i64 k, x4] w fun en w' => ∃ v, en = .returned v ∧ v = .tuple #[] ∧ Mem H w0 (rowR 87 101 A n c (fTP T') :: R) w' := by
  subst ha hb hk hT hT'
  exact swapRP_ok P U Q V S hn hl hU x4 hM
theorem rotRP_ok {T T' : List (Chg.Prp × Nat)} (P X Y S : List (Chg.Prp × Nat)) {a m b : Int} (ha : a = P.length) (hm : m = (P.length : Int) + X.length) (hb : b = (P.length : Int) + X.length + Y.length) (hT : T = P ++ (X ++ (Y ++ S))) (hT' : T' = P ++ (Y ++ (X ++ S))) (hX : 0 < X.length) (hY : 0 < Y.length) (hn : T.length = n) (hl : n ≤ 1000000) (x4 : Value) (hM : Mem H w0 (rowR 87 101 A n c (fTP T) :: R) w) :
    Calls Tryz.prog 153 #[.slice A n c, .int .i64 a, .int .i64 m, .int .i64 b, x4] w fun en w' => ∃ v, en = .returned v ∧ v = .tuple #[] ∧ Mem H w0 (rowR 87 101 A n c (fTP T') :: R) w' := by
  have hn2 : P.length + X.length + Y.length + S.length = n := by
    rw [hT] at hn
    simp only [List.length_append] at hn
    omega
  refine C_slices_rotateCmpFunc_api_Proposal ?_
  unfold F_slices_rotateCmpFunc_api_Proposal
  ((with_reducible (refine mop_c ?_ ?_)); (focus omega); (with_reducible (refine mop_c ?_ ?_)); (focus omega))
  refine ⟨fun v u w' => ∃ (E U V F' : List (Chg.Prp × Nat)), v = .int .i64 U.length ∧ u = .int .i64 V.length ∧ 0 < U.length ∧ 0 < V.length ∧ E.length + U.length = X.length ∧ E.length + U.length + V.length + F'.length = X.length + Y.length ∧ E ++ (V ++ (U ++ F')) = Y ++ X ∧ Mem H w0 (rowR 87 101 A n c (fTP (P ++ (E ++ (U ++ (V ++ (F' ++ S)))))) :: R) w', fun v u _ => match v, u with | .int _ i, .int _ j => i.toNat + j.toNat | _, _ => 0, ⟨[], X, Y, [], by rw [Value.int.injEq]; refine ⟨rfl, ?_⟩; omega, by rw [Value.int.injEq]; refine ⟨rfl, ?_⟩; omega, hX, hY, by simp, by simp, by simp, by rw [hT] at hM; simpa using hM⟩, ?_⟩
  clear hM
  rintro v u w1 w2 ⟨E, U, V, F', rfl, rfl, hU, hV, hE, hEl, hEq, hM⟩
  have hTl : (P ++ (E ++ (U ++ (V ++ (F' ++ S))))).length = n := by
    simp only [List.length_append]
    omega
  by_cases hij : U.length = V.length
  · ((with_reducible (refine mop_cF trivial ?_ ?_)); (focus (first | assumption | omega | with_reducible rfl | exact fun h => Bool.noConfusion h)); (with_reducible (refine mif_false ?_; refine mop_c ?_ ?_)); (focus omega))
    refine mm_own (swapRP_to (P ++ E) U [] V (F' ++ S) (by rw [List.length_append]; push_cast; omega) (by rw [List.length_append]; simp only [List.length_nil]; push_cast; omega) (by omega) (by simp only [List.append_assoc, List.nil_append]) rfl hTl hl hij x4 hM) ?_
    rintro v w3 ⟨rfl, hM⟩
    skip
    refine ⟨_, rfl, rfl, ?_⟩
    have e : (P ++ E) ++ (V ++ ([] ++ (U ++ (F' ++ S)))) = T' := by
      rw [hT', ← List.append_assoc Y X S, ← hEq]
      simp only [List.append_assoc, List.nil_append]
    rw [← e]
    exact hM
  by_cases hgt : V.length < U.length
  · have e1 : U = U.take V.length ++ U.drop V.length := (List.take_append_drop _ _).symm
    have l1 : (U.take V.length).length = V.length := by rw [List.length_take]; omega
    have l2 : (U.drop V.length).length = U.length - V.length := List.length_drop
    generalize U.take V.length = U1 at e1 l1
    generalize U.drop V.length = U2 at e1 l2
    ((with_reducible (refine mop_cT trivial ?_ ?_)); (focus (first | assumption | omega | with_reducible rfl | exact fun h => Bool.noConfusion h)); (with_reducible (refine mif_true ?_; refine mop_cT trivial ?_ ?_)); (focus (first | assumption | omega | with_reducible rfl | exact fun h => Bool.noConfusion h)); (with_reducible (refine mif_true ?_; refine mop_c ?_ ?_)); (focus omega))
    refine mm_own (swapRP_to (P ++ E) U1 U2 V (F' ++ S) (by rw [List.length_append]; push_cast; omega) (by rw [List.length_append]; push_cast; omega) (by omega) (by rw [e1]; simp only [List.append_assoc]) rfl hTl hl l1 x4 hM) ?_
    rintro v w3 ⟨rfl, hM⟩
    ((with_reducible (refine mop_c ?_ ?_)); (focus omega))
    refine ⟨⟨E ++ V, U2, U1, F', by rw [Value.int.injEq]; refine ⟨rfl, ?_⟩; omega, by rw [Value.int.injEq]; refine ⟨rfl, ?_⟩; omega, by omega, by omega, by rw [List.length_append]; omega, by rw [List.length_append]; omega, by rw [← hEq, e1]; simp only [List.append_assoc], by simpa only [List.append_assoc] using hM⟩, by simp only; omega⟩
  · have e1 : V = V.take (V.length - U.length) ++ V.drop (V.length - U.length) := (List.take_append_drop _ _).symm
    have l1 : (V.take (V.length - U.length)).length = V.length - U.length := by rw [List.length_take]; omega
    have l2 : (V.drop (V.length - U.length)).length = U.length := by rw [List.length_drop]; omega
    generalize V.take (V.length - U.length) = V1 at e1 l1
    generalize V.drop (V.length - U.length) = V2 at e1 l2
    ((with_reducible (refine mop_cT trivial ?_ ?_)); (focus (first | assumption | omega | with_reducible rfl | exact fun h => Bool.noConfusion h)); (with_reducible (refine mif_true ?_; refine mop_cF trivial ?_ ?_)); (focus (first | assumption | omega | with_reducible rfl | exact fun h => Bool.noConfusion h)); (with_reducible (refine mif_false ?_; refine mop_c ?_ ?_)); (focus omega); (with_reducible (refine mop_c ?_ ?_)); (focus omega); (with_reducible (refine mop_c ?_ ?_)); (focus omega))
    refine mm_own (swapRP_to (P ++ E) U V1 V2 (F' ++ S) (by rw [List.length_append]; push_cast; omega) (by rw [List.length_append]; push_cast; omega) (by omega) (by rw [e1]; simp only [List.append_assoc]) rfl hTl hl l2.symm x4 hM) ?_
    rintro v w3 ⟨rfl, hM⟩
    ((with_reducible (refine mop_c ?_ ?_)); (focus omega))
    refine ⟨⟨E, V2, V1, U ++ F', by rw [Value.int.injEq]; refine ⟨rfl, ?_⟩; omega, by rw [Value.int.injEq]; refine ⟨rfl, ?_⟩; omega, by omega, by omega, by omega, by rw [List.length_append]; omega, by rw [← hEq, e1]; simp only [List.append_assoc], by simpa only [List.append_assoc] using hM⟩, by simp only; omega⟩
end
section
variable {H : Hp} {w0 w : World} {L R : List Res} {A : Option Addr} {n c : Nat} {cv : Chg.Prp → Chg.Prp → Int} {fc : Nat}
theorem insRP_ok [FunC Tryz.prog fc] [hc : ∀ x y : Chg.Prp, PurC Tryz.prog fc [.agg (fl (Chg.Prp.fds x)).toArray, .agg (fl (Chg.Prp.fds y)).toArray] True (.int .i64 (cv x y))] (hW : SW (ltP cv)) {T : List (Chg.Prp × Nat)} (P M S : List (Chg.Prp × Nat)) {a b : Int} (ha : a = P.length) (hb : b = (P.length : Int) + M.length) (hT : T = P ++ (M ++ S)) (ht : M.Pairwise (fun p q => p.2 < q.2)) (hn : T.length = n) (hl : n ≤ 1000000) (hM : Mem H w0 (rowR 87 101 A n c (fTP T) :: R) w) :
    Calls Tryz.prog 133 #[.slice A n c, .int .i64 a, .int .i64 b, fv fc] w fun en w' => ∃ v, en = .returned v ∧ v = .tuple #[] ∧ ∃ M', okR (ltP cv) M M' ∧ Mem H w0 (rowR 87 101 A n c (fTP (P ++ (M' ++ S))) :: R) w' := by
  have hn2 : P.length + M.length + S.length = n := by
    rw [hT] at hn
    simp only [List.length_append] at hn
    omega
  refine C_slices_insertionSortCmpFunc_api_Proposal ?_
  unfold F_slices_insertionSortCmpFunc_api_Proposal
  ((with_reducible (refine mop_c ?_ ?_)); (focus omega))
  refine ⟨fun v w' => ∃ (k : Nat) (M1 : List (Chg.Prp × Nat)), v = .int .i64 ((P.length : Int) + k) ∧ 1 ≤ k ∧ (k ≤ M.length ∨ k = 1) ∧ okR (ltP cv) (M.take k) M1 ∧ Mem H w0 (rowR 87 101 A n c (fTP (P ++ (M1 ++ (M.drop k ++ S)))) :: R) w', fun v _ => match v with | .int _ k => n + 2 - k.toNat | _ => 0, ⟨1, M.take 1, by rw [Value.int.injEq]; refine ⟨rfl, ?_⟩; omega, by omega, .inr rfl, ⟨.refl _, ?_⟩, ?_⟩, ?_⟩
  · cases M with
    | nil => exact .nil
    | cons x r => simp
  · rw [← List.append_assoc (M.take 1), List.take_append_drop, ← hT]
    exact hM
  clear hM
  rintro v u w1 ⟨k, M1, rfl, hk1, hk2, hok, hM⟩
  ((with_reducible (refine mop_cS trivial ?_ ?_)))
  · intro hlt
    have hkl : k < M.length := by omega
    have hl1 : M1.length = k := by
      rw [hok.1.length_eq, List.length_take]
      omega
    have hdr : M.drop k = M[k] :: M.drop (k + 1) := List.drop_eq_getElem_cons hkl
    have htag : ∀ y ∈ M1, y.2 < M[k].2 := fun y hy => by
      have hy := hok.1.mem_iff.1 hy
      obtain ⟨j, hj, rfl⟩ := List.mem_take_iff_getElem.1 hy
      exact List.pairwise_iff_getElem.1 ht j k (by omega) hkl (by omega)
    obtain ⟨x, hx⟩ : ∃ x, M[k] = x := ⟨_, rfl⟩
    rw [hx] at hdr htag
    ((with_reducible (refine mif_true ?_)))
    refine ⟨fun v w' => ∃ (X Y : List (Chg.Prp × Nat)), v = .int .i64 ((P.length : Int) + X.length) ∧ X ++ Y = M1 ∧ (∀ y ∈ Y, tl (ltP cv) x y) ∧ Mem H w0 (rowR 87 101 A n c (fTP (P ++ (X ++ x :: (Y ++ (M.drop (k + 1) ++ S))))) :: R) w', fun v _ => match v with | .int _ k => k.toNat | _ => 0, ⟨M1, [], by rw [hl1], by simp, by simp, by rw [hdr] at hM; simpa using hM⟩, ?_⟩
    clear hM
    rintro v u2 w2 ⟨X, Y, rfl, hXY, hY, hM⟩
    have hXl : X.length ≤ k := by
      rw [← hl1, ← hXY, List.length_append]
      omega
    have hTl : (P ++ (X ++ x :: (Y ++ (M.drop (k + 1) ++ S)))).length = n := by
      have := congrArg List.length hXY
      simp only [List.length_append, List.length_cons, List.length_drop] at this ⊢
      omega
    have hexit : (X = [] ∨ ∃ X' y, X = X' ++ [y] ∧ tl (ltP cv) y x) → okR (ltP cv) (M.take (k + 1)) (X ++ x :: Y) := fun he => by
      refine ⟨?_, pw_ins hW (by rw [hXY]; exact hok.2) hY he⟩
      rw [List.take_succ_eq_append_getElem hkl, hx]
      refine List.perm_middle.trans ?_
      rw [hXY]
      exact ((hok.1.cons x)).trans (List.perm_append_singleton x _).symm
    refine ⟨fun w' => ∃ (X' : List (Chg.Prp × Nat)) (y : Chg.Prp × Nat), X = X' ++ [y] ∧ tl (ltP cv) x y ∧ Mem H w0 (rowR 87 101 A n c (fTP (P ++ (X ++ x :: (Y ++ (M.drop (k + 1) ++ S))))) :: R) w', ?_, ?_⟩
    · rcases List.eq_nil_or_concat X with rfl | ⟨X', y, hxx⟩
      · have h0 : ([] : List (Chg.Prp × Nat)).length = 0 := rfl
        ((with_reducible (refine dp_cF trivial ?_ ?_)); (focus (first | assumption | omega | with_reducible rfl | exact fun h => Bool.noConfusion h)); (with_reducible ((iterate 10 refine qguard_n2 ?_); refine mguard_n2 ?_; refine qguard_n2 ?_; refine dp_c trivial ?_; refine mm_end hM ?_; clear hM; intro _ hM; refine mif_false ?_; refine mop_c ?_ ?_)); (focus omega))
        refine ⟨⟨k + 1, [] ++ x :: Y, by rw [Value.int.injEq]; refine ⟨rfl, ?_⟩; push_cast; omega, by omega, .inl (by omega), hexit (.inl rfl), by simpa using hM⟩, by simp only; omega⟩
      · rw [List.concat_eq_append] at hxx
        subst hxx
        have hT2 : P ++ ((X' ++ [y]) ++ x :: (Y ++ (M.drop (k + 1) ++ S))) = (P ++ X') ++ y :: ([] ++ x :: (Y ++ (M.drop (k + 1) ++ S))) := by simp only [List.append_assoc, List.cons_append, List.nil_append]
        obtain ⟨T2, hT3⟩ : ∃ T2, P ++ ((X' ++ [y]) ++ x :: (Y ++ (M.drop (k + 1) ++ S))) = T2 := ⟨_, rfl⟩
        rw [hT3] at hM hTl hT2
        rw [List.length_append, List.length_singleton] at hXl ⊢
        have g1 : ∀ (q : Nat) (hq : q < T2.length), q = P.length + (X'.length + 1) → T2[q] = x := fun q hq e => by
          subst e
          simp only [hT2]
          exact swp_r _ _ _ _ _ (by rw [List.length_append]; simp only [List.length_nil]; omega) _
        have g2 : ∀ (q : Nat) (hq : q < T2.length), q = P.length + X'.length → T2[q] = y := fun q hq e => by
          subst e
          simp only [hT2]
          exact swp_l _ _ _ _ _ (by rw [List.length_append]) _
        ((with_reducible (refine dp_cT trivial ?_ ?_)); (focus (first | assumption | omega | with_reducible rfl | exact fun h => Bool.noConfusion h)); (with_reducible (refine qguard_yes ?_; refine dp_c trivial ?_; refine qguard_yes ?_; refine dp_c trivial ?_; refine qguard_yes ?_; refine dp_c trivial ?_; refine qguard_yes ?_; refine dp_ixr hM ?_ ?_)); (focus omega); (with_reducible (intro _ hA)); (cases hA); (with_reducible (refine qguard_yes ?_; refine dm_ldr0 hM (map_atI ?_) ?_)); (focus omega); (with_reducible (refine qguard_yes ?_; refine dp_c trivial ?_; refine qguard_yes ?_; refine dp_c trivial ?_; refine qguard_yes ?_; refine dp_c ?_ ?_)); (focus omega); (with_reducible (refine qguard_yes ?_; refine dp_ixr hM ?_ ?_)); (focus omega); (with_reducible (intro _ hA)); (cases hA); (with_reducible (refine qguard_yes ?_; refine dm_ldr0 hM (map_at ?_) ?_)); (focus omega); (with_reducible (refine mguard_yes ?_; refine dm_purC hM ?_ (fun _ _ hM => ?_))); (focus (first | exact trivial | assumption | omega)); (with_reducible (refine qguard_yes ?_)))
        ((with_reducible (refine dp_cS trivial ?_ ?_)))
        · intro hc
          rw [g1 _ _ (by omega), g2 _ _ (by omega)] at hc
          ((with_reducible (refine dp_c trivial ?_; refine mm_end hM ?_; clear hM; intro _ hM; refine mif_true ?_)))
          exact ⟨X', y, rfl, .inl (decide_eq_true hc), by rw [hT3]; exact hM⟩
        · intro hc
          rw [g1 _ _ (by omega), g2 _ _ (by omega)] at hc
          ((with_reducible (refine dp_c trivial ?_; refine mm_end hM ?_; clear hM; intro _ hM; refine mif_false ?_; refine mop_c ?_ ?_)); (focus omega))
          refine ⟨⟨k + 1, (X' ++ [y]) ++ x :: Y, by rw [Value.int.injEq]; refine ⟨rfl, ?_⟩; push_cast; omega, by omega, .inl (by omega), hexit (.inr ⟨X', y, rfl, tl_of _ _ (decide_eq_false hc) (htag y (by rw [← hXY]; simp))⟩), ?_⟩, by simp only; omega⟩
          rw [← hT3] at hM
          simpa only [List.append_assoc, List.cons_append] using hM
    clear hM
    rintro u3 w3 ⟨X', y, rfl, hxy, hM⟩
    have hT2 : P ++ ((X' ++ [y]) ++ x :: (Y ++ (M.drop (k + 1) ++ S))) = (P ++ X') ++ y :: ([] ++ x :: (Y ++ (M.drop (k + 1) ++ S))) := by simp only [List.append_assoc, List.cons_append, List.nil_append]
    rw [hT2] at hM hTl
    rw [List.length_append, List.length_singleton] at hXl ⊢
    obtain ⟨T2, hT3⟩ : ∃ T2, (P ++ X') ++ y :: ([] ++ x :: (Y ++ (M.drop (k + 1) ++ S))) = T2 := ⟨_, rfl⟩
    rw [hT3] at hM hTl
    have p1 : P.length + X'.length = (P ++ X').length := by rw [List.length_append]
    have p2 : P.length + (X'.length + 1) = (P ++ X').length + 1 + ([] : List (Chg.Prp × Nat)).length := by rw [List.length_append]; simp only [List.length_nil]; omega
    have g1 : ∀ (q : Nat) (hq : q < T2.length), q = P.length + (X'.length + 1) → T2[q] = x := fun q hq e => by
      subst e
      simp only [← hT3]
      exact swp_r _ _ _ _ _ p2 _
    have g2 : ∀ (q : Nat) (hq : q < T2.length), q = P.length + X'.length → T2[q] = y := fun q hq e => by
      subst e
      simp only [← hT3]
      exact swp_l _ _ _ _ _ p1 _
    ((with_reducible (refine dp_c ?_ ?_)); (focus omega); (with_reducible (refine dp_c ?_ ?_)); (focus omega); (with_reducible (refine dp_ixr hM ?_ ?_)); (focus omega); (with_reducible (intro _ hA)); (cases hA); (with_reducible (refine dm_ldr0 hM (map_at ?_) ?_)); (focus omega); (with_reducible (refine dp_ixr hM ?_ ?_)); (focus omega); (with_reducible (intro _ hA)); (cases hA); (with_reducible (refine dm_ldr0 hM (map_atI ?_) ?_)); (focus omega); (with_reducible (refine dp_ixr hM ?_ ?_)); (focus omega); (with_reducible (intro _ hA)); (cases hA))
    refine dm_str0 hM (map_at (by omega)) (fun w' hM => ?_)
    ((with_reducible (refine dp_ixr hM ?_ ?_)); (focus omega); (with_reducible (intro _ hA)); (cases hA))
    refine dm_str0 hM (by rw [List.getElem?_set_ne (by omega)]; exact map_at (by omega)) (fun w' hM => ?_)
    first | rw [g1 _ _ (by omega), g2 _ _ (by omega)] at hM | rw [g2 _ _ (by omega), g1 _ _ (by omega)] at hM
    have i1 : ((P.length : Int) + ((X'.length + 1 : Nat) : Int)).toNat = P.length + (X'.length + 1) := by omega
    have i2 : ((P.length : Int) + ((X'.length + 1 : Nat) : Int) - 1).toNat = P.length + X'.length := by omega
    rw [i1, i2] at hM
    have hs : ((fTP T2).set (P.length + (X'.length + 1)) (Chg.Prp.fds y.1)).set (P.length + X'.length) (Chg.Prp.fds x.1) = fTP ((P ++ X') ++ x :: ([] ++ y :: (Y ++ (M.drop (k + 1) ++ S)))) := by
      rw [← hT3]
      exact swpP' _ _ _ _ _ p1 p2
    have hM2 : Mem H w0 (rowR 87 101 _ n c (((fTP T2).set (P.length + (X'.length + 1)) (Chg.Prp.fds y.1)).set (P.length + X'.length) (Chg.Prp.fds x.1)) :: R) _ := hM
    rw [hs] at hM2
    have hM := hM2
    clear hM2
    ((with_reducible (refine mm_end hM ?_; clear hM; intro _ hM; refine mop_c ?_ ?_)); (focus omega))
    refine ⟨⟨X', y :: Y, by rw [Value.int.injEq]; refine ⟨rfl, ?_⟩; omega, by rw [← hXY]; simp, fun z hz => ?_, by simpa only [List.append_assoc, List.cons_append, List.nil_append] using hM⟩, by simp only; omega⟩
    rcases List.mem_cons.1 hz with rfl | hz
    · exact hxy
    · exact hY z hz
  · intro hge
    ((with_reducible (refine mif_false ?_)))
    have hk3 : M.take k = M := List.take_of_length_le (by omega)
    have hk4 : M.drop k = [] := List.drop_eq_nil_of_le (by omega)
    rw [hk3] at hok
    rw [hk4, List.nil_append] at hM
    exact ⟨_, rfl, rfl, M1, hok, hM⟩
end
end Go.Proofs.YtopcnkejobomaaaGreat
namespace Go.Proofs.YtopcnkejobomaaaGreat
open Go.RowKit
section
variable {H : Hp} {w0 w : World} {L R : List Res} {A : Option Addr} {n c : Nat} {cv : Chg.Prp → Chg.Prp → Int} {fc : Nat}
theorem symAP_ok [FunC Tryz.prog fc] [hc : ∀ x y : Chg.Prp, PurC Tryz.prog fc [.agg (fl (Chg.Prp.fds x)).toArray, .agg (fl (Chg.Prp.fds y)).toArray] True (.int .i64 (cv x y))] (hW : SW (ltP cv)) {T : List (Chg.Prp × Nat)} (P V S : List (Chg.Prp × Nat)) (x : Chg.Prp × Nat) {a m b : Int} (ha : a = P.length) (hm : m = (P.length : Int) + 1) (hb : b = (P.length : Int) + 1 + V.length) (hT : T = P ++ (x :: (V ++ S))) (hV : V.Pairwise (tl (ltP cv))) (ht : ∀ v ∈ V, x.2 < v.2) (hn : T.length = n) (hl : n ≤ 1000000) (hM : Mem H w0 (rowR 87 101 A n c (fTP T) :: R) w) :
    Calls Tryz.prog 134 #[.slice A n c, .int .i64 a, .int .i64 m, .int .i64 b, fv fc] w fun en w' => ∃ v, en = .returned v ∧ v = .tuple #[] ∧ ∃ M', M'.Perm (x :: V) ∧ M'.Pairwise (tl (ltP cv)) ∧ Mem H w0 (rowR 87 101 A n c (fTP (P ++ (M' ++ S))) :: R) w' := by
  have hn2 : P.length + 1 + V.length + S.length = n := by
    rw [hT] at hn
    simp only [List.length_append, List.length_cons] at hn
    omega
  have g1 : ∀ (q : Nat) (hq : q < T.length), q = P.length → T[q] = x := fun q hq e => by
    subst e
    simp [hT]
  have g2 : ∀ (q : Nat) (hq : q < T.length) (i : Nat) (hi : i < V.length), q = P.length + 1 + i → T[q] = V[i] := fun q hq i hi e => by
    subst e
    simp only [hT]
    rw [List.getElem_append_right (by omega)]
    simp only [show P.length + 1 + i - P.length = i + 1 by omega, List.getElem_cons_succ]
    rw [List.getElem_append_left hi]
  refine C_slices_symMergeCmpFunc_api_Proposal ?_
  unfold F_slices_symMergeCmpFunc_api_Proposal
  ((with_reducible (refine mop_c ?_ ?_)); (focus omega); (with_reducible (refine mop_cT trivial ?_ ?_)); (focus (first | assumption | omega | with_reducible rfl | exact fun h => Bool.noConfusion h)); (with_reducible (refine mif_true ?_)))
  refine ⟨fun v u w' => ∃ (I J : Nat), v = .int .i64 ((P.length : Int) + 1 + I) ∧ u = .int .i64 ((P.length : Int) + 1 + J) ∧ I ≤ J ∧ J ≤ V.length ∧ (∀ y ∈ V.take I, tl (ltP cv) y x) ∧ (∀ y ∈ V.drop J, tl (ltP cv) x y) ∧ hM.now w', fun v u _ => match v, u with | .int _ i, .int _ j => j.toNat - i.toNat | _, _ => 0, ⟨0, V.length, by rw [Value.int.injEq]; refine ⟨rfl, ?_⟩; omega, by rw [Value.int.injEq]; refine ⟨rfl, ?_⟩; omega, by omega, by omega, by simp, by simp, hM⟩, ?_⟩
  rintro v u u2 w2 ⟨I, J, rfl, rfl, hIJ, hJ, hI1, hJ1, hM⟩
  ((with_reducible (refine mop_cS trivial ?_ ?_)))
  · intro hlt
    have hlt' : I < J := by omega
    ((with_reducible (refine mif_true ?_; refine mop_c ?_ ?_)); (focus omega); (with_reducible (refine mop_c trivial ?_; refine mop_c ?_ ?_)); (focus omega))
    have e2 : ((P.length : Int) + 1 + I + (P.length + 1 + J)) % 18446744073709551616 / 2 ^ Int.toNat 1 = (P.length : Int) + 1 + ((I + J) / 2 : Nat) := by
      rw [show (2 : Int) ^ Int.toNat 1 = 2 from rfl]
      omega
    rw [e2]
    have hd : I ≤ (I + J) / 2 ∧ (I + J) / 2 < J := by omega
    generalize (I + J) / 2 = d at hd
    have hdl : d < V.length := by omega
    ((with_reducible (refine mop_c ?_ ?_)); (focus omega); (with_reducible (refine dp_ixr hM ?_ ?_)); (focus omega); (with_reducible (intro _ hA)); (cases hA); (with_reducible (refine dm_ldr0 hM (map_at ?_) ?_)); (focus omega); (with_reducible (refine dp_ixr hM ?_ ?_)); (focus omega); (with_reducible (intro _ hA)); (cases hA); (with_reducible (refine dm_ldr0 hM (map_at ?_) ?_)); (focus omega); (with_reducible (refine dm_purC hM ?_ (fun _ _ hM => ?_))); (focus (first | exact trivial | assumption | omega)))
    ((with_reducible (refine dp_cS trivial ?_ ?_)))
    · intro hcm
      rw [g2 _ _ d hdl (by omega), g1 _ _ (by omega)] at hcm
      ((with_reducible (refine mm_end hM ?_; clear hM; intro _ hM; refine mif_true ?_; refine mop_c ?_ ?_)); (focus omega))
      exact ⟨⟨d + 1, J, by rw [Value.int.injEq]; refine ⟨rfl, ?_⟩; push_cast; omega, rfl, by omega, hJ, up_take hW hV hdl (.inl (decide_eq_true hcm)), hJ1, hM⟩, by simp only; omega⟩
    · intro hcm
      rw [g2 _ _ d hdl (by omega), g1 _ _ (by omega)] at hcm
      ((with_reducible (refine mm_end hM ?_; clear hM; intro _ hM; refine mif_false ?_)))
      exact ⟨⟨I, d, rfl, rfl, by omega, by omega, hI1, dn_drop hW hV hdl (tl_of _ _ (decide_eq_false hcm) (ht _ (List.getElem_mem hdl))), hM⟩, by simp only; omega⟩
  · intro hge
    obtain rfl : I = J := by omega
    ((with_reducible (refine mif_false ?_)))
    have hM : Mem H w0 (rowR 87 101 A n c (fTP T) :: R) _ := hM
    rw [hT] at hM
    clear g1 g2
    refine ⟨fun v w' => ∃ q : Nat, v = .int .i64 ((P.length : Int) + q) ∧ q ≤ I ∧ Mem H w0 (rowR 87 101 A n c (fTP (P ++ (V.take q ++ x :: (V.drop q ++ S)))) :: R) w', fun v _ => match v with | .int _ k => n - k.toNat | _ => 0, ⟨0, by rw [Value.int.injEq]; refine ⟨rfl, ?_⟩; omega, by omega, hM⟩, ?_⟩
    clear hM
    rintro v u3 w3 ⟨q, rfl, hq, hM⟩
    ((with_reducible (refine mop_c ?_ ?_)); (focus omega))
    ((with_reducible (refine mop_cS trivial ?_ ?_)))
    · intro hlt
      have hqv : q < V.length := by omega
      have hTl : (P ++ (V.take q ++ x :: (V.drop q ++ S))).length = n := by
        simp only [List.length_append, List.length_cons, List.length_take, List.length_drop]
        omega
      have e1 : P ++ (V.take q ++ x :: (V.drop q ++ S)) = (P ++ V.take q) ++ x :: ([] ++ V[q] :: (V.drop (q + 1) ++ S)) := by
        rw [List.drop_eq_getElem_cons hqv]
        simp only [List.append_assoc, List.cons_append, List.nil_append]
      have e2 : P ++ (V.take (q + 1) ++ x :: (V.drop (q + 1) ++ S)) = (P ++ V.take q) ++ V[q] :: ([] ++ x :: (V.drop (q + 1) ++ S)) := by
        rw [List.take_succ_eq_append_getElem hqv]
        simp only [List.append_assoc, List.cons_append, List.nil_append]
      obtain ⟨y, hy⟩ : ∃ y, V[q] = y := ⟨_, rfl⟩
      rw [hy] at e1 e2
      obtain ⟨T2, hT2⟩ : ∃ T2, P ++ (V.take q ++ x :: (V.drop q ++ S)) = T2 := ⟨_, rfl⟩
      rw [hT2] at hM hTl e1
      have p1 : P.length + q = (P ++ V.take q).length := by
        rw [List.length_append, List.length_take]
        omega
      have p2 : P.length + q + 1 = (P ++ V.take q).length + 1 + ([] : List (Chg.Prp × Nat)).length := by
        rw [← p1]
        rfl
      have g1 : ∀ (k : Nat) (hk : k < T2.length), k = P.length + q → T2[k] = x := fun k hk e => by
        subst e
        simp only [e1]
        exact swp_l _ _ _ _ _ p1 _
      have g2 : ∀ (k : Nat) (hk : k < T2.length), k = P.length + q + 1 → T2[k] = y := fun k hk e => by
        subst e
        simp only [e1]
        exact swp_r _ _ _ _ _ p2 _
      ((with_reducible (refine mif_true ?_; refine dp_c ?_ ?_)); (focus omega); (with_reducible (refine dp_c ?_ ?_)); (focus omega); (with_reducible (refine dp_ixr hM ?_ ?_)); (focus omega); (with_reducible (intro _ hA)); (cases hA); (with_reducible (refine dm_ldr0 hM (map_at ?_) ?_)); (focus omega); (with_reducible (refine dp_ixr hM ?_ ?_)); (focus omega); (with_reducible (intro _ hA)); (cases hA); (with_reducible (refine dm_ldr0 hM (map_atI ?_) ?_)); (focus omega); (with_reducible (refine dp_ixr hM ?_ ?_)); (focus omega); (with_reducible (intro _ hA)); (cases hA))
      refine dm_str0 hM (map_at (by omega)) (fun w' hM => ?_)
      ((with_reducible (refine dp_ixr hM ?_ ?_)); (focus omega); (with_reducible (intro _ hA)); (cases hA))
      refine dm_str0 hM (by rw [List.getElem?_set_ne (by omega)]; exact map_at (by omega)) (fun w' hM => ?_)
      first | rw [g1 _ _ (by omega), g2 _ _ (by omega)] at hM | rw [g2 _ _ (by omega), g1 _ _ (by omega)] at hM
      have i1 : ((P.length : Int) + q).toNat = P.length + q := by omega
      have i2 : ((P.length : Int) + q + 1).toNat = P.length + q + 1 := by omega
      rw [i1, i2] at hM
      have hs : ((fTP T2).set (P.length + q) (Chg.Prp.fds y.1)).set (P.length + q + 1) (Chg.Prp.fds x.1) = fTP (P ++ (V.take (q + 1) ++ x :: (V.drop (q + 1) ++ S))) := by
        rw [e1, e2]
        exact swpP _ _ _ _ _ p1 p2
      have hM2 : Mem H w0 (rowR 87 101 _ n c (((fTP T2).set (P.length + q) (Chg.Prp.fds y.1)).set (P.length + q + 1) (Chg.Prp.fds x.1)) :: R) _ := hM
      rw [hs] at hM2
      have hM := hM2
      clear hM2
      ((with_reducible (refine mm_end hM ?_; clear hM; intro _ hM; refine mop_c ?_ ?_)); (focus omega))
      exact ⟨⟨q + 1, by rw [Value.int.injEq]; refine ⟨rfl, ?_⟩; push_cast; omega, by omega, hM⟩, by simp only; omega⟩
    · intro hge2
      obtain rfl : q = I := by omega
      ((with_reducible (refine mif_false ?_)))
      refine ⟨_, rfl, rfl, V.take q ++ x :: V.drop q, ?_, pw_mid (by rw [List.take_append_drop]; exact hV) hI1 hJ1, by simpa only [List.append_assoc, List.cons_append] using hM⟩
      refine List.perm_middle.trans ?_
      rw [List.take_append_drop]
theorem symBP_ok [FunC Tryz.prog fc] [hc : ∀ x y : Chg.Prp, PurC Tryz.prog fc [.agg (fl (Chg.Prp.fds x)).toArray, .agg (fl (Chg.Prp.fds y)).toArray] True (.int .i64 (cv x y))] (hW : SW (ltP cv)) {T : List (Chg.Prp × Nat)} (P V S : List (Chg.Prp × Nat)) (x : Chg.Prp × Nat) (hv1 : V.length ≠ 1) {a m b : Int} (ha : a = P.length) (hm : m = (P.length : Int) + V.length) (hb : b = (P.length : Int) + V.length + 1) (hT : T = P ++ (V ++ x :: S)) (hV : V.Pairwise (tl (ltP cv))) (ht : ∀ v ∈ V, v.2 < x.2) (hn : T.length = n) (hl : n ≤ 1000000) (hM : Mem H w0 (rowR 87 101 A n c (fTP T) :: R) w) :
    Calls Tryz.prog 134 #[.slice A n c, .int .i64 a, .int .i64 m, .int .i64 b, fv fc] w fun en w' => ∃ v, en = .returned v ∧ v = .tuple #[] ∧ ∃ M', M'.Perm (V ++ [x]) ∧ M'.Pairwise (tl (ltP cv)) ∧ Mem H w0 (rowR 87 101 A n c (fTP (P ++ (M' ++ S))) :: R) w' := by
  have hn2 : P.length + 1 + V.length + S.length = n := by
    rw [hT] at hn
    simp only [List.length_append, List.length_cons] at hn
    omega
  have g1 : ∀ (q : Nat) (hq : q < T.length), q = P.length + V.length → T[q] = x := fun q hq e => by
    subst e
    simp [hT]
  have g2 : ∀ (q : Nat) (hq : q < T.length) (i : Nat) (hi : i < V.length), q = P.length + i → T[q] = V[i] := fun q hq i hi e => by
    subst e
    simp only [hT]
    rw [List.getElem_append_right (by omega)]
    simp only [show P.length + i - P.length = i by omega]
    rw [List.getElem_append_left hi]
  refine C_slices_symMergeCmpFunc_api_Proposal ?_
  unfold F_slices_symMergeCmpFunc_api_Proposal
  ((with_reducible (refine mop_c ?_ ?_)); (focus omega); (with_reducible (refine mop_cF trivial ?_ ?_)); (focus (first | assumption | omega | with_reducible rfl | exact fun h => Bool.noConfusion h)); (with_reducible (refine mif_false ?_; refine mop_c ?_ ?_)); (focus omega); (with_reducible (refine mop_cT trivial ?_ ?_)); (focus (first | assumption | omega | with_reducible rfl | exact fun h => Bool.noConfusion h)); (with_reducible (refine mif_true ?_)))
  refine ⟨fun v u w' => ∃ (I J : Nat), v = .int .i64 ((P.length : Int) + I) ∧ u = .int .i64 ((P.length : Int) + J) ∧ I ≤ J ∧ J ≤ V.length ∧ (∀ y ∈ V.take I, tl (ltP cv) y x) ∧ (∀ y ∈ V.drop J, tl (ltP cv) x y) ∧ hM.now w', fun v u _ => match v, u with | .int _ i, .int _ j => j.toNat - i.toNat | _, _ => 0, ⟨0, V.length, by rw [Value.int.injEq]; refine ⟨rfl, ?_⟩; omega, by rw [Value.int.injEq]; refine ⟨rfl, ?_⟩; omega, by omega, by omega, by simp, by simp, hM⟩, ?_⟩
  rintro v u u2 w2 ⟨I, J, rfl, rfl, hIJ, hJ, hI1, hJ1, hM⟩
  ((with_reducible (refine mop_cS trivial ?_ ?_)))
  · intro hlt
    have hlt' : I < J := by omega
    ((with_reducible (refine mif_true ?_; refine mop_c ?_ ?_)); (focus omega); (with_reducible (refine mop_c trivial ?_; refine mop_c ?_ ?_)); (focus omega))
    have e2 : ((P.length : Int) + I + (P.length + J)) % 18446744073709551616 / 2 ^ Int.toNat 1 = (P.length : Int) + ((I + J) / 2 : Nat) := by
      rw [show (2 : Int) ^ Int.toNat 1 = 2 from rfl]
      omega
    rw [e2]
    have hd : I ≤ (I + J) / 2 ∧ (I + J) / 2 < J := by omega
    generalize (I + J) / 2 = d at hd
    have hdl : d < V.length := by omega
    ((with_reducible (refine mop_c ?_ ?_)); (focus omega); (with_reducible (refine dp_ixr hM ?_ ?_)); (focus omega); (with_reducible (intro _ hA)); (cases hA); (with_reducible (refine dm_ldr0 hM (map_at ?_) ?_)); (focus omega); (with_reducible (refine dp_ixr hM ?_ ?_)); (focus omega); (with_reducible (intro _ hA)); (cases hA); (with_reducible (refine dm_ldr0 hM (map_atI ?_) ?_)); (focus omega); (with_reducible (refine dm_purC hM ?_ (fun _ _ hM => ?_))); (focus (first | exact trivial | assumption | omega)))
    rw [g1 _ _ (by omega), g2 _ _ d hdl (by omega)]
    by_cases hcm : cv x.1 V[d].1 < 0
    · ((with_reducible (refine dp_cT trivial ?_ ?_)); (focus (first | assumption | omega | with_reducible rfl | exact fun h => Bool.noConfusion h)); (with_reducible (refine dp_c trivial ?_; refine mm_end hM ?_; clear hM; intro _ hM; refine mif_false ?_)))
      exact ⟨⟨I, d, rfl, rfl, by omega, by omega, hI1, dn_drop hW hV hdl (.inl (decide_eq_true hcm)), hM⟩, by simp only; omega⟩
    · ((with_reducible (refine dp_cF trivial ?_ ?_)); (focus (first | assumption | omega | with_reducible rfl | exact fun h => Bool.noConfusion h)); (with_reducible (refine dp_c trivial ?_; refine mm_end hM ?_; clear hM; intro _ hM; refine mif_true ?_; refine mop_c ?_ ?_)); (focus omega))
      exact ⟨⟨d + 1, J, by rw [Value.int.injEq]; refine ⟨rfl, ?_⟩; push_cast; omega, rfl, by omega, hJ, up_take hW hV hdl (tl_of _ _ (decide_eq_false hcm) (ht _ (List.getElem_mem hdl))), hJ1, hM⟩, by simp only; omega⟩
  · intro hge
    obtain rfl : I = J := by omega
    ((with_reducible (refine mif_false ?_)))
    have hM : Mem H w0 (rowR 87 101 A n c (fTP T) :: R) _ := hM
    rw [hT] at hM
    clear g1 g2
    refine ⟨fun v w' => ∃ q : Nat, v = .int .i64 ((P.length : Int) + q) ∧ I ≤ q ∧ q ≤ V.length ∧ Mem H w0 (rowR 87 101 A n c (fTP (P ++ (V.take q ++ x :: (V.drop q ++ S)))) :: R) w', fun v _ => match v with | .int _ k => k.toNat | _ => 0, ⟨V.length, by rw [Value.int.injEq]; refine ⟨rfl, ?_⟩; omega, by omega, by omega, by simpa using hM⟩, ?_⟩
    clear hM
    rintro v u3 w3 ⟨q, rfl, hq, hq2, hM⟩
    ((with_reducible (refine mop_cS trivial ?_ ?_)))
    · intro hlt
      obtain ⟨q, rfl⟩ : ∃ q', q = q' + 1 := ⟨q - 1, by omega⟩
      have hqv : q < V.length := by omega
      have hTl : (P ++ (V.take (q + 1) ++ x :: (V.drop (q + 1) ++ S))).length = n := by
        simp only [List.length_append, List.length_cons, List.length_take, List.length_drop]
        omega
      have e1 : P ++ (V.take (q + 1) ++ x :: (V.drop (q + 1) ++ S)) = (P ++ V.take q) ++ V[q] :: ([] ++ x :: (V.drop (q + 1) ++ S)) := by
        rw [List.take_succ_eq_append_getElem hqv]
        simp only [List.append_assoc, List.cons_append, List.nil_append]
      have e2 : P ++ (V.take q ++ x :: (V.drop q ++ S)) = (P ++ V.take q) ++ x :: ([] ++ V[q] :: (V.drop (q + 1) ++ S)) := by
        rw [List.drop_eq_getElem_cons hqv]
        simp only [List.append_assoc, List.cons_append, List.nil_append]
      obtain ⟨y, hy⟩ : ∃ y, V[q] = y := ⟨_, rfl⟩
      rw [hy] at e1 e2
      obtain ⟨T2, hT2⟩ : ∃ T2, P ++ (V.take (q + 1) ++ x :: (V.drop (q + 1) ++ S)) = T2 := ⟨_, rfl⟩
      rw [hT2] at hM hTl e1
      have p1 : P.length + q = (P ++ V.take q).length := by
        rw [List.length_append, List.length_take]
        omega
      have p2 : P.length + (q + 1) = (P ++ V.take q).length + 1 + ([] : List (Chg.Prp × Nat)).length := by
        rw [← p1]
        rfl
      have g1 : ∀ (k : Nat) (hk : k < T2.length), k = P.length + (q + 1) → T2[k] = x := fun k hk e => by
        subst e
        simp only [e1]
        exact swp_r _ _ _ _ _ p2 _
      have g2 : ∀ (k : Nat) (hk : k < T2.length), k = P.length + q → T2[k] = y := fun k hk e => by
        subst e
        simp only [e1]
        exact swp_l _ _ _ _ _ p1 _
      ((with_reducible (refine mif_true ?_; refine dp_c ?_ ?_)); (focus omega); (with_reducible (refine dp_c ?_ ?_)); (focus omega); (with_reducible (refine dp_ixr hM ?_ ?_)); (focus omega); (with_reducible (intro _ hA)); (cases hA); (with_reducible (refine dm_ldr0 hM (map_at ?_) ?_)); (focus omega); (with_reducible (refine dp_ixr hM ?_ ?_)); (focus omega); (with_reducible (intro _ hA)); (cases hA); (with_reducible (refine dm_ldr0 hM (map_atI ?_) ?_)); (focus omega); (with_reducible (refine dp_ixr hM ?_ ?_)); (focus omega); (with_reducible (intro _ hA)); (cases hA))
      refine dm_str0 hM (map_at (by omega)) (fun w' hM => ?_)
      ((with_reducible (refine dp_ixr hM ?_ ?_)); (focus omega); (with_reducible (intro _ hA)); (cases hA))
      refine dm_str0 hM (by rw [List.getElem?_set_ne (by omega)]; exact map_at (by omega)) (fun w' hM => ?_)
      first | rw [g1 _ _ (by omega), g2 _ _ (by omega)] at hM | rw [g2 _ _ (by omega), g1 _ _ (by omega)] at hM
      have i1 : ((P.length : Int) + ((q + 1 : Nat) : Int)).toNat = P.length + (q + 1) := by omega
      have i2 : ((P.length : Int) + ((q + 1 : Nat) : Int) - 1).toNat = P.length + q := by omega
      rw [i1, i2] at hM
      have hs : ((fTP T2).set (P.length + (q + 1)) (Chg.Prp.fds y.1)).set (P.length + q) (Chg.Prp.fds x.1) = fTP (P ++ (V.take q ++ x :: (V.drop q ++ S))) := by
        rw [e1, e2]
        exact swpP' _ _ _ _ _ p1 p2
      have hM2 : Mem H w0 (rowR 87 101 _ n c (((fTP T2).set (P.length + (q + 1)) (Chg.Prp.fds y.1)).set (P.length + q) (Chg.Prp.fds x.1)) :: R) _ := hM
      rw [hs] at hM2
      have hM := hM2
      clear hM2
      ((with_reducible (refine mm_end hM ?_; clear hM; intro _ hM; refine mop_c ?_ ?_)); (focus omega))
      exact ⟨⟨q, by rw [Value.int.injEq]; refine ⟨rfl, ?_⟩; push_cast; omega, by omega, by omega, hM⟩, by simp only; omega⟩
    · intro hge2
      obtain rfl : q = I := by omega
      ((with_reducible (refine mif_false ?_)))
      refine ⟨_, rfl, rfl, V.take q ++ x :: V.drop q, ?_, pw_mid (by rw [List.take_append_drop]; exact hV) hI1 hJ1, by simpa only [List.append_assoc, List.cons_append] using hM⟩
      refine List.perm_middle.trans ?_
      rw [List.take_append_drop]
      exact (List.perm_append_singleton x V).symm
end
end Go.Proofs.YtopcnkejobomaaaGreat
namespace Go.Proofs.YtopcnkejobomaaaGreat
open Go.RowKit
section
variable {H : Hp} {w0 w : World} {L R : List Res} {A : Option Addr} {n c : Nat} {cv : Chg.Prp → Chg.Prp → Int} {fc : Nat}
def symSP (H : Hp) (w0 : World) (R : List Res) (A : Option Addr) (n c : Nat) (cv : Chg.Prp → Chg.Prp → Int) (fc N : Nat) : Prop :=
  ∀ (T P U V S : List (Chg.Prp × Nat)) (a m b : Int) (w : World), a = P.length → m = (P.length : Int) + U.length → b = (P.length : Int) + U.length + V.length → T = P ++ (U ++ (V ++ S)) → 0 < U.length → 0 < V.length → U.length + V.length < N → U.Pairwise (tl (ltP cv)) → V.Pairwise (tl (ltP cv)) → (∀ u ∈ U, ∀ v ∈ V, u.2 < v.2) → T.length = n → Mem H w0 (rowR 87 101 A n c (fTP T) :: R) w →
    Calls Tryz.prog 134 #[.slice A n c, .int .i64 a, .int .i64 m, .int .i64 b, fv fc] w fun en w' => ∃ v, en = .returned v ∧ v = .tuple #[] ∧ ∃ M', M'.Perm (U ++ V) ∧ M'.Pairwise (tl (ltP cv)) ∧ Mem H w0 (rowR 87 101 A n c (fTP (P ++ (M' ++ S))) :: R) w'
theorem symCP_ok [FunC Tryz.prog fc] [hc : ∀ x y : Chg.Prp, PurC Tryz.prog fc [.agg (fl (Chg.Prp.fds x)).toArray, .agg (fl (Chg.Prp.fds y)).toArray] True (.int .i64 (cv x y))] (hW : SW (ltP cv)) (hl : n ≤ 1000000) {N : Nat} (ih : symSP H w0 R A n c cv fc N) {T : List (Chg.Prp × Nat)} (P U V S : List (Chg.Prp × Nat)) {a m b : Int} (ha : a = P.length) (hm : m = (P.length : Int) + U.length) (hb : b = (P.length : Int) + U.length + V.length) (hT : T = P ++ (U ++ (V ++ S))) (hu1 : 1 < U.length) (hv1 : 1 < V.length) (hN : U.length + V.length < N + 1) (hU : U.Pairwise (tl (ltP cv))) (hV : V.Pairwise (tl (ltP cv))) (ht : ∀ u ∈ U, ∀ v ∈ V, u.2 < v.2) (hn : T.length = n) (hM : Mem H w0 (rowR 87 101 A n c (fTP T) :: R) w) :
    Calls Tryz.prog 134 #[.slice A n c, .int .i64 a, .int .i64 m, .int .i64 b, fv fc] w fun en w' => ∃ v, en = .returned v ∧ v = .tuple #[] ∧ ∃ M', M'.Perm (U ++ V) ∧ M'.Pairwise (tl (ltP cv)) ∧ Mem H w0 (rowR 87 101 A n c (fTP (P ++ (M' ++ S))) :: R) w' := by
  subst ha hm hb
  have hn2 : P.length + U.length + V.length + S.length = n := by
    rw [hT] at hn
    simp only [List.length_append] at hn
    omega
  have g1 : ∀ (q : Nat) (hq : q < T.length) (i : Nat) (hi : i < U.length), q = P.length + i → T[q] = U[i] := fun q hq i hi e => by
    subst e
    simp only [hT]
    rw [List.getElem_append_right (by omega)]
    simp only [show P.length + i - P.length = i by omega]
    rw [List.getElem_append_left hi]
  have g2 : ∀ (q : Nat) (hq : q < T.length) (i : Nat) (hi : i < V.length), q = P.length + U.length + i → T[q] = V[i] := fun q hq i hi e => by
    subst e
    simp only [hT]
    rw [List.getElem_append_right (by omega)]
    simp only [show P.length + U.length + i - P.length = U.length + i by omega]
    rw [List.getElem_append_right (by omega)]
    simp only [show U.length + i - U.length = i by omega]
    rw [List.getElem_append_left hi]
  refine C_slices_symMergeCmpFunc_api_Proposal ?_
  unfold F_slices_symMergeCmpFunc_api_Proposal
  ((with_reducible (refine mop_c ?_ ?_)); (focus omega); (with_reducible (refine mop_cF trivial ?_ ?_)); (focus (first | assumption | omega | with_reducible rfl | exact fun h => Bool.noConfusion h)); (with_reducible (refine mif_false ?_; refine mop_c ?_ ?_)); (focus omega); (with_reducible (refine mop_cF trivial ?_ ?_)); (focus (first | assumption | omega | with_reducible rfl | exact fun h => Bool.noConfusion h)); (with_reducible (refine mif_false ?_; refine mop_c ?_ ?_)); (focus omega); (with_reducible (refine mop_c trivial ?_; refine mop_c ?_ ?_)); (focus omega))
  have e0 : ((P.length : Int) + (P.length + U.length + V.length)) % 18446744073709551616 / 2 ^ Int.toNat 1 = (P.length : Int) + ((U.length + V.length) / 2 : Nat) := by
    rw [show (2 : Int) ^ Int.toNat 1 = 2 from rfl]
    omega
  rw [e0]
  have hmu : 2 * ((U.length + V.length) / 2) ≤ U.length + V.length ∧ U.length + V.length ≤ 2 * ((U.length + V.length) / 2) + 1 := by omega
  generalize (U.length + V.length) / 2 = mu at hmu
  obtain ⟨lo, hi, z1, z2, z3, z4, z5, z6, zd⟩ : ∃ lo hi : Nat, lo ≤ hi ∧ hi ≤ U.length ∧ hi ≤ mu ∧ mu ≤ lo + V.length ∧ (lo = 0 ∨ mu = lo + V.length) ∧ (hi = U.length ∨ hi = mu) ∧ ((mu < U.length ∧ lo = mu - V.length ∧ hi = mu ∧ V.length ≤ mu) ∨ (¬ mu < U.length ∧ lo = 0 ∧ hi = U.length)) := by
    by_cases hc : mu < U.length
    · exact ⟨mu - V.length, mu, by omega, by omega, by omega, by omega, by omega, by omega, by omega⟩
    · exact ⟨0, U.length, by omega, by omega, by omega, by omega, by omega, by omega, by omega⟩
  ((with_reducible (refine mop_c ?_ ?_)); (focus omega); (with_reducible (refine mop_c ?_ ?_)); (focus omega))
  refine ⟨fun v u w' => v = .int .i64 ((P.length : Int) + lo) ∧ u = .int .i64 ((P.length : Int) + hi) ∧ hM.now w', ?_, ?_⟩
  · skip
    ((with_reducible (refine mop_cS trivial ?_ ?_)))
    · intro hc
      ((with_reducible (refine mif_true ?_; refine mop_c ?_ ?_)); (focus omega))
      exact ⟨by rw [Value.int.injEq]; refine ⟨rfl, ?_⟩; omega, by rw [Value.int.injEq]; refine ⟨rfl, ?_⟩; omega, hM⟩
    · intro hc
      ((with_reducible (refine mif_false ?_)))
      exact ⟨by rw [Value.int.injEq]; refine ⟨rfl, ?_⟩; omega, by rw [Value.int.injEq]; refine ⟨rfl, ?_⟩; omega, hM⟩
  clear zd
  rintro v u u2 w2 ⟨rfl, rfl, hM⟩
  ((with_reducible (refine mop_c ?_ ?_)); (focus omega))
  refine ⟨fun v u w' => ∃ (I J : Nat), v = .int .i64 ((P.length : Int) + I) ∧ u = .int .i64 ((P.length : Int) + J) ∧ lo ≤ I ∧ I ≤ J ∧ J ≤ hi ∧ (I = lo ∨ ∃ (i j : Nat) (hi : i < U.length) (hj : j < V.length), i + 1 = I ∧ j + I = mu ∧ tl (ltP cv) U[i] V[j]) ∧ (J = hi ∨ ∃ (i j : Nat) (hi : i < U.length) (hj : j < V.length), i = J ∧ j + 1 + J = mu ∧ tl (ltP cv) V[j] U[i]) ∧ hM.now w', fun v u _ => match v, u with | .int _ i, .int _ j => j.toNat - i.toNat | _, _ => 0, ⟨lo, hi, rfl, rfl, by omega, by omega, by omega, .inl rfl, .inl rfl, hM⟩, ?_⟩
  rintro v u u2 w2 ⟨I, J, rfl, rfl, hI0, hIJ, hJ0, hI1, hJ1, hM⟩
  ((with_reducible (refine mop_cS trivial ?_ ?_)))
  · intro hlt
    have hlt' : I < J := by omega
    ((with_reducible (refine mif_true ?_; refine mop_c ?_ ?_)); (focus omega); (with_reducible (refine mop_c trivial ?_; refine mop_c ?_ ?_)); (focus omega))
    have e2 : ((P.length : Int) + I + (P.length + J)) % 18446744073709551616 / 2 ^ Int.toNat 1 = (P.length : Int) + ((I + J) / 2 : Nat) := by
      rw [show (2 : Int) ^ Int.toNat 1 = 2 from rfl]
      omega
    rw [e2]
    have hd : I ≤ (I + J) / 2 ∧ (I + J) / 2 < J := by omega
    generalize (I + J) / 2 = d at hd
    have hdu : d < U.length := by omega
    have hdv : mu - 1 - d < V.length := by omega
    ((with_reducible (refine mop_c ?_ ?_)); (focus omega); (with_reducible (refine dp_c ?_ ?_)); (focus omega); (with_reducible (refine dp_ixr hM ?_ ?_)); (focus omega); (with_reducible (intro _ hA)); (cases hA); (with_reducible (refine dm_ldr0 hM (map_at ?_) ?_)); (focus omega); (with_reducible (refine dp_ixr hM ?_ ?_)); (focus omega); (with_reducible (intro _ hA)); (cases hA); (with_reducible (refine dm_ldr0 hM (map_atI ?_) ?_)); (focus omega); (with_reducible (refine dm_purC hM ?_ (fun _ _ hM => ?_))); (focus (first | exact trivial | assumption | omega)))
    rw [g2 _ _ (mu - 1 - d) hdv (by omega), g1 _ _ d hdu (by omega)]
    by_cases hcm : cv V[mu - 1 - d].1 U[d].1 < 0
    · ((with_reducible (refine dp_cT trivial ?_ ?_)); (focus (first | assumption | omega | with_reducible rfl | exact fun h => Bool.noConfusion h)); (with_reducible (refine dp_c trivial ?_; refine mm_end hM ?_; clear hM; intro _ hM; refine mif_false ?_)))
      exact ⟨⟨I, d, rfl, rfl, by omega, by omega, by omega, hI1, .inr ⟨d, mu - 1 - d, hdu, hdv, rfl, by omega, .inl (decide_eq_true hcm)⟩, hM⟩, by simp only; omega⟩
    · ((with_reducible (refine dp_cF trivial ?_ ?_)); (focus (first | assumption | omega | with_reducible rfl | exact fun h => Bool.noConfusion h)); (with_reducible (refine dp_c trivial ?_; refine mm_end hM ?_; clear hM; intro _ hM; refine mif_true ?_; refine mop_c ?_ ?_)); (focus omega))
      exact ⟨⟨d + 1, J, by rw [Value.int.injEq]; refine ⟨rfl, ?_⟩; push_cast; omega, rfl, by omega, by omega, by omega, .inr ⟨d, mu - 1 - d, hdu, hdv, rfl, by omega, tl_of _ _ (decide_eq_false hcm) (ht _ (List.getElem_mem hdu) _ (List.getElem_mem hdv))⟩, hJ1, hM⟩, by simp only; omega⟩
  intro hge
  obtain rfl : I = J := by omega
  obtain ⟨j, hj⟩ : ∃ j, I + j = mu := ⟨mu - I, by omega⟩
  have c1 : U.take I = [] ∨ V.drop j = [] ∨ ∃ X' x y Y', U.take I = X' ++ [x] ∧ V.drop j = y :: Y' ∧ tl (ltP cv) x y := by
    refine ends ?_
    rcases hI1 with h | ⟨i', j', h1, h2, h3, h4, h5⟩
    · omega
    · obtain rfl : j' = j := by omega
      obtain rfl : i' = I - 1 := by omega
      exact .inr (.inr ⟨h1, h2, h5⟩)
  have c2 : V.take j = [] ∨ U.drop I = [] ∨ ∃ X' x y Y', V.take j = X' ++ [x] ∧ U.drop I = y :: Y' ∧ tl (ltP cv) x y := by
    refine ends ?_
    rcases hJ1 with h | ⟨i', j', h1, h2, h3, h4, h5⟩
    · omega
    · obtain rfl : j' = j - 1 := by omega
      obtain rfl : i' = I := by omega
      exact .inr (.inr ⟨h2, h1, h5⟩)
  have eU : U = U.take I ++ U.drop I := (List.take_append_drop _ _).symm
  have eV : V = V.take j ++ V.drop j := (List.take_append_drop _ _).symm
  have lU : (U.take I).length = I := by rw [List.length_take]; omega
  have lV : (V.take j).length = j := by rw [List.length_take]; omega
  have lU2 : (U.drop I).length + I = U.length := by rw [List.length_drop]; omega
  have lV2 : (V.drop j).length + j = V.length := by rw [List.length_drop]; omega
  clear hI1 hJ1 g1 g2
  generalize U.take I = U1 at *
  generalize U.drop I = U2 at *
  generalize V.take j = V1 at *
  generalize V.drop j = V2 at *
  have hT2 : T = (P ++ U1) ++ (U2 ++ (V1 ++ (V2 ++ S))) := by
    rw [hT, eU, eV]
    simp only [List.append_assoc]
  rw [eU] at hU
  rw [eV] at hV
  have t1 : ∀ u ∈ U1, ∀ v ∈ V1, u.2 < v.2 := fun u hu v hv => ht u (by rw [eU]; exact List.mem_append_left _ hu) v (by rw [eV]; exact List.mem_append_left _ hv)
  have t2 : ∀ u ∈ U2, ∀ v ∈ V2, u.2 < v.2 := fun u hu v hv => ht u (by rw [eU]; exact List.mem_append_right _ hu) v (by rw [eV]; exact List.mem_append_right _ hv)
  obtain ⟨sU1, sU2, -⟩ := List.pairwise_append.1 hU
  obtain ⟨sV1, sV2, -⟩ := List.pairwise_append.1 hV
  ((with_reducible (refine mif_false ?_; refine mop_c ?_ ?_)); (focus omega))
  have hM : Mem H w0 (rowR 87 101 A n c (fTP T) :: R) _ := hM
  refine ⟨fun w' => Mem H w0 (rowR 87 101 A n c (fTP ((P ++ U1) ++ (V1 ++ (U2 ++ (V2 ++ S))))) :: R) w', ?_, ?_⟩
  · refine ⟨fun v w' => v = .bool (decide (0 < U2.length ∧ 0 < V1.length)) ∧ hM.now w', ?_, ?_⟩
    · skip
      ((with_reducible (refine mop_cS trivial ?_ ?_)))
      · intro k1
        ((with_reducible (refine mguard_yes ?_; refine mop_c trivial ?_; refine mguard_yes ?_; refine mop_c trivial ?_; refine mguard_yes ?_)))
        ((with_reducible (refine mop_cS trivial ?_ ?_)))
        · intro k2
          ((with_reducible (refine mop_c trivial ?_)))
          exact ⟨by rw [decide_eq_true (by omega)], hM⟩
        · intro k2
          ((with_reducible (refine mop_c trivial ?_)))
          exact ⟨by rw [decide_eq_false (by omega)], hM⟩
      · intro k1
        ((with_reducible ((iterate 3 refine mguard_n2 ?_); refine mop_c trivial ?_)))
        exact ⟨by rw [decide_eq_false (by omega)], hM⟩
    rintro v u3 w3 ⟨rfl, hM⟩
    by_cases hc : 0 < U2.length ∧ 0 < V1.length
    · rw [decide_eq_true hc]
      ((with_reducible (refine mif_true ?_)))
      refine mm_own (rotRP_ok (P ++ U1) U2 V1 (V2 ++ S) (by rw [List.length_append]; push_cast; omega) (by rw [List.length_append]; push_cast; omega) (by rw [List.length_append]; push_cast; omega) hT2 rfl hc.1 hc.2 hn hl _ hM) ?_
      rintro v w4 ⟨rfl, hM⟩
      skip
      exact hM
    · rw [decide_eq_false hc]
      ((with_reducible (refine mif_false ?_)))
      have hM : Mem H w0 (rowR 87 101 A n c (fTP T) :: R) _ := hM
      rw [hT2] at hM
      rcases Decidable.not_and_iff_or_not.1 hc with h | h
      · obtain rfl : U2 = [] := List.eq_nil_of_length_eq_zero (by omega)
        exact hM
      · obtain rfl : V1 = [] := List.eq_nil_of_length_eq_zero (by omega)
        exact hM
  clear hM
  rintro u3 w3 hM
  rw [show (P ++ U1) ++ (V1 ++ (U2 ++ (V2 ++ S))) = P ++ (U1 ++ (V1 ++ (U2 ++ (V2 ++ S)))) by simp only [List.append_assoc]] at hM
  refine ⟨fun w' => ∃ M1 : List (Chg.Prp × Nat), M1.Perm (U1 ++ V1) ∧ M1.Pairwise (tl (ltP cv)) ∧ Mem H w0 (rowR 87 101 A n c (fTP (P ++ (M1 ++ (U2 ++ (V2 ++ S))))) :: R) w', ?_, ?_⟩
  · refine ⟨fun v w' => v = .bool (decide (0 < U1.length ∧ 0 < V1.length)) ∧ hM.now w', ?_, ?_⟩
    · skip
      ((with_reducible (refine mop_cS trivial ?_ ?_)))
      · intro k1
        ((with_reducible (refine mguard_yes ?_; refine mop_c trivial ?_; refine mguard_yes ?_; refine mop_c trivial ?_; refine mguard_yes ?_)))
        ((with_reducible (refine mop_cS trivial ?_ ?_)))
        · intro k2
          ((with_reducible (refine mop_c trivial ?_)))
          exact ⟨by rw [decide_eq_true (by omega)], hM⟩
        · intro k2
          ((with_reducible (refine mop_c trivial ?_)))
          exact ⟨by rw [decide_eq_false (by omega)], hM⟩
      · intro k1
        ((with_reducible ((iterate 3 refine mguard_n2 ?_); refine mop_c trivial ?_)))
        exact ⟨by rw [decide_eq_false (by omega)], hM⟩
    rintro v u4 w4 ⟨rfl, hM⟩
    by_cases hc : 0 < U1.length ∧ 0 < V1.length
    · rw [decide_eq_true hc]
      ((with_reducible (refine mif_true ?_)))
      refine mm_own (ih _ P U1 V1 (U2 ++ (V2 ++ S)) _ _ _ _ (by omega) (by omega) (by omega) rfl hc.1 hc.2 (by omega) sU1 sV1 t1 (by simp only [List.length_append]; omega) hM) ?_
      rintro v w5 ⟨rfl, M1, p1, s1, hM⟩
      skip
      exact ⟨M1, p1, s1, hM⟩
    · rw [decide_eq_false hc]
      ((with_reducible (refine mif_false ?_)))
      have hM : Mem H w0 (rowR 87 101 A n c (fTP (P ++ (U1 ++ (V1 ++ (U2 ++ (V2 ++ S)))))) :: R) _ := hM
      rw [← List.append_assoc U1] at hM
      refine ⟨U1 ++ V1, .refl _, ?_, hM⟩
      rcases Decidable.not_and_iff_or_not.1 hc with h | h
      · obtain rfl : U1 = [] := List.eq_nil_of_length_eq_zero (by omega)
        exact sV1
      · obtain rfl : V1 = [] := List.eq_nil_of_length_eq_zero (by omega)
        rw [List.append_nil]
        exact sU1
  clear hM
  rintro u5 w5 ⟨M1, p1, s1, hM⟩
  have l1 := p1.length_eq
  rw [List.length_append] at l1
  have hfin : ∀ M2 : List (Chg.Prp × Nat), M2.Perm (U2 ++ V2) → M2.Pairwise (tl (ltP cv)) → (M1 ++ M2).Perm (U ++ V) ∧ (M1 ++ M2).Pairwise (tl (ltP cv)) := fun M2 p2 s2 => by
    refine ⟨?_, pw_four hW hU hV p1 p2 s1 s2 c1 c2⟩
    rw [eU, eV]
    refine (p1.append p2).trans ?_
    simp only [List.append_assoc]
    refine List.Perm.append_left _ ?_
    rw [← List.append_assoc, ← List.append_assoc U2]
    exact List.Perm.append_right _ List.perm_append_comm
  refine ⟨fun v w' => v = .bool (decide (0 < U2.length ∧ 0 < V2.length)) ∧ hM.now w', ?_, ?_⟩
  · skip
    ((with_reducible (refine mop_cS trivial ?_ ?_)))
    · intro k1
      ((with_reducible (refine mguard_yes ?_; refine mop_c trivial ?_; refine mguard_yes ?_; refine mop_c trivial ?_; refine mguard_yes ?_)))
      ((with_reducible (refine mop_cS trivial ?_ ?_)))
      · intro k2
        ((with_reducible (refine mop_c trivial ?_)))
        exact ⟨by rw [decide_eq_true (by omega)], hM⟩
      · intro k2
        ((with_reducible (refine mop_c trivial ?_)))
        exact ⟨by rw [decide_eq_false (by omega)], hM⟩
    · intro k1
      ((with_reducible ((iterate 3 refine mguard_n2 ?_); refine mop_c trivial ?_)))
      exact ⟨by rw [decide_eq_false (by omega)], hM⟩
  rintro v u6 w6 ⟨rfl, hM⟩
  have hM : Mem H w0 (rowR 87 101 A n c (fTP (P ++ (M1 ++ (U2 ++ (V2 ++ S))))) :: R) _ := hM
  rw [← List.append_assoc P] at hM
  by_cases hc : 0 < U2.length ∧ 0 < V2.length
  · rw [decide_eq_true hc]
    ((with_reducible (refine mif_true ?_)))
    refine mm_own (ih _ (P ++ M1) U2 V2 S _ _ _ _ (by rw [List.length_append]; push_cast; omega) (by rw [List.length_append]; push_cast; omega) (by rw [List.length_append]; push_cast; omega) rfl hc.1 hc.2 (by omega) sU2 sV2 t2 (by simp only [List.length_append]; omega) hM) ?_
    rintro v w7 ⟨rfl, M2, p2, s2, hM⟩
    skip
    exact ⟨_, rfl, rfl, M1 ++ M2, (hfin M2 p2 s2).1, (hfin M2 p2 s2).2, by simpa only [List.append_assoc] using hM⟩
  · rw [decide_eq_false hc]
    ((with_reducible (refine mif_false ?_)))
    have h2 := hfin (U2 ++ V2) (.refl _) (by
      rcases Decidable.not_and_iff_or_not.1 hc with h | h
      · obtain rfl : U2 = [] := List.eq_nil_of_length_eq_zero (by omega)
        exact sV2
      · obtain rfl : V2 = [] := List.eq_nil_of_length_eq_zero (by omega)
        rw [List.append_nil]
        exact sU2)
    exact ⟨_, rfl, rfl, M1 ++ (U2 ++ V2), h2.1, h2.2, by simpa only [List.append_assoc] using hM⟩
theorem symRP_ok [FunC Tryz.prog fc] [hc : ∀ x y : Chg.Prp, PurC Tryz.prog fc [.agg (fl (Chg.Prp.fds x)).toArray, .agg (fl (Chg.Prp.fds y)).toArray] True (.int .i64 (cv x y))] (hW : SW (ltP cv)) (hl : n ≤ 1000000) : ∀ N, symSP H w0 R A n c cv fc N := by
  intro N
  induction N with
  | zero => intro T P U V S a m b w ha hm hb hT hu hv hN
            omega
  | succ N ih =>
    intro T P U V S a m b w ha hm hb hT hu hv hN hU hV ht hn hM
    by_cases h1 : U.length = 1
    · obtain ⟨x, rfl⟩ := List.length_eq_one_iff.1 h1
      exact symAP_ok hW P V S x ha (by simpa using hm) (by simpa using hb) (by simpa using hT) hV (fun v hv => ht x (by simp) v hv) hn hl hM
    by_cases h2 : V.length = 1
    · obtain ⟨x, rfl⟩ := List.length_eq_one_iff.1 h2
      exact symBP_ok hW P U S x h1 ha (by simpa using hm) (by simpa using hb) (by simpa using hT) hU (fun u hu => ht u hu x (by simp)) hn hl hM
    exact symCP_ok hW hl ih P U V S ha hm hb hT (by omega) (by omega) hN hU hV ht hn hM
end
end Go.Proofs.YtopcnkejobomaaaGreat
namespace Go.Proofs.YtopcnkejobomaaaGreat
open Go.RowKit
section
variable {H : Hp} {w0 w : World} {L R : List Res} {A : Option Addr} {n c : Nat} {cv : Chg.Prp → Chg.Prp → Int} {fc : Nat}
theorem stabRP_ok [FunC Tryz.prog fc] [hc : ∀ x y : Chg.Prp, PurC Tryz.prog fc [.agg (fl (Chg.Prp.fds x)).toArray, .agg (fl (Chg.Prp.fds y)).toArray] True (.int .i64 (cv x y))] (hW : SW (ltP cv)) (hl : n ≤ 1000000) (T0 : List (Chg.Prp × Nat)) (ht : T0.Pairwise (fun p q => p.2 < q.2)) (hn : T0.length = n) (hM : Mem H w0 (rowR 87 101 A n c (fTP T0) :: R) w) :
    Calls Tryz.prog 103 #[.slice A n c, .int .i64 n, fv fc] w fun en w' => ∃ v, en = .returned v ∧ v = .tuple #[] ∧ ∃ T, okR (ltP cv) T0 T ∧ Mem H w0 (rowR 87 101 A n c (fTP T) :: R) w' := by
  have hsub : ∀ {X Y Z : List (Chg.Prp × Nat)}, T0 = X ++ (Y ++ Z) → Y.Pairwise (fun p q => p.2 < q.2) := fun {X Y Z} e => by
    rw [e] at ht
    exact (List.pairwise_append.1 (List.pairwise_append.1 ht).2.1).1
  have hcr : ∀ {X Y Z W : List (Chg.Prp × Nat)}, T0 = X ++ (Y ++ (Z ++ W)) → ∀ {U V : List (Chg.Prp × Nat)}, U.Perm Y → V.Perm Z → ∀ u ∈ U, ∀ v ∈ V, u.2 < v.2 := fun {X Y Z W} e {U V} p1 p2 u hu v hv => by
    rw [e] at ht
    exact (List.pairwise_append.1 (List.pairwise_append.1 ht).2.1).2.2 u (p1.mem_iff.1 hu) v (List.mem_append_left _ (p2.mem_iff.1 hv))
  refine C_slices_stableCmpFunc_api_Proposal ?_
  unfold F_slices_stableCmpFunc_api_Proposal
  refine ⟨fun v u w' => ∃ (A0 A1 Z : List (Chg.Prp × Nat)), v = .int .i64 A1.length ∧ u = .int .i64 ((A1.length : Int) + 20) ∧ T0 = A0 ++ Z ∧ RunsF (ltP cv) 20 A0 A1 ∧ Mem H w0 (rowR 87 101 A n c (fTP (A1 ++ Z)) :: R) w', fun v _ _ => match v with | .int _ k => n + 1 - k.toNat | _ => 0, ⟨[], [], T0, rfl, rfl, rfl, .nil, hM⟩, ?_⟩
  clear hM
  rintro v u u2 w2 ⟨A0, A1, Z, rfl, rfl, hT, hA, hM⟩
  have hal := hA.len
  have hlen : A1.length + Z.length = n := by
    rw [hT, List.length_append] at hn
    omega
  ((with_reducible (refine mop_cS trivial ?_ ?_)))
  · intro hle
    ((with_reducible (refine mif_true ?_)))
    have eZ : Z = Z.take 20 ++ Z.drop 20 := (List.take_append_drop _ _).symm
    have lZ : (Z.take 20).length = 20 := by rw [List.length_take]; omega
    generalize Z.take 20 = Z1 at eZ lZ
    generalize Z.drop 20 = Z2 at eZ
    subst eZ
    refine mm_own (insRP_ok (cv := cv) hW A1 Z1 Z2 rfl (by omega) rfl (hsub hT) (by rw [List.length_append]; exact hlen) hl hM) ?_
    rintro v w3 ⟨rfl, M', hok, hM⟩
    have hml := hok.1.length_eq
    ((with_reducible (refine mop_c ?_ ?_)); (focus omega))
    exact ⟨⟨A0 ++ Z1, A1 ++ M', Z2, by rw [Value.int.injEq]; refine ⟨rfl, ?_⟩; rw [List.length_append]; push_cast; omega, by rw [Value.int.injEq]; refine ⟨rfl, ?_⟩; rw [List.length_append]; push_cast; omega, by rw [hT, List.append_assoc], .snoc hA hok (by omega), by rw [List.append_assoc]; exact hM⟩, by simp only; omega⟩
  intro hgt
  ((with_reducible (refine mif_false ?_)))
  refine mm_own (insRP_ok (cv := cv) hW A1 Z [] rfl (by omega) (by rw [List.append_nil]) (hsub (X := A0) (Z := []) (by rw [List.append_nil]; exact hT)) (by rw [List.length_append]; exact hlen) hl hM) ?_
  clear hM
  rintro v w3 ⟨rfl, M', hok, hM⟩
  rw [List.append_nil] at hM
  have hml := hok.1.length_eq
  have hr0 : Runs (ltP cv) 20 T0 (A1 ++ M') := by
    rw [hT]
    exact hA.app (.last hok (by omega))
  generalize A1 ++ M' = T1 at hr0 hM
  clear hT hA hal hlen hok hml hgt
  refine ⟨fun v w' => ∃ (bs : Nat) (T : List (Chg.Prp × Nat)), v = .int .i64 bs ∧ 20 ≤ bs ∧ bs ≤ 2000000 ∧ Runs (ltP cv) bs T0 T ∧ Mem H w0 (rowR 87 101 A n c (fTP T) :: R) w', fun v _ => match v with | .int _ k => n + 1 - k.toNat | _ => 0, ⟨20, T1, rfl, by omega, by omega, hr0, hM⟩, ?_⟩
  clear hM hr0
  rintro v u3 w4 ⟨bs, T, rfl, hb1, hb2, hr, hM⟩
  have htl := hr.len
  ((with_reducible (refine mop_cS trivial ?_ ?_)))
  · intro hlt
    ((with_reducible (refine mif_true ?_; refine mop_c ?_ ?_)); (focus omega))
    refine ⟨fun v u w' => ∃ (A0 A1 R0 R1 : List (Chg.Prp × Nat)), v = .int .i64 A1.length ∧ u = .int .i64 ((A1.length : Int) + 2 * bs) ∧ T0 = A0 ++ R0 ∧ RunsF (ltP cv) (2 * bs) A0 A1 ∧ Runs (ltP cv) bs R0 R1 ∧ Mem H w0 (rowR 87 101 A n c (fTP (A1 ++ R1)) :: R) w', fun v _ _ => match v with | .int _ k => n + 1 - k.toNat | _ => 0, ⟨[], [], T0, T, rfl, by rw [Value.int.injEq]; refine ⟨rfl, ?_⟩; simp, rfl, .nil, hr, hM⟩, ?_⟩
    clear hM hr htl
    rintro v u u4 w5 ⟨A0, A1, R0, R1, rfl, rfl, hT, hA, hr, hM⟩
    have hal := hA.len
    have hrl := hr.len
    have hlen : A1.length + R1.length = n := by
      rw [hT, List.length_append] at hn
      omega
    ((with_reducible (refine mop_cS trivial ?_ ?_)))
    · intro hle
      ((with_reducible (refine mif_true ?_; refine mop_c ?_ ?_)); (focus omega))
      obtain ⟨U0, U, S0, S, rfl, rfl, okU, hUl, hr⟩ := hr.first (by omega)
      rw [List.length_append] at hlen hrl
      obtain ⟨V0, V, S0, S, rfl, rfl, okV, hVl, hr⟩ := hr.first (by omega)
      rw [List.length_append] at hlen
      refine mm_own (symRP_ok (cv := cv) hW hl (U.length + V.length + 1) _ A1 U V S _ _ _ _ rfl (by omega) (by omega) rfl (by omega) (by omega) (by omega) okU.2 okV.2 (hcr hT okU.1 okV.1) (by simp only [List.length_append]; omega) hM) ?_
      clear hM
      rintro v w6 ⟨rfl, M', p, s, hM⟩
      have hml := p.length_eq
      rw [List.length_append] at hml
      ((with_reducible (refine mop_c ?_ ?_)); (focus omega); (with_reducible (refine mop_c ?_ ?_)); (focus omega))
      exact ⟨⟨A0 ++ (U0 ++ V0), A1 ++ M', S0, S, by rw [Value.int.injEq]; refine ⟨rfl, ?_⟩; rw [List.length_append]; push_cast; omega, by rw [Value.int.injEq]; refine ⟨rfl, ?_⟩; rw [List.length_append]; push_cast; omega, by rw [hT]; simp only [List.append_assoc], .snoc hA ⟨p.trans (okU.1.append okV.1), s⟩ (by omega), hr, by rw [List.append_assoc]; exact hM⟩, by simp only; omega⟩
    intro hgt
    ((with_reducible (refine mif_false ?_)))
    refine ⟨fun w' => ∃ T, Runs (ltP cv) (2 * bs) T0 T ∧ Mem H w0 (rowR 87 101 A n c (fTP T) :: R) w', ?_, ?_⟩
    · ((with_reducible (refine mop_c ?_ ?_)); (focus omega))
      ((with_reducible (refine mop_cS trivial ?_ ?_)))
      · intro hc2
        ((with_reducible (refine mif_true ?_)))
        obtain ⟨U0, U, S0, S, rfl, rfl, okU, hUl, hr⟩ := hr.first (by omega)
        rw [List.length_append] at hlen hrl
        have okS := hr.short (by omega)
        refine mm_own (symRP_ok (cv := cv) hW hl (U.length + S.length + 1) _ A1 U S [] _ _ _ _ rfl (by omega) (by omega) (by rw [List.append_nil]) (by omega) (by omega) (by omega) okU.2 okS.2 (hcr (W := []) (by rw [List.append_nil]; exact hT) okU.1 okS.1) (by simp only [List.length_append]; omega) hM) ?_
        clear hM
        rintro v w6 ⟨rfl, M', p, s, hM⟩
        have hml := p.length_eq
        rw [List.length_append] at hml
        rw [List.append_nil] at hM
        skip
        refine ⟨A1 ++ M', ?_, hM⟩
        rw [hT]
        exact hA.app (.last ⟨p.trans (okU.1.append okS.1), s⟩ (by omega))
      · intro hc2
        ((with_reducible (refine mif_false ?_)))
        refine ⟨A1 ++ R1, ?_, hM⟩
        rw [hT]
        exact hA.app (.last (hr.short (by omega)) (by omega))
    clear hM
    rintro u5 w6 ⟨T2, hr2, hM⟩
    ((with_reducible (refine mop_c ?_ ?_)); (focus omega))
    exact ⟨⟨2 * bs, T2, by rw [Value.int.injEq]; refine ⟨rfl, ?_⟩; push_cast; omega, by omega, by omega, hr2, hM⟩, by simp only; omega⟩
  · intro hge
    ((with_reducible (refine mif_false ?_)))
    exact ⟨_, rfl, rfl, T, hr.short (by omega), hM⟩
theorem sortSP_ok [FunC Tryz.prog fc] [hc : ∀ x y : Chg.Prp, PurC Tryz.prog fc [.agg (fl (Chg.Prp.fds x)).toArray, .agg (fl (Chg.Prp.fds y)).toArray] True (.int .i64 (cv x y))] (hW : SW (ltP cv)) (l : List Chg.Prp) (hl : l.length ≤ 1000000) (hM : Mem H w0 (rowR 87 101 A l.length c (l.map Chg.Prp.fds) :: R) w) :
    Calls Tryz.prog 62 #[.slice A l.length c, fv fc] w fun en w' => ∃ v, en = .returned v ∧ v = .tuple #[] ∧ Mem H w0 (rowR 87 101 A l.length c ((srtB (ltP cv) l).map Chg.Prp.fds) :: R) w' := by
  have e : fTP l.zipIdx = l.map Chg.Prp.fds := by
    have : fTP l.zipIdx = (l.zipIdx.map (·.1)).map Chg.Prp.fds := by rw [List.map_map]; rfl
    rw [this, List.zipIdx_map_fst]
  have ht : (l.zipIdx).Pairwise (fun p q => p.2 < q.2) := by
    have h2 : (l.zipIdx.map (·.2)).Pairwise (· < ·) := by
      rw [List.zipIdx_map_snd]
      exact List.pairwise_lt_range'
    exact List.pairwise_map.1 h2
  rw [← e] at hM
  refine C_slices_SortStableFunc_api_Proposal_api_Proposal ?_
  unfold F_slices_SortStableFunc_api_Proposal_api_Proposal
  ((with_reducible (refine mop_c trivial ?_)))
  refine mm_own (stabRP_ok (cv := cv) hW hl l.zipIdx ht List.length_zipIdx hM) ?_
  rintro v w2 ⟨rfl, T, hok, hM⟩
  skip
  refine ⟨_, rfl, rfl, ?_⟩
  rw [← srt_eq hW hok.1 hok.2, List.map_map]
  exact hM
end
end Go.Proofs.YtopcnkejobomaaaGreat
namespace Go.Proofs.YtopcnkejobomaaaGreat
open Go.RowKit Go.Lib
section
variable {P : Program} {H : Hp} {w0 w : World} {L R' : List Res} {n m capx e e' ex sz by_ t tx ty : Nat} {A B : Option Addr} {ps qs : List (List Fd)} {ks : List Bool} {K : Value → World → Prop} {X : List PanicEntry → World → Prop}
theorem mm_appf (h : Mem H w0 L w) [cc : SliC P t e sz by_] [k' : AtR L B m capx ex sz qs R'] [cx : SliC P tx e' sz by_] (a : Sl H sz A ps) (hn : n = ps.length) (hm : 0 < m) (hb : n + m ≤ 9223372036854775807 ∧ (n + m) * by_ ≤ 140737488355328)
    (hk : ∀ A' cap' w', Mem H w0 (rowR e sz A' (n + m) cap' (ps ++ qs) :: L) w' → K (.slice A' (n + m) cap') w') : mop P (o_builtin .append #[t, tx] ty ks [.slice A n n, .slice B m capx]) w K X := by
  have hs : Src P sz tx (.slice B m capx) m (fls qs) w := h.src k' cx.und capx
  obtain ⟨q1, q2, -⟩ := h.open_ k'
  obtain ⟨ht, i, z, hi, hz, h4, h5, h6⟩ := sli_spec cc.ok
  have hd : Drawn w w.drew := ⟨1, rfl⟩
  have h7 := h.drawn hd
  have hfl : (fls ps).length = n * sz := by rw [a.els.len, hn]
  have hql : (fls qs).length = m * sz := by rw [q1.len, q2]
  have hfx : (Builtin.firstCells i.size n (.slice A n n)).run P w.drew = .ok (fls ps).toArray w.drew := by
    rw [h4]
    cases A with
    | none =>
      have : ps = [] := by
        rcases a.at_ with h | ⟨b, o, c, h, _⟩
        · exact h
        · cases h
      subst this
      subst hn
      simp [Builtin.firstCells, fls]
    | some a0 =>
      refine run_firstCells_some w.drew sz n a0 n n (fls ps) hfl (fun j u hu => ?_)
      rcases a.at_ with rfl | ⟨b, o, c, hA, hH, hc⟩
      · simp [fls] at hu
      · cases hA
        rw [Addr.add_lit]
        exact Sl.cell a h7.fz hu
  have hgm : grownCap w (n + m) n e ≤ maxLen := grownCap_le_maxLen w (n + m) n e (by simp only [maxLen]; omega)
  have hge := grownCap_ge w (n + m) n e
  have hrun : ∀ v w', (Builtin.append_ #[t, tx] ty #[.slice A n n, .slice B m capx]).run P w = .ok v w' → (o_builtin .append #[t, tx] ty ks [.slice A n n, .slice B m capx]).run P w = .ok (.value v) w' := fun v w' h => by
    simp [o_builtin, invoke, builtin, h]
  have e1 : (fls ps ++ fls qs).toArray ++ Builtin.zeroCells z.cells (grownCap w (n + m) n e - (n + m)) = (fls (ps ++ qs) ++ (Builtin.zeroCells z.cells (grownCap w (n + m) n e - (n + m))).toList).toArray := by
    apply Array.ext'
    simp [fls_app]
  obtain ⟨Bk, hl, hs4, hb4⟩ := h7.own
  refine mop_run (hrun (.slice (some ⟨w.heap.size, 0, none⟩) (n + m) (grownCap w (n + m) n e)) (w.drew.alloc (.cells ((fls ps ++ fls qs).toArray ++ Builtin.zeroCells z.cells (grownCap w (n + m) n e - (n + m))) e)) ?_) (hk _ _ _ ?_)
  · exact run_append_grow_src (P := P) w t tx ty e i z ht hi hz A n n (fls ps) hfx _ m (fls qs) (by rw [h4]; exact hs) (by omega) (by omega) (growslice_fits (by omega) (by rw [h5]; exact hb.2))
  · rw [e1]
    refine ⟨⟨⟨w.heap.size, e, fls (ps ++ qs) ++ (Builtin.zeroCells z.cells (grownCap w (n + m) n e - (n + m))).toList, true⟩ :: Bk, ⟨[_], Bk, rfl, ⟨a.els.app q1, by simp [hn, q2], .inr ⟨w.heap.size, (Builtin.zeroCells z.cells (grownCap w (n + m) n e - (n + m))).toList, rfl, rfl, ?_, hge, hgm⟩⟩, hl⟩, hs4.alloc e _, fun b hm => ?_⟩, h7.fz.ext ((Only.refl _ _).alloc _)⟩
    · simp only [List.length_append, Array.length_toList, size_zeroCells, h6, fls_app, hfl, hql]
      rw [← Nat.add_mul, ← Nat.add_mul]
      congr 1
      omega
    · rcases List.mem_cons.1 hm with rfl | hm
      · refine ⟨rfl, ?_⟩
        cases hh : H w.heap.size with
        | none => rfl
        | some c => have := h.fz.lt hh; omega
      · exact hb4 b hm
end
end Go.Proofs.YtopcnkejobomaaaGreat
namespace Go.Proofs.YtopcnkejobomaaaGreat
open Go.RowKit Go.Lib
def Plc.pick1 (x : Plc) (out : List Chg.Prp) (p : Chg.Prp) : List Chg.Prp := if out.length = 16 then out else if x.fit (out ++ [p]) = 0 then out ++ [p] else out
def Plc.pickL (x : Plc) (l : List Chg.Prp) : List Chg.Prp := l.foldl x.pick1 []
theorem Plc.pick1_len (x : Plc) {out : List Chg.Prp} (p : Chg.Prp) (h : out.length ≤ 16) : (x.pick1 out p).length ≤ 16 := by
  unfold Plc.pick1
  split
  · exact h
  · split
    · rw [List.length_append, List.length_singleton]
      omega
    · exact h
theorem Plc.pick_len (x : Plc) : ∀ (l out : List Chg.Prp), out.length ≤ 16 → (l.foldl x.pick1 out).length ≤ 16
  | [], _, h => h
  | p :: r, out, h => x.pick_len r _ (x.pick1_len p h)
theorem Plc.pick_full (x : Plc) {out : List Chg.Prp} (h : out.length = 16) : ∀ l : List Chg.Prp, l.foldl x.pick1 out = out
  | [] => rfl
  | p :: r => by rw [List.foldl_cons, show x.pick1 out p = out from if_pos h, x.pick_full h r]
theorem Plc.pick_take (x : Plc) {l : List Chg.Prp} {i : Nat} (h : i < l.length) : x.pickL (l.take (i + 1)) = x.pick1 (x.pickL (l.take i)) l[i] := by
  unfold Plc.pickL
  rw [List.take_succ_eq_append_getElem h, List.foldl_append]
  rfl
theorem Plc.pick_stop (x : Plc) {l : List Chg.Prp} {i : Nat} (h : (x.pickL (l.take i)).length = 16) : x.pickL l = x.pickL (l.take i) := by
  unfold Plc.pickL at *
  conv => lhs; rw [← List.take_append_drop i l, List.foldl_append]
  exact x.pick_full h _
theorem Plc.pick_fit0 (x : Plc) : ∀ (l out : List Chg.Prp), (out = [] ∨ x.fit out = 0) → (l.foldl x.pick1 out = [] ∨ x.fit (l.foldl x.pick1 out) = 0)
  | [], _, h => h
  | p :: r, out, h => by
    refine x.pick_fit0 r _ ?_
    unfold Plc.pick1
    split
    · exact h
    · split
      · rename_i h2
        exact .inr h2
      · exact h
theorem Plc.pick_fit (x : Plc) (l : List Chg.Prp) : x.pickL l = [] ∨ x.fit (x.pickL l) = 0 := x.pick_fit0 l [] (.inl rfl)
instance : FunC Tryz.prog 63 := ⟨by kernel_rfl⟩
section
variable {H : Hp} {w0 w : World} {L R : List Res} {A K : Option Addr} {a kc n : Nat} {qs ps : List (List Fd)} {v : Value}
theorem clonePr_ok (hs : Sl (Hp.of w) 101 A ps) (hn : n = ps.length) (hb : n ≤ 100000) (hM : Mem H w0 L w) : Calls Tryz.prog 61 #[.slice A n a] w fun en w' => ∃ v, en = .returned v ∧ ∃ A' a', v = .slice A' n a' ∧ Mem H w0 (rowR 87 101 A' n a' ps :: L) w' := by
  refine C_slices_Clone_api_Proposal_api_Proposal ?_
  unfold F_slices_Clone_api_Proposal_api_Proposal
  refine clone_gen (P := Tryz.prog) (t := 46) (R := fun en w' => ∃ v, en = .returned v ∧ ∃ A' a', v = .slice A' n a' ∧ Mem H w0 (rowR 87 101 A' n a' ps :: L) w') hs hn hM ?_ (fun A' a' w' hx hM => ⟨_, rfl, _, _, rfl, hM⟩)
  omega
theorem cpick_ok (x : Plc) (l : List Chg.Prp) (hl : l.length ≤ 1000) (h : TrF H v x.t) (h1 : Sl H 33 A qs) (h2 : All2 (PsF H) qs x.roll) (hrl : x.roll.length ≤ maxLen) (hs : Sl H 101 K (l.map Chg.Prp.fds)) (hf : Fz H w) :
    Calls Tryz.prog 24 #[v, .agg (tis x.ti.1).toArray, .slice A x.roll.length a, ha x.ep, .int .i64 x.depth, .int .i64 x.me, .slice K l.length kc] w (Outp H w fun H' r => ∃ K2 kc2, r = .slice K2 (x.pickL (srtB (ltP Chg.cvP) l)).length kc2 ∧ Sl H' 101 K2 ((x.pickL (srtB (ltP Chg.cvP) l)).map Chg.Prp.fds)) := by
  obtain ⟨w1, hw1⟩ : ∃ w1, w1 = w := ⟨_, rfl⟩
  rw [← hw1]
  rw [← hw1] at hf
  have hM := Mem.start hf
  have hx := h.ex
  obtain ⟨TA, ta, TB, tb, tq, rfl, -⟩ := hx
  refine C_change_Pick ?_
  unfold F_change_Pick
  ((with_reducible (refine mm_box hM ?_; clear hM; intro _ _ hM; refine mm_box hM ?_; clear hM; intro _ _ hM; refine mm_box hM ?_; clear hM; intro _ _ hM)))
  rename_i g1 _ g2 _ g3 _
  refine mm_own (clonePr_ok (hs.mono (le_of hM.fz)) (by rw [List.length_map]) (by omega) hM) ?_
  clear hM
  rintro v w2 ⟨C, cc, rfl, hM⟩
  skip
  refine mm_own (sortSP_ok (cv := Chg.cvP) Chg.cvP_sw l (by omega) hM) ?_
  clear hM
  rintro v w3 ⟨rfl, hM9⟩
  obtain ⟨H1, le1, hM, hsl, hsn⟩ := hM9.fz0
  clear hM9
  rw [List.length_map] at hsn
  generalize srtB (ltP Chg.cvP) l = sl at hsl hsn ⊢
  refine ⟨fun v w' => ∃ H2 K2 kc2, v = .slice K2 (x.pickL sl).length kc2 ∧ Le w1 H H2 ∧ Sl H2 101 K2 ((x.pickL sl).map Chg.Prp.fds) ∧ Mem H2 w1 [] w', ?_, ?_⟩
  · ((with_reducible (refine mop_c trivial ?_)))
    refine ⟨fun v u w' => ∃ (i : Nat) (H2 : Hp) (K2 : Option Addr) (kc2 : Nat), v = .slice K2 (x.pickL (sl.take i)).length kc2 ∧ u = .int .i64 i ∧ i ≤ sl.length ∧ (x.pickL (sl.take i)).length ≤ kc2 ∧ Le w1 H H2 ∧ H1.le H2 ∧ Sl H2 101 K2 ((x.pickL (sl.take i)).map Chg.Prp.fds) ∧ Mem H2 w1 [fb g3 33 [.arr 32 (u8s x.ep.1)], fb g2 42 [.arr 64 (tis x.ti.1)], fb g1 25 (tfd TA x.t.ls.length ta TB x.t.ps.length tb)] w', fun _ u _ => match u with | .int _ k => sl.length - k.toNat | _ => 0, ⟨0, H1, none, 0, rfl, rfl, by omega, by simp [Plc.pickL], le1, Hp.le.refl _, Sl.nil _ _ _, hM⟩, ?_⟩
    clear hM
    rintro v u u4 w4 ⟨i, H2, K2, kc2, rfl, rfl, hi, hcp, le2, l12, hK, hM⟩
    have hol := x.pick_len (sl.take i) [] (by simp)
    have hol : (x.pickL (sl.take i)).length ≤ 16 := hol
    ((with_reducible (refine mop_cS trivial ?_ ?_)))
    · intro hlt
      have hlt' : i < sl.length := by omega
      have hst := x.pick_take hlt'
      have hsf := x.pick_stop (l := sl) (i := i)
      generalize x.pickL (sl.take i) = out at *
      have hsl2 := hsl.mono l12
      ((with_reducible (refine mif_true ?_)))
      refine ⟨fun v w' => ∃ (H3 : Hp) (K3 : Option Addr) (kc3 : Nat), v = .slice K3 (x.pick1 out sl[i]).length kc3 ∧ (x.pick1 out sl[i]).length ≤ kc3 ∧ Le w1 H H3 ∧ H1.le H3 ∧ Sl H3 101 K3 ((x.pick1 out sl[i]).map Chg.Prp.fds) ∧ Mem H3 w1 [fb g3 33 [.arr 32 (u8s x.ep.1)], fb g2 42 [.arr 64 (tis x.ti.1)], fb g1 25 (tfd TA x.t.ls.length ta TB x.t.ps.length tb)] w', ?_, ?_⟩
      · obtain ⟨p, hp⟩ : ∃ p, sl[i] = p := ⟨_, rfl⟩
        have hq : (sl.map Chg.Prp.fds)[((i : Int)).toNat]? = some p.fds := by
          rw [Int.toNat_natCast, ← hp]
          exact map_at hlt'
        rw [hp]
        ((with_reducible refine mm_ixs ‹_› ?_ ?_ ?_); (focus (simp only [List.length_map]; omega)); (focus (simp only [List.length_map]; first | done | omega)); (with_reducible (intro _ _ hA)); (cases hA); (with_reducible refine mm_lds0 hM ‹_› (map_atI ?_) ?_); (focus omega); (with_reducible (refine mm_new hM ?_; clear hM; intro _ _ hM; refine mm_st hM ?_; clear hM; intro _ hM; refine mop_c trivial ?_)))
        rw [hp] at hM
        by_cases h16 : out.length = 16
        · ((with_reducible (refine mop_cT trivial ?_ ?_)); (focus (first | assumption | omega | with_reducible rfl | exact fun h => Bool.noConfusion h)); (with_reducible (refine mif_true ?_)))
          exact ⟨H2, K2, kc2, by rw [hsf h16], le2, by rw [hsf h16]; exact hK, hM.sub⟩
        have hps : x.pick1 out p = if x.fit (out ++ [p]) = 0 then out ++ [p] else out := if_neg h16
        have h15 : out.length < 16 := by omega
        ((with_reducible (refine mop_cF trivial ?_ ?_)); (focus (first | assumption | omega | with_reducible rfl | exact fun h => Bool.noConfusion h)); (with_reducible (refine mif_false ?_; refine dp_c trivial ?_; refine dp_c trivial ?_; refine dp_c ?_ ?_)); (focus omega); (with_reducible (refine dm_ld hM ?_; refine dS_bsl hM ?_ ?_ ?_)); (focus rfl); (focus (constructor <;> simp)); (with_reducible (clear hM; intro _ _ hM; refine df_no hM ?_; clear hM; intro _ hM)))
        rw [Int.toNat_natCast]
        have e9 : out.map Chg.Prp.fds ++ [p.fds] = (out ++ [p]).map Chg.Prp.fds := by
          rw [List.map_append]
          rfl
        refine mm_appf (qs := [p.fds]) hM hK (by rw [List.length_map]) (by omega) (by omega) ?_
        clear hM
        intro A3 c3 w5 hM9
        rw [e9] at hM9
        have hc3 := (Mem.rowLen hM9 ⟨.refl _⟩).2.1
        obtain ⟨H4, l4, hM, hs4, -⟩ := hM9.fz0
        clear hM9
        have l5 := l4.le
        have l04 := le2.le.trans l5
        ((with_reducible (refine mm_end hM ?_; clear hM; intro _ hM; (iterate 3 refine mm_ld hM ?_))))
        have hfit := fun w (hf : Fz H4 w) => fit_ok (K := A3) (kc := c3) (a := a) (w := w) x (out ++ [p]) (by rw [List.length_append, List.length_singleton]; simp only [maxLen]; omega) (h.mono l04) (h1.mono l04) (All2.mono (fun _ _ k => PsF.mono k l04) h2) hrl hs4 hf
        rw [List.length_append, List.length_singleton] at hfit
        refine mm_pure hM (hfit _ hM.fz) (fun w hM => ?_)
        by_cases h0 : x.fit (out ++ [p]) = 0
        · rw [if_pos h0] at hps
          ((with_reducible (refine mop_cT trivial ?_ ?_)); (focus (first | assumption | omega | with_reducible rfl | exact fun h => Bool.noConfusion h)); (with_reducible (refine mif_true ?_)))
          exact ⟨H4, A3, c3, by rw [hps, List.length_append]; rfl, by rw [hps, List.length_append]; exact hc3, le2.trans l4, l12.trans l5, by rw [hps]; exact hs4, hM.sub⟩
        · rw [if_neg h0] at hps
          ((with_reducible (refine mop_cF trivial ?_ ?_)); (focus (first | assumption | omega | with_reducible rfl | exact fun h => Bool.noConfusion h)); (with_reducible (refine mif_false ?_)))
          exact ⟨H4, K2, kc2, by rw [hps], by rw [hps]; exact hcp, le2.trans l4, l12.trans l5, by rw [hps]; exact hK.mono l5, hM.sub⟩
      clear hM
      rintro v u w6 ⟨H3, K3, kc3, rfl, hcp3, le3, l13, hK3, hM⟩
      rw [← hst] at hK3 hcp3 ⊢
      ((with_reducible (refine mop_c ?_ ?_)); (focus omega))
      exact ⟨⟨i + 1, H3, K3, kc3, rfl, by rw [Value.int.injEq]; refine ⟨rfl, ?_⟩; push_cast; rfl, by omega, hcp3, le3, l13, hK3, hM⟩, by simp only; omega⟩
    · intro hge
      obtain rfl : i = sl.length := by omega
      rw [List.take_length] at hK ⊢
      ((with_reducible (refine mif_false ?_)))
      exact ⟨H2, K2, kc2, rfl, le2, hK, hM.sub⟩
  clear hM
  rintro v u w4 ⟨H2, K2, kc2, rfl, le2, hK, hM⟩
  exact hM.out le2 ⟨K2, kc2, rfl, hK⟩
end
end Go.Proofs.YtopcnkejobomaaaGreat
namespace Go.Proofs.YtopcnkejobomaaaGreat
open Go.RowKit Go.Lib
section
variable {P : Program} {H : Hp} {w : World} {n cap sz t : Nat} {A : Option Addr} {ps : List (List Fd)} {K : Value → World → Prop} {X : List PanicEntry → World → Prop}
theorem Sl.take (h : Sl H sz A ps) (k : Nat) : Sl H sz A (ps.take k) := ⟨h.els.take k, by
  rcases h.at_ with rfl | ⟨b, o, c, hA, hH, hc⟩
  · exact .inl (by simp)
  · refine .inr ⟨b, o, c, hA, hH, fun j u hu => hc j u ?_⟩
    rw [← List.take_append_drop k ps, fls_app, List.getElem?_append_left (List.getElem?_eq_some_iff.1 hu).1]
    exact hu⟩
theorem Sl.drop_ {b o : Nat} (h : Sl H sz (some ⟨b, o, none⟩) ps) {k : Nat} (hk : k ≤ ps.length) : Sl H sz (some ⟨b, o + k * sz, none⟩) (ps.drop k) := ⟨⟨fun q hq => h.els.ok q (List.mem_of_mem_drop hq)⟩, by
  rcases h.at_ with rfl | ⟨b, o, c, hA, hH, hc⟩
  · exact .inl (by simp)
  · cases hA
    refine .inr ⟨_, _, c, rfl, hH, fun j u hu => ?_⟩
    rw [Nat.add_assoc]
    refine hc _ u ?_
    have ht : (fls (ps.take k)).length = k * sz := by rw [(h.els.take k).len, List.length_take, Nat.min_eq_left hk]
    rw [← List.take_append_drop k ps, fls_app, List.getElem?_append_right (by omega), ht, Nat.add_sub_cancel_left]
    exact hu⟩
theorem mm_sld {kk : IntKind} {ll : Int} (a : Sl H sz A ps) [c : SliS P t sz] (hn : n = ps.length) (hl : 0 ≤ ll ∧ ll ≤ n) (hcap : n ≤ cap) (hk : ∀ B, Sl H sz B (ps.drop ll.toNat) → K (.slice B (n - ll.toNat) (cap - ll.toNat)) w) : mop P (o_slice t (.slice A n cap) (some (.int kk ll)) none none) w K X := by
  have h5 := run_slice_l (P := P) w t A n cap c.ok.1 kk ll hl.1 hl.2
  have h6 : (sizeOf (P.elem t)).run P w = .ok sz w := run_size c.ok.2 w
  cases A with
  | none =>
    have hp : ps = [] := by
      rcases a.at_ with h | ⟨b, o, c, h, _⟩
      · exact h
      · cases h
    subst hp
    refine mop_run (w' := w) (u := .slice none (n - ll.toNat) (cap - ll.toNat)) ?_ (hk none (by rw [List.drop_nil]; exact Sl.nil _ _ _))
    simp only [o_slice, sv, Sem.run_bind, run_sliceAt_slice w t _ _ _ _ c.ok.1, h5, h6, Result.andThen_ok, sliced]
    simp
  | some a0 =>
    by_cases hc : cap = ll.toNat
    · refine mop_run (w' := w) (u := .slice (some a0) (n - ll.toNat) (cap - ll.toNat)) ?_ (hk _ (by rw [List.drop_eq_nil_of_le (by omega)]; exact Sl.nil _ _ _))
      simp only [o_slice, sv, Sem.run_bind, run_sliceAt_slice w t _ _ _ _ c.ok.1, h5, h6, Result.andThen_ok, sliced, if_pos hc]
      simp
    · by_cases hp : ps = []
      · subst hp
        refine mop_run (w' := w) (u := .slice (some (a0.add (ll.toNat * sz))) (n - ll.toNat) (cap - ll.toNat)) ?_ (hk _ (by rw [List.drop_nil]; exact Sl.nil _ _ _))
        simp only [o_slice, sv, Sem.run_bind, run_sliceAt_slice w t _ _ _ _ c.ok.1, h5, h6, Result.andThen_ok, sliced, if_neg hc, Option.map_some]
        simp
      · obtain ⟨b, o, hA⟩ := a.some_ (List.length_pos_iff.2 hp)
        cases hA
        refine mop_run (w' := w) (u := .slice (some ⟨b, o + ll.toNat * sz, none⟩) (n - ll.toNat) (cap - ll.toNat)) ?_ (hk _ (a.drop_ (by omega)))
        simp only [o_slice, sv, Sem.run_bind, run_sliceAt_slice w t _ _ _ _ c.ok.1, h5, h6, Result.andThen_ok, sliced, if_neg hc, Option.map_some, Addr.add_lit]
        simp
end
end Go.Proofs.YtopcnkejobomaaaGreat
namespace Go.Proofs.YtopcnkejobomaaaGreat
open Go.RowKit Go.Lib
theorem insB_at {α : Type} {lt : α → α → Bool} {x : α} : ∀ {l : List α} {k : Nat}, k ≤ l.length → (∀ (j : Nat) (hj : j < l.length), j < k → lt x l[j] = false) → (k = l.length ∨ ∃ hk : k < l.length, lt x l[k] = true) → insB lt x l = l.take k ++ x :: l.drop k
  | [], k, hk, _, _ => by
    obtain rfl : k = 0 := by simpa using hk
    rfl
  | y :: r, 0, _, _, h => by
    rcases h with h | ⟨_, h⟩
    · simp at h
    · simp only [insB]
      rw [if_pos (show lt x y = true from h)]
      rfl
  | y :: r, k + 1, hk, h1, h2 => by
    have h0 := h1 0 (by simp) (by omega)
    simp only [List.getElem_cons_zero] at h0
    simp only [insB, h0, Bool.false_eq_true, if_false, List.take_succ_cons, List.drop_succ_cons, List.cons_append, List.cons.injEq, true_and]
    refine insB_at (by simpa using hk) (fun j hj hjk => ?_) ?_
    · have := h1 (j + 1) (by simpa using hj) (by omega)
      simpa using this
    · rcases h2 with h2 | ⟨h2, h3⟩
      · exact .inl (by simpa using h2)
      · exact .inr ⟨by simpa using h2, by simpa using h3⟩
theorem srtB_succ {α : Type} {lt : α → α → Bool} {l : List α} {i : Nat} (h : i < l.length) : srtB lt (l.take (i + 1)) = insB lt l[i] (srtB lt (l.take i)) := by
  unfold srtB
  rw [List.take_succ_eq_append_getElem h, List.foldl_append]
  rfl
theorem fold_len {α : Type} {lt : α → α → Bool} : ∀ (l acc : List α), (l.foldl (fun acc x => insB lt x acc) acc).length = acc.length + l.length
  | [], acc => by simp
  | p :: r, acc => by
    rw [List.foldl_cons, fold_len r, (insB_perm p acc).length_eq, List.length_cons, List.length_cons]
    omega
theorem srtB_len {α : Type} {lt : α → α → Bool} (l : List α) : (srtB lt l).length = l.length := by
  unfold srtB
  rw [fold_len]
  simp
section
variable {H : Hp} {w0 w : World} {L R : List Res} {A K : Option Addr} {a kc n : Nat} {qs ps : List (List Fd)} {v : Value}
theorem rpick_ok (x : Plc) (l : List Chg.Prp) (hl : l.length ≤ 1000) (h : TrF H v x.t) (h1 : Sl H 33 A qs) (h2 : All2 (PsF H) qs x.roll) (hrl : x.roll.length ≤ maxLen) (hs : Sl H 101 K (l.map Chg.Prp.fds)) (hf : Fz H w) :
    Calls Tryz.prog 26 #[v, .agg (tis x.ti.1).toArray, .slice A x.roll.length a, ha x.ep, .int .i64 x.depth, .int .i64 x.me, .slice K l.length kc] w (Outp H w fun H' r => ∃ K2 kc2, r = .slice K2 (x.pickL (srtB (ltP Chg.cvP) l)).length kc2 ∧ Sl H' 101 K2 ((x.pickL (srtB (ltP Chg.cvP) l)).map Chg.Prp.fds)) := by
  obtain ⟨w1, hw1⟩ : ∃ w1, w1 = w := ⟨_, rfl⟩
  rw [← hw1]
  rw [← hw1] at hf
  have hM := Mem.start hf
  have hx := h.ex
  obtain ⟨TA, ta, TB, tb, tq, rfl, -⟩ := hx
  refine C_bevyref10_Pick ?_
  unfold F_bevyref10_Pick
  ((with_reducible (refine mm_box hM ?_; clear hM; intro _ _ hM; refine mm_box hM ?_; clear hM; intro _ _ hM; refine mm_box hM ?_; clear hM; intro _ _ hM)))
  rename_i g1 _ g2 _ g3 _
  refine ⟨fun v u w' => ∃ (i : Nat) (H2 : Hp) (K2 : Option Addr) (kc2 : Nat), v = .slice K2 (srtB (ltP Chg.cvP) (l.take i)).length kc2 ∧ u = .int .i64 i ∧ i ≤ l.length ∧ (srtB (ltP Chg.cvP) (l.take i)).length ≤ kc2 ∧ Le w1 H H2 ∧ Sl H2 101 K2 ((srtB (ltP Chg.cvP) (l.take i)).map Chg.Prp.fds) ∧ Mem H2 w1 [fb g3 33 [.arr 32 (u8s x.ep.1)], fb g2 42 [.arr 64 (tis x.ti.1)], fb g1 25 (tfd TA x.t.ls.length ta TB x.t.ps.length tb)] w', fun _ u _ => match u with | .int _ k => l.length - k.toNat | _ => 0, ⟨0, H, none, 0, rfl, rfl, by omega, by simp [srtB], Le.refl _ _, Sl.nil _ _ _, hM⟩, ?_⟩
  clear hM
  rintro v u u4 w4 ⟨i, H2, K2, kc2, rfl, rfl, hi, hcp, le2, hK, hM⟩
  ((with_reducible (refine mop_c trivial ?_)))
  ((with_reducible (refine mop_cS trivial ?_ ?_)))
  · intro hlt
    have hlt' : i < l.length := by omega
    have hLl := srtB_len (lt := ltP Chg.cvP) (l.take i)
    rw [List.length_take] at hLl
    have hst := srtB_succ (lt := ltP Chg.cvP) hlt'
    generalize srtB (ltP Chg.cvP) (l.take i) = L at *
    have hs2 := hs.mono le2.le
    obtain ⟨p, hp⟩ : ∃ p, l[i] = p := ⟨_, rfl⟩
    have hq : (l.map Chg.Prp.fds)[((i : Int)).toNat]? = some p.fds := by
      rw [Int.toNat_natCast, ← hp]
      exact map_at hlt'
    rw [hp] at hst
    ((with_reducible (refine mif_true ?_)); (with_reducible refine mm_ixs ‹_› ?_ ?_ ?_); (focus (simp only [List.length_map]; omega)); (focus (simp only [List.length_map]; first | done | omega)); (with_reducible (intro _ _ hA)); (cases hA); (with_reducible refine mm_lds0 hM ‹_› (map_atI ?_) ?_); (focus omega); (with_reducible (refine mm_new hM ?_; clear hM; intro _ _ hM; refine mm_st hM ?_; clear hM; intro _ hM)))
    rename_i gp _ _
    rw [hp] at hM
    have hM : Mem H2 w1 (fb gp 87 p.fds :: [fb g3 33 [.arr 32 (u8s x.ep.1)], fb g2 42 [.arr 64 (tis x.ti.1)], fb g1 25 (tfd TA x.t.ls.length ta TB x.t.ps.length tb)]) _ := hM
    refine ⟨fun v w' => ∃ k : Nat, v = .int .i64 k ∧ k ≤ L.length ∧ (∀ (j : Nat) (hj : j < L.length), j < k → ltP Chg.cvP p L[j] = false) ∧ hM.now w', fun v _ => match v with | .int _ k => L.length - k.toNat | _ => 0, ⟨0, rfl, by omega, fun j _ hj => by omega, hM⟩, ?_⟩
    rintro v u5 w5 ⟨k, rfl, hk, hpre, hM⟩
    have hM : Mem H2 w1 (fb gp 87 p.fds :: [fb g3 33 [.arr 32 (u8s x.ep.1)], fb g2 42 [.arr 64 (tis x.ti.1)], fb g1 25 (tfd TA x.t.ls.length ta TB x.t.ps.length tb)]) _ := hM
    refine ⟨fun w' => (∃ hk : k < L.length, ltP Chg.cvP p L[k] = false) ∧ hM.now w', ?_, ?_⟩
    · by_cases hkl : k < L.length
      · obtain ⟨q, hqe⟩ : ∃ q, L[k] = q := ⟨_, rfl⟩
        have hq2 : (L.map Chg.Prp.fds)[((k : Int)).toNat]? = some q.fds := by
          rw [Int.toNat_natCast, ← hqe]
          exact map_at hkl
        have hneg := Chg.cvP_neg p q
        by_cases c1 : p.lt q
        · have hins := insB_at hk hpre (.inr ⟨hkl, by rw [hqe]; exact decide_eq_true (hneg.2 (.inl c1))⟩)
          ((with_reducible (refine dp_c trivial ?_; refine dp_cT trivial ?_ ?_)); (focus (first | assumption | omega | with_reducible rfl | exact fun h => Bool.noConfusion h)); (with_reducible (refine qguard_yes ?_; refine dm_ld hM ?_; refine qguard_yes ?_; refine dp_c trivial ?_; refine qguard_yes ?_; refine dp_c trivial ?_; refine qguard_yes ?_)); (with_reducible refine dp_ixs ‹_› ?_ ?_ ?_); (focus (simp only [List.length_map]; omega)); (focus (simp only [List.length_map]; first | done | omega)); (with_reducible (intro _ _ hA)); (cases hA); (with_reducible (refine qguard_yes ?_)); (with_reducible refine dm_lds0 hM ‹_› (map_atI ?_) ?_); (focus omega); (with_reducible (refine mguard_yes ?_; refine dm_purC hM ?_ (fun _ _ hM => ?_))); (focus (first | exact trivial | assumption | omega)); (with_reducible (refine qguard_yes ?_; refine dp_c trivial ?_)))
          rw [hqe, decide_eq_true c1]
          ((with_reducible ((iterate 5 refine qguard_n1 ?_); refine mguard_n1 ?_; refine qguard_n1 ?_; refine qguard_n1 ?_; refine qguard_un ?_; refine mguard_un ?_; (iterate 4 refine qguard_un ?_); refine mguard_un ?_; refine mguard_un ?_; refine qguard_n1 ?_; refine qguard_yes ?_; refine dp_c trivial ?_; refine qguard_yes ?_; refine dp_c trivial ?_; refine dp_c trivial ?_; refine mm_end hM ?_; clear hM; intro _ hM; refine mif_false ?_; refine mop_c ?_ ?_)); (focus omega))
          try simp only [Bool.not_true, Bool.not_false]
          skip
          skip
          rw [Int.toNat_natCast]
          refine mm_apps0 hM (hK.take k) (by rw [List.length_take, List.length_map]; omega) (by omega) ?_
          intro A3 c3 w5 hM
          ((with_reducible (refine mm_ld hM ?_; refine mm_bsl hM ?_ ?_ ?_)); (focus rfl); (focus (constructor <;> simp)); (with_reducible (clear hM; intro _ _ hM; refine mm_appo hM ?_ ?_)); (focus omega); (with_reducible (clear hM; intro _ _ _ hM; refine mop_c ?_ ?_)); (focus omega))
          have hB := hK.drop_ (k := k) (by rw [List.length_map]; omega)
          rw [Int.toNat_natCast]
          refine mm_apps hM hB (by rw [List.length_drop, List.length_map]) (by omega) ?_
          intro A4 c4 w6 hM
          ((with_reducible (refine mop_c ?_ ?_)); (focus omega))
          have e9 : (L.map Chg.Prp.fds).take k ++ [p.fds] ++ (L.map Chg.Prp.fds).drop k = (insB (ltP Chg.cvP) p L).map Chg.Prp.fds := by
            rw [hins, List.map_append, List.map_cons, List.map_take, List.map_drop, List.append_assoc]
            rfl
          have e8 : k + 1 + (L.length - k) = (insB (ltP Chg.cvP) p L).length := by
            rw [hins, List.length_append, List.length_cons, List.length_take, List.length_drop]
            omega
          have hM9 : Mem H2 w1 [rowR 87 101 A4 (k + 1 + (L.length - k)) c4 ((L.map Chg.Prp.fds).take k ++ [p.fds] ++ (L.map Chg.Prp.fds).drop k), fb g3 33 [.arr 32 (u8s x.ep.1)], fb g2 42 [.arr 64 (tis x.ti.1)], fb g1 25 (tfd TA x.t.ls.length ta TB x.t.ps.length tb)] _ := hM.sub
          rw [e9, e8] at hM9
          have hc4 := (Mem.rowLen hM9 ⟨.refl _⟩).2.1
          obtain ⟨H4, l4, hM, hs4, -⟩ := hM9.fz0
          rw [e8, ← hst] at *
          exact ⟨⟨i + 1, H4, A4, c4, rfl, by rw [Value.int.injEq]; refine ⟨rfl, ?_⟩; push_cast; rfl, by omega, hc4, le2.trans l4, hs4, hM⟩, by simp only; omega⟩
        ((with_reducible (refine dp_c trivial ?_; refine dp_cT trivial ?_ ?_)); (focus (first | assumption | omega | with_reducible rfl | exact fun h => Bool.noConfusion h)); (with_reducible (refine qguard_yes ?_; refine dm_ld hM ?_; refine qguard_yes ?_; refine dp_c trivial ?_; refine qguard_yes ?_; refine dp_c trivial ?_; refine qguard_yes ?_)); (with_reducible refine dp_ixs ‹_› ?_ ?_ ?_); (focus (simp only [List.length_map]; omega)); (focus (simp only [List.length_map]; first | done | omega)); (with_reducible (intro _ _ hA)); (cases hA); (with_reducible (refine qguard_yes ?_)); (with_reducible refine dm_lds0 hM ‹_› (map_atI ?_) ?_); (focus omega); (with_reducible (refine mguard_yes ?_; refine dm_purC hM ?_ (fun _ _ hM => ?_))); (focus (first | exact trivial | assumption | omega)); (with_reducible (refine qguard_yes ?_; refine dp_c trivial ?_)))
        rw [hqe, decide_eq_false c1]
        ((with_reducible (refine qguard_yes ?_; refine dp_c trivial ?_; refine qguard_yes ?_; refine dp_c trivial ?_; refine qguard_yes ?_)); (with_reducible refine dp_ixs ‹_› ?_ ?_ ?_); (focus (simp only [List.length_map]; omega)); (focus (simp only [List.length_map]; first | done | omega)); (with_reducible (intro _ _ hA)); (cases hA); (with_reducible (refine qguard_yes ?_)); (with_reducible refine dm_lds0 hM ‹_› (map_atI ?_) ?_); (focus omega); (with_reducible (refine qguard_yes ?_; refine dm_ld hM ?_; refine mguard_yes ?_; refine dm_purC hM ?_ (fun _ _ hM => ?_))); (focus (first | exact trivial | assumption | omega)); (with_reducible (refine qguard_yes ?_; refine dp_c trivial ?_; refine qguard_yes ?_; refine dp_c trivial ?_)))
        by_cases c2 : q.lt p
        · rw [hqe, decide_eq_true c2]
          skip
          try simp only [Bool.not_true, Bool.not_false]
          ((with_reducible (refine qguard_n2 ?_; refine mguard_n2 ?_; (iterate 4 refine qguard_n2 ?_); refine mguard_n2 ?_; refine mguard_n2 ?_; refine qguard_yes ?_; refine dp_c trivial ?_; refine qguard_yes ?_; refine dp_c trivial ?_; refine qguard_yes ?_; refine dp_c trivial ?_; refine dp_c trivial ?_; refine mm_end hM ?_; clear hM; intro _ hM; refine mif_true ?_)))
          try simp only [Bool.not_true, Bool.not_false]
          skip
          exact ⟨⟨hkl, by rw [hqe]; exact decide_eq_false fun h => (hneg.1 h).elim c1 fun h => h.1 c2⟩, hM⟩
        rw [hqe, decide_eq_false c2]
        skip
        try simp only [Bool.not_true, Bool.not_false]
        ((with_reducible (refine qguard_yes ?_; refine dm_ld hM ?_; refine mguard_yes ?_; refine dm_purC hM ?_ (fun _ _ hM => ?_))); (focus (first | exact trivial | assumption | omega)); (with_reducible (refine qguard_yes ?_; refine dp_c trivial ?_; refine qguard_yes ?_; refine dp_c trivial ?_; refine qguard_yes ?_)); (with_reducible refine dp_ixs ‹_› ?_ ?_ ?_); (focus (simp only [List.length_map]; omega)); (focus (simp only [List.length_map]; first | done | omega)); (with_reducible (intro _ _ hA)); (cases hA); (with_reducible (refine qguard_yes ?_)))
        refine dm_lds0 (by assumption) hK hq2 ?_
        ((with_reducible (refine mguard_yes ?_; refine dm_purC hM ?_ (fun _ _ hM => ?_))); (focus (first | exact trivial | assumption | omega)); (with_reducible (refine mguard_yes ?_; refine dm_purC hM ?_ (fun _ _ hM => ?_))); (focus (first | exact trivial | assumption | omega)); (with_reducible (refine qguard_yes ?_; refine dp_c trivial ?_; refine qguard_yes ?_; refine dp_c trivial ?_; refine qguard_yes ?_; refine dp_c trivial ?_; refine dp_c trivial ?_; refine mm_end hM ?_; clear hM; intro _ hM)))
        by_cases c3 : cmpL (Chg.idH p).1 (Chg.idH q).1 < 0
        · have hins := insB_at hk hpre (.inr ⟨hkl, by rw [hqe]; exact decide_eq_true (hneg.2 (.inr ⟨c2, c3⟩))⟩)
          rw [decide_eq_true c3]
          ((with_reducible (refine mif_nt ?_; refine mop_c ?_ ?_)); (focus omega))
          try simp only [Bool.not_true, Bool.not_false]
          skip
          rw [Int.toNat_natCast]
          refine mm_apps0 hM (hK.take k) (by rw [List.length_take, List.length_map]; omega) (by omega) ?_
          intro A3 c3 w5 hM
          ((with_reducible (refine mm_ld hM ?_; refine mm_bsl hM ?_ ?_ ?_)); (focus rfl); (focus (constructor <;> simp)); (with_reducible (clear hM; intro _ _ hM; refine mm_appo hM ?_ ?_)); (focus omega); (with_reducible (clear hM; intro _ _ _ hM; refine mop_c ?_ ?_)); (focus omega))
          have hB := hK.drop_ (k := k) (by rw [List.length_map]; omega)
          rw [Int.toNat_natCast]
          refine mm_apps hM hB (by rw [List.length_drop, List.length_map]) (by omega) ?_
          intro A4 c4 w6 hM
          ((with_reducible (refine mop_c ?_ ?_)); (focus omega))
          have e9 : (L.map Chg.Prp.fds).take k ++ [p.fds] ++ (L.map Chg.Prp.fds).drop k = (insB (ltP Chg.cvP) p L).map Chg.Prp.fds := by
            rw [hins, List.map_append, List.map_cons, List.map_take, List.map_drop, List.append_assoc]
            rfl
          have e8 : k + 1 + (L.length - k) = (insB (ltP Chg.cvP) p L).length := by
            rw [hins, List.length_append, List.length_cons, List.length_take, List.length_drop]
            omega
          have hM9 : Mem H2 w1 [rowR 87 101 A4 (k + 1 + (L.length - k)) c4 ((L.map Chg.Prp.fds).take k ++ [p.fds] ++ (L.map Chg.Prp.fds).drop k), fb g3 33 [.arr 32 (u8s x.ep.1)], fb g2 42 [.arr 64 (tis x.ti.1)], fb g1 25 (tfd TA x.t.ls.length ta TB x.t.ps.length tb)] _ := hM.sub
          rw [e9, e8] at hM9
          have hc4 := (Mem.rowLen hM9 ⟨.refl _⟩).2.1
          obtain ⟨H4, l4, hM, hs4, -⟩ := hM9.fz0
          rw [e8, ← hst] at *
          exact ⟨⟨i + 1, H4, A4, c4, rfl, by rw [Value.int.injEq]; refine ⟨rfl, ?_⟩; push_cast; rfl, by omega, hc4, le2.trans l4, hs4, hM⟩, by simp only; omega⟩
        · rw [decide_eq_false c3]
          ((with_reducible (refine mif_nf ?_)))
          try simp only [Bool.not_true, Bool.not_false]
          skip
          exact ⟨⟨hkl, by rw [hqe]; exact decide_eq_false fun h => (hneg.1 h).elim c1 fun h => c3 h.2⟩, hM⟩
      · have hins := insB_at hk hpre (.inl (by omega))
        ((with_reducible (refine dp_c trivial ?_; refine dp_cF trivial ?_ ?_)); (focus (first | assumption | omega | with_reducible rfl | exact fun h => Bool.noConfusion h)); (with_reducible ((iterate 5 refine qguard_n2 ?_); refine mguard_n2 ?_; refine qguard_n2 ?_; (iterate 5 refine qguard_un ?_); refine mguard_un ?_; (iterate 3 refine qguard_un ?_); refine mguard_un ?_; (iterate 4 refine qguard_un ?_); refine mguard_un ?_; refine mguard_un ?_; refine qguard_un ?_; refine qguard_n2 ?_; refine qguard_n2 ?_; refine dp_c trivial ?_; refine mm_end hM (fun _ hM2 => ?_); replace hM := hM2; clear hM2; refine mif_false ?_; refine mop_c ?_ ?_)); (focus omega))
        rw [Int.toNat_natCast]
        refine mm_apps0 hM (hK.take k) (by rw [List.length_take, List.length_map]; omega) (by omega) ?_
        intro A3 c3 w5 hM
        ((with_reducible (refine mm_ld hM ?_; refine mm_bsl hM ?_ ?_ ?_)); (focus rfl); (focus (constructor <;> simp)); (with_reducible (clear hM; intro _ _ hM; refine mm_appo hM ?_ ?_)); (focus omega); (with_reducible (clear hM; intro _ _ _ hM)))
        refine mm_sld hK (by rw [List.length_map]) (by omega) hcp ?_
        intro B hB
        rw [Int.toNat_natCast] at hB ⊢
        refine mm_apps hM hB (by rw [List.length_drop, List.length_map]) (by omega) ?_
        intro A4 c4 w6 hM
        ((with_reducible (refine mop_c ?_ ?_)); (focus omega))
        have e9 : (L.map Chg.Prp.fds).take k ++ [p.fds] ++ (L.map Chg.Prp.fds).drop k = (insB (ltP Chg.cvP) p L).map Chg.Prp.fds := by
          rw [hins, List.map_append, List.map_cons, List.map_take, List.map_drop, List.append_assoc]
          rfl
        have e8 : k + 1 + (L.length - k) = (insB (ltP Chg.cvP) p L).length := by
          rw [hins, List.length_append, List.length_cons, List.length_take, List.length_drop]
          omega
        have hM9 : Mem H2 w1 [rowR 87 101 A4 (k + 1 + (L.length - k)) c4 ((L.map Chg.Prp.fds).take k ++ [p.fds] ++ (L.map Chg.Prp.fds).drop k), fb g3 33 [.arr 32 (u8s x.ep.1)], fb g2 42 [.arr 64 (tis x.ti.1)], fb g1 25 (tfd TA x.t.ls.length ta TB x.t.ps.length tb)] _ := hM.sub
        rw [e9, e8] at hM9
        have hc4 := (Mem.rowLen hM9 ⟨.refl _⟩).2.1
        obtain ⟨H4, l4, hM, hs4, -⟩ := hM9.fz0
        rw [e8, ← hst] at *
        exact ⟨⟨i + 1, H4, A4, c4, rfl, by rw [Value.int.injEq]; refine ⟨rfl, ?_⟩; push_cast; rfl, by omega, hc4, le2.trans l4, hs4, hM⟩, by simp only; omega⟩
    rintro u6 w6 ⟨⟨hkl, hfl⟩, hM⟩
    have hM : Mem H2 w1 (fb gp 87 p.fds :: [fb g3 33 [.arr 32 (u8s x.ep.1)], fb g2 42 [.arr 64 (tis x.ti.1)], fb g1 25 (tfd TA x.t.ls.length ta TB x.t.ps.length tb)]) _ := hM
    ((with_reducible (refine mop_c ?_ ?_)); (focus omega))
    exact ⟨⟨k + 1, by rw [Value.int.injEq]; refine ⟨rfl, ?_⟩; push_cast; rfl, by omega, fun j hj hjk => by
      by_cases e : j = k
      · subst e
        exact hfl
      · exact hpre j hj (by omega), hM⟩, by simp only; omega⟩
  · intro hge
    obtain rfl : i = l.length := by omega
    have hLl := srtB_len (lt := ltP Chg.cvP) l
    rw [List.take_length] at hK hcp ⊢
    generalize srtB (ltP Chg.cvP) l = sl at *
    ((with_reducible (refine mif_false ?_)))
    refine ⟨fun v u w' => ∃ (j : Nat) (H3 : Hp) (K3 : Option Addr) (kc3 : Nat), v = .slice K3 (x.pickL (sl.take j)).length kc3 ∧ u = .int .i64 j ∧ j ≤ sl.length ∧ H2.le H3 ∧ Le w1 H H3 ∧ Sl H3 101 K3 ((x.pickL (sl.take j)).map Chg.Prp.fds) ∧ Mem H3 w1 [fb g3 33 [.arr 32 (u8s x.ep.1)], fb g2 42 [.arr 64 (tis x.ti.1)], fb g1 25 (tfd TA x.t.ls.length ta TB x.t.ps.length tb)] w', fun _ u _ => match u with | .int _ k => sl.length - k.toNat | _ => 0, ⟨0, H2, none, 0, rfl, rfl, by omega, Hp.le.refl _, le2, Sl.nil _ _ _, hM⟩, ?_⟩
    clear hM
    rintro v u u5 w5 ⟨j, H3, K3, kc3, rfl, rfl, hj, l23, le3, hK3, hM⟩
    have hol : (x.pickL (sl.take j)).length ≤ 16 := x.pick_len (sl.take j) [] (by simp)
    refine ⟨fun w' => (j < sl.length ∧ (x.pickL (sl.take j)).length < 16) ∧ hM.now w', ?_, ?_⟩
    · by_cases c1 : j < sl.length
      · by_cases c2 : (x.pickL (sl.take j)).length < 16
        · ((with_reducible (refine mop_c trivial ?_; refine mop_cT trivial ?_ ?_)); (focus (first | assumption | omega | with_reducible rfl | exact fun h => Bool.noConfusion h)); (with_reducible (refine mguard_yes ?_; refine mop_c trivial ?_; refine mguard_yes ?_; refine mop_c trivial ?_; refine mguard_yes ?_; refine mop_cT trivial ?_ ?_)); (focus (first | assumption | omega | with_reducible rfl | exact fun h => Bool.noConfusion h)); (with_reducible (refine mop_c trivial ?_; refine mif_true ?_)))
          exact ⟨⟨c1, c2⟩, hM⟩
        · ((with_reducible (refine mop_c trivial ?_; refine mop_cT trivial ?_ ?_)); (focus (first | assumption | omega | with_reducible rfl | exact fun h => Bool.noConfusion h)); (with_reducible (refine mguard_yes ?_; refine mop_c trivial ?_; refine mguard_yes ?_; refine mop_c trivial ?_; refine mguard_yes ?_; refine mop_cF trivial ?_ ?_)); (focus (first | assumption | omega | with_reducible rfl | exact fun h => Bool.noConfusion h)); (with_reducible (refine mop_c trivial ?_; refine mif_false ?_)))
          have e := x.pick_stop (l := sl) (i := j) (by omega)
          exact hM.out le3 ⟨K3, kc3, by rw [e], by rw [e]; exact hK3⟩
      · obtain rfl : j = sl.length := by omega
        ((with_reducible (refine mop_c trivial ?_; refine mop_cF trivial ?_ ?_)); (focus (first | assumption | omega | with_reducible rfl | exact fun h => Bool.noConfusion h)); (with_reducible ((iterate 3 refine mguard_n2 ?_); refine mop_c trivial ?_; refine mif_false ?_)))
        rw [List.take_length] at hK3 ⊢
        exact hM.out le3 ⟨K3, kc3, rfl, hK3⟩
    rintro u6 w6 ⟨⟨hjl, ho⟩, hM9⟩
    have hM8 : Mem H3 w1 [fb g3 33 [.arr 32 (u8s x.ep.1)], fb g2 42 [.arr 64 (tis x.ti.1)], fb g1 25 (tfd TA x.t.ls.length ta TB x.t.ps.length tb)] _ := hM9
    clear hM9 hM
    have hM := hM8
    clear hM8
    have hst := x.pick_take hjl
    generalize x.pickL (sl.take j) = out at *
    have hsl3 := hK.mono l23
    refine ⟨fun v w' => ∃ (H4 : Hp) (K4 : Option Addr) (kc4 : Nat), v = .slice K4 (x.pick1 out sl[j]).length kc4 ∧ H2.le H4 ∧ Le w1 H H4 ∧ Sl H4 101 K4 ((x.pick1 out sl[j]).map Chg.Prp.fds) ∧ Mem H4 w1 [fb g3 33 [.arr 32 (u8s x.ep.1)], fb g2 42 [.arr 64 (tis x.ti.1)], fb g1 25 (tfd TA x.t.ls.length ta TB x.t.ps.length tb)] w', ?_, ?_⟩
    · obtain ⟨p, hp⟩ : ∃ p, sl[j] = p := ⟨_, rfl⟩
      have hps : x.pick1 out p = if x.fit (out ++ [p]) = 0 then out ++ [p] else out := if_neg (by omega)
      rw [hp]
      skip
      refine mm_apps0 hM hK3 (by rw [List.length_map]) (by omega) ?_
      intro A5 c5 w7 hM
      ((with_reducible refine mm_ixs ‹_› ?_ ?_ ?_); (focus (simp only [List.length_map]; omega)); (focus (simp only [List.length_map]; first | done | omega)); (with_reducible (intro _ _ hA)); (cases hA); (with_reducible refine mm_lds0 hM ‹_› (map_atI ?_) ?_); (focus omega); (with_reducible (refine mm_bsl hM ?_ ?_ ?_)); (focus rfl); (focus (constructor <;> simp)); (with_reducible (clear hM; intro _ _ hM; refine mm_appo hM ?_ ?_)); (focus omega); (with_reducible (clear hM; intro _ _ _ hM; (iterate 3 refine mm_ld hM ?_))))
      rw [hp] at hM
      have e9 : out.map Chg.Prp.fds ++ [p.fds] = (out ++ [p]).map Chg.Prp.fds := by
        rw [List.map_append]
        rfl
      rename_i A6 c6 _
      have hM9 : Mem H3 w1 (rowR 87 101 A6 (out.length + 1) c6 (out.map Chg.Prp.fds ++ [p.fds]) :: [fb g3 33 [.arr 32 (u8s x.ep.1)], fb g2 42 [.arr 64 (tis x.ti.1)], fb g1 25 (tfd TA x.t.ls.length ta TB x.t.ps.length tb)]) _ := hM.sub
      rw [e9] at hM9
      clear hM
      obtain ⟨H4, l4, hM, hs4, -⟩ := hM9.fz0
      clear hM9
      have l5 := l4.le
      have l04 := le3.le.trans l5
      have hfit := fun w (hf : Fz H4 w) => rfit_ok (K := A6) (kc := c6) (a := a) (w := w) x (out ++ [p]) (by rw [List.length_append, List.length_singleton]; simp only [maxLen]; omega) (h.mono l04) (h1.mono l04) (All2.mono (fun _ _ k => PsF.mono k l04) h2) hrl hs4 hf
      rw [List.length_append, List.length_singleton] at hfit
      refine mm_pure hM (hfit _ hM.fz) (fun w hM => ?_)
      by_cases h0 : x.fit (out ++ [p]) = 0
      · rw [if_pos h0] at hps
        ((with_reducible (refine mop_cT trivial ?_ ?_)); (focus (first | assumption | omega | with_reducible rfl | exact fun h => Bool.noConfusion h)); (with_reducible (refine mif_true ?_)))
        exact ⟨H4, A6, c6, by rw [hps, List.length_append]; rfl, l23.trans l5, le3.trans l4, by rw [hps]; exact hs4, hM⟩
      · rw [if_neg h0] at hps
        ((with_reducible (refine mop_cF trivial ?_ ?_)); (focus (first | assumption | omega | with_reducible rfl | exact fun h => Bool.noConfusion h)); (with_reducible (refine mif_false ?_)))
        exact ⟨H4, K3, kc3, by rw [hps], l23.trans l5, le3.trans l4, by rw [hps]; exact hK3.mono l5, hM⟩
    clear hM
    rintro v u7 w7 ⟨H4, K4, kc4, rfl, l24, le4, hK4, hM⟩
    rw [← hst] at hK4 ⊢
    ((with_reducible (refine mop_c ?_ ?_)); (focus omega))
    exact ⟨⟨j + 1, H4, K4, kc4, rfl, by rw [Value.int.injEq]; refine ⟨rfl, ?_⟩; push_cast; rfl, by omega, l24, le4, hK4, hM⟩, by simp only; omega⟩
theorem rsameP_ok {B : Option Addr} {b : Nat} (l : List Chg.Prp) (hl : l.length ≤ 1000) (h1 : Sl H 101 A (l.map Chg.Prp.fds)) (h2 : Sl H 101 B (l.map Chg.Prp.fds)) (hf : Fz H w) :
    Calls Tryz.prog 25 #[.slice A l.length a, .slice B l.length b] w fun en w' => en = .returned (.bool true) ∧ St w [] w' := by
  have hM := Mem.start hf
  refine C_bevyref10_Same ?_
  unfold F_bevyref10_Same
  ((with_reducible (refine mop_c trivial ?_; refine mop_c trivial ?_; refine mop_cF trivial ?_ ?_)); (focus (first | assumption | omega | with_reducible rfl | exact fun h => Bool.noConfusion h)); (with_reducible (refine mif_false ?_)))
  refine ⟨fun v w' => ∃ i : Nat, v = .int .i64 i ∧ i ≤ l.length ∧ hM.now w', fun v _ => match v with | .int _ k => l.length - k.toNat | _ => 0, ⟨0, rfl, by omega, hM⟩, ?_⟩
  rintro v u w2 ⟨i, rfl, hi, hM⟩
  ((with_reducible (refine mop_c trivial ?_)))
  ((with_reducible (refine mop_cS trivial ?_ ?_)))
  · intro hlt
    have hlt' : i < l.length := by omega
    ((with_reducible (refine mif_true ?_)); (with_reducible refine dp_ixs ‹_› ?_ ?_ ?_); (focus (simp only [List.length_map]; omega)); (focus (simp only [List.length_map]; first | done | omega)); (with_reducible (intro _ _ hA)); (cases hA); (with_reducible refine dm_lds0 hM ‹_› (map_atI ?_) ?_); (focus omega); (with_reducible refine dp_ixs ‹_› ?_ ?_ ?_); (focus (simp only [List.length_map]; omega)); (focus (simp only [List.length_map]; first | done | omega)); (with_reducible (intro _ _ hA)); (cases hA); (with_reducible refine dm_lds0 hM ‹_› (map_atI ?_) ?_); (focus omega))
    refine dp_c trivial ?_
    simp only [eq_self, and_self, not_true_eq_false, decide_false]
    ((with_reducible (refine mm_end hM ?_; clear hM; intro _ hM; refine mif_false ?_; refine mop_c ?_ ?_)); (focus omega))
    exact ⟨⟨i + 1, by rw [Value.int.injEq]; refine ⟨rfl, ?_⟩; push_cast; rfl, by omega, hM⟩, by simp only; omega⟩
  · intro hge
    ((with_reducible (refine mif_false ?_)))
    exact ⟨rfl, hM.st⟩
end
end Go.Proofs.YtopcnkejobomaaaGreat
namespace Go.Proofs.YtopcnkejobomaaaGreat
open Go.RowKit Go.Lib
section
variable {H : Hp} {w0 w : World} {L R : List Res} {K : Option Addr} {kc : Nat} {v : Value}
theorem changePicks_ok (x : Plc) (l : List Chg.Prp) (h : PlF H v x) (hl : l.length ≤ maxLen) (hs : Sl H 101 K (l.map Chg.Prp.fds)) (hf : Fz H w) :
    Calls Tryz.prog 4 #[v, .slice K l.length kc] w fun en w' => en = .returned (.bool true) ∧ St w [] w' := by
  obtain ⟨A, a, B, b, q, C, c, r, hv, ⟨t1, t2, t3⟩, r1, r2⟩ := h.ex
  obtain ⟨l1, l2, l3⟩ := h.len
  have hl' : l.length ≤ 9223372036854775807 := hl
  have hT : TrF H (tv A x.t.ls.length a B x.t.ps.length b) x.t := ⟨⟨A, a, B, b, q, rfl, t1, t2, t3⟩, l1, l2⟩
  rw [hv] at h ⊢
  have hM := Mem.start hf
  refine C_bevylaw10_ChangePicks ?_
  unfold F_bevylaw10_ChangePicks
  ((with_reducible (refine mm_box hM ?_; clear hM; intro _ _ hM)))
  refine ⟨fun v w' => v = .bool (decide (¬ (x.few ∧ l.length ≤ 70))) ∧ hM.now w', ?_, ?_⟩
  · ((with_reducible (refine mm_purC hM ?_ (fun _ hM2 => ?_))); (focus (first | exact trivial | assumption | omega)); (with_reducible (replace hM := hM2; clear hM2; refine mop_c trivial ?_; refine mguard_yes ?_; refine mm_ld hM ?_; refine mguard_yes ?_)))
    refine mm_pure hM (few10_ok x h hM.fz) (fun w hM => ?_)
    by_cases c : x.few
    · rw [decide_eq_true c]
      ((with_reducible (refine mguard_yes ?_; refine mop_c trivial ?_; refine mop_c trivial ?_; refine mguard_yes ?_; refine mop_c trivial ?_; refine mguard_yes ?_; refine mop_c trivial ?_; refine mguard_yes ?_)))
      ((with_reducible (refine mop_cS trivial ?_ ?_)))
      · intro c2
        ((with_reducible (refine mop_c trivial ?_)))
        exact ⟨by rw [decide_eq_true (show ¬ (x.few ∧ l.length ≤ 70) from fun k => by have := k.2; omega)], hM⟩
      · intro c2
        ((with_reducible (refine mop_c trivial ?_)))
        exact ⟨by rw [decide_eq_false (show ¬ ¬ (x.few ∧ l.length ≤ 70) from fun k => k ⟨c, by omega⟩)], hM⟩
    · rw [decide_eq_false c]
      ((with_reducible (refine mguard_yes ?_; refine mop_c trivial ?_; refine mop_c trivial ?_; (iterate 3 refine mguard_n1 ?_); refine mop_c trivial ?_)))
      exact ⟨by rw [decide_eq_true (show ¬ (x.few ∧ l.length ≤ 70) from fun k => c k.1)], hM⟩
  rintro v u w2 ⟨rfl, hM⟩
  by_cases c : x.few ∧ l.length ≤ 70
  case neg =>
    rw [decide_eq_true c]
    ((with_reducible (refine mif_true ?_; refine mm_purC hM ?_ ?_)); (focus (first | exact trivial | assumption | omega)); (with_reducible (clear hM; intro _ hM)))
    exact ⟨rfl, hM.st⟩
  rw [decide_eq_false (fun k => k c)]
  ((with_reducible (refine mif_false ?_; refine mop_c trivial ?_; refine mm_ld hM ?_; refine mop_c trivial ?_; refine mm_ld hM ?_; refine mop_c trivial ?_; refine mm_ld hM ?_; refine mop_c trivial ?_; refine mm_ld hM ?_; refine mop_c trivial ?_; refine mm_ld hM ?_; refine mop_c trivial ?_; refine mm_ld hM ?_)))
  have hc70 := c.2
  refine mm_call hM (cpick_ok x l (by omega) hT r1 r2 l3 hs hM.fz) ?_
  rintro H2 v w4 le2 hM ⟨K2, kc2, rfl, hK2⟩
  ((with_reducible (refine mop_c trivial ?_; refine mm_ld hM ?_; refine mop_c trivial ?_; refine mm_ld hM ?_; refine mop_c trivial ?_; refine mm_ld hM ?_; refine mop_c trivial ?_; refine mm_ld hM ?_; refine mop_c trivial ?_; refine mm_ld hM ?_; refine mop_c trivial ?_; refine mm_ld hM ?_)))
  have l2' := le2.le
  have hr2 := All2.mono (fun _ _ k => PsF.mono k l2') r2
  refine mm_call hM (rpick_ok x l (by omega) (hT.mono l2') (r1.mono l2') hr2 l3 (hs.mono l2') hM.fz) ?_
  rintro H3 v w5 le3 hM ⟨K3, kc3, rfl, hK3⟩
  have hfit := x.pick_fit (srtB (ltP Chg.cvP) l)
  have hlen : (x.pickL (srtB (ltP Chg.cvP) l)).length ≤ 16 := x.pick_len (srtB (ltP Chg.cvP) l) [] (by simp)
  generalize x.pickL (srtB (ltP Chg.cvP) l) = pl at *
  have l23 := l2'.trans le3.le
  skip
  refine mm_pure hM (rsameP_ok pl (by omega) (hK2.mono le3.le) hK3 hM.fz) (fun w hM => ?_)
  ((with_reducible (refine mop_c trivial ?_; refine mif_false ?_; refine mop_c trivial ?_)))
  by_cases h0 : pl.length = 0
  · ((with_reducible (refine mop_cT trivial ?_ ?_)); (focus (first | assumption | omega | with_reducible rfl | exact fun h => Bool.noConfusion h)); (with_reducible ((iterate 15 refine mguard_n1 ?_); refine mop_c trivial ?_)))
    exact ⟨rfl, hM.st⟩
  have hf0 : x.fit pl = 0 := hfit.resolve_left fun e => h0 (by rw [e]; rfl)
  ((with_reducible (refine mop_cF trivial ?_ ?_)); (focus (first | assumption | omega | with_reducible rfl | exact fun h => Bool.noConfusion h)); (with_reducible (refine mguard_yes ?_; refine mop_c trivial ?_; refine mguard_yes ?_; refine mm_ld hM ?_; refine mguard_yes ?_; refine mop_c trivial ?_; refine mguard_yes ?_; refine mm_ld hM ?_; refine mguard_yes ?_; refine mop_c trivial ?_; refine mguard_yes ?_; refine mm_ld hM ?_; refine mguard_yes ?_; refine mop_c trivial ?_; refine mguard_yes ?_; refine mm_ld hM ?_; refine mguard_yes ?_; refine mop_c trivial ?_; refine mguard_yes ?_; refine mm_ld hM ?_; refine mguard_yes ?_; refine mop_c trivial ?_; refine mguard_yes ?_; refine mm_ld hM ?_; refine mguard_yes ?_; refine mop_c trivial ?_; refine mguard_yes ?_)))
  refine mm_pure hM (fit_ok x pl (by simp only [maxLen]; omega) (hT.mono l23) (r1.mono l23) (All2.mono (fun _ _ k => PsF.mono k l23) r2) l3 (hK2.mono le3.le) hM.fz) (fun w hM => ?_)
  rw [hf0]
  ((with_reducible (refine mguard_yes ?_; refine mop_cT trivial ?_ ?_)); (focus (first | assumption | omega | with_reducible rfl | exact fun h => Bool.noConfusion h)); (with_reducible (refine mop_c trivial ?_)))
  exact ⟨rfl, hM.st⟩
end
end Go.Proofs.YtopcnkejobomaaaGreat
namespace Go.Proofs.YtopcnkejobomaaaGreat
open Go.ChangeShapes Go.WideShapes Go.ChangeAt Go.RowKit
set_option linter.unusedVariables false
theorem fl_arr1 (n : Nat) (l : List Value) : fl [.arr n l] = l := by simp [fl, Fd.cells]
theorem own : ownKnob Tryz.prog.godebug = none := by kernel_rfl
theorem laidOut : laidOutB Tryz.prog = true := by kernel_rfl
set_option maxRecDepth 100000 in
theorem changePicks_lifted (os : Os) (started : os.Started) (H : Type) (enc : TypeId × Value → H) :
    ReturnsInHanded {} Tryz.checked os 4 .any (Rows.changePicksSpec.pre6 enc Tryz.prog Tryz.f4 Rows.changePicksRow.domain false) (Rows.changePicksSpec.post enc Tryz.prog Tryz.f4 false true false false) := by
  refine returnsInHanded_of_change (C := Tryz.checked) own started (by kernel_rfl) Tryz.func4
    (ChangeSpec.witness6 (enc := enc) (C := Tryz.checked) false ⟨#[], #[.agg (fl (plfd none 0 0 none 0 0 ⟨Tr.none, Ti.zero, [], hzero, 0, 0⟩ none 0 0)).toArray, .slice none 0 0], []⟩ 8 (by kernel_rfl) (by kernel_rfl) (by kernel_rfl) (by kernel_rfl)) ?_
  intro W base args ds gs before hval0 hW hcnd _
  have hval : ∀ (j : Nat) t v, Tryz.f4.params[j]? = some t → args[j]? = some v → Value.okWide Tryz.prog W .any base t v := hval0
  have hW' := hW
  obtain ⟨p, q, hA0, hV, rfl, hfz, hnd⟩ := hW
  have hA : DataW.TrodAll enc Tryz.prog W 0 (fun _ => true) true Tryz.f4.params.toList args.toList ds p := hA0
  rw [Tryz.params4] at hA hval
  obtain ⟨v0, vs0, d0, ds0, p0, q0, hargs, rfl, rfl, h0, r0⟩ := trodAll_cons hA
  obtain ⟨v1, vs1, d1, ds1, p1, q1, rfl, rfl, rfl, h1, r1⟩ := trodAll_cons r0
  obtain ⟨rfl, rfl, rfl⟩ := trodAll_nil r1
  obtain rfl : args = #[v0, v1] := by cases args; simp_all
  obtain ⟨rfl, rfl⟩ := trodVars_none hV
  have k0 := h0
  have lt0 : ∀ x ∈ p0, x.block < W.heap.size := by obtain ⟨m, hm⟩ := k0; exact DataW.trod_lt m _ _ _ hm
  have k1 := h1
  have lt1 : ∀ x ∈ p1, x.block < W.heap.size := by obtain ⟨m, hm⟩ := k1; exact DataW.trod_lt m _ _ _ hm
  obtain ⟨m0, hm0⟩ := h0
  obtain ⟨fs0, x0, e0, ok0, -, hr0⟩ := (rdr_plc).read enc W 0 _ _ m0 _ _ hm0
  have hp0 := hr0
  obtain rfl := arg_agg (t := 45) (by kernel_rfl) (hval 0 45 v0 rfl rfl) e0
  obtain ⟨m1, hm1⟩ := h1
  obtain ⟨fs1, x1, e1, ok1, -, hr1⟩ := (rdr_prps).read enc W 0 _ _ m1 _ _ hm1
  obtain ⟨K, kc, rfl, hkl, hK⟩ := hr1
  obtain rfl := arg_one (t := 46) (by kernel_rfl) (hval 1 46 v1 rfl rfl) e1
  clear hA0 hval0
  have hc := changePicks_ok (kc := kc) x0 x1 hr0 hkl hK (Fz.of W)
  refine hc.mono fun e W' ⟨he, hst⟩ => ?_
  subst he
  have bel : Below W.heap.size W W' := hst.only.below (Nat.le_refl _) (fun _ _ h => by obtain ⟨_, hb, _⟩ := h; cases hb)
  exact ⟨_, rfl, _, _, _, [], _, [], hW', trodAll_mk1 (shut_bool Tryz.underlying4 _), (trodAll_cons_mk (Below.trod laidOut (by kernel_rfl) (of_decide_eq_true (by kernel_rfl)) k0 bel lt0) (trodAll_cons_mk (Below.trod laidOut (by kernel_rfl) (of_decide_eq_true (by kernel_rfl)) k1 bel lt1) trodAll_mk0)), rfl, bel.frame _, fun h => by cases h⟩
theorem changePicks_proved : Rows.ChangePicksSaid :=
  OpenClaim.holds_of_wide 4 Tryz.f4 rfl rfl rfl rfl rfl rfl rfl ⟨rfl, rfl, rfl, rfl, rfl⟩ rfl rfl rfl rfl rfl (by kernel_rfl) Tryz.func4 (by kernel_rfl)
    (of_decide_eq_true (by kernel_rfl)) (by unfold Func.isWrapper; first | (rw [if_pos (by decide +kernel)]; kernel_rfl) | (rw [if_neg (by decide +kernel)]; exact ⟨rfl, rfl⟩))
    (fun os started H enc _ => changePicks_lifted os started H enc)
#print axioms changePicks_proved
end Go.Proofs.YtopcnkejobomaaaGreat
