/- A tree of one's own: its rows, and each parent's row of loose leaves. -/
import Derived.Test.YtmjpbomonhjebaaTr3
namespace Go.Proofs.Ytmjpbomonhjebaa
open Go.RowKit Go.Lib

abbrev Xp := Pn × Option Addr × Nat
abbrev xrow (x : Xp) : List Fd := x.1.row x.2.1 x.2.2
abbrev xres (x : Xp) : Res := rowR 3 1 x.2.1 x.1.loose.length x.2.2 (ints8 x.1.loose)
/-- All the loose rows. -/
def allR (X : List Xp) : Res := fun B => Hl (X.map xres) B
/-- .. but one. -/
def restR (X : List Xp) (j : Nat) : Res := fun B => Hl ((X.take j ++ X.drop (j + 1)).map xres) B
abbrev x0 : Xp := (Pn.zero, none, 0)
section
variable {H : Hp} {w0 w : World} {L : List Res} {X : List Xp} {j : Nat} {A B : Option Addr} {n m a b e sz cap k : Nat} {ps : List (List Fd)}
theorem Mem.all0 (h : Mem H w0 L w) : Mem H w0 (allR [] :: L) w := Mem.fold (R := []) (L := L) h fun _ hb => hb
theorem out_perm (hj : j < X.length) : (X.map xres).Perm (xres X[j] :: (X.take j ++ X.drop (j + 1)).map xres) := by
  have e : X = X.take j ++ X[j] :: X.drop (j + 1) := by simp
  conv => lhs; rw [e]
  rw [List.map_append, List.map_append, List.map_cons]
  exact List.perm_middle
theorem in_perm (hj : j < X.length) (y : Xp) : ((X.set j y).map xres).Perm (xres y :: (X.take j ++ X.drop (j + 1)).map xres) := by
  rw [List.set_eq_take_append_cons_drop, if_pos hj, List.map_append, List.map_append, List.map_cons]
  exact List.perm_middle
theorem Mem.outk (h : Mem H w0 (allR X :: L) w) (hj : j < X.length) : Mem H w0 (xres X[j] :: restR X j :: L) w := by
  have h1 : Mem H w0 (X.map xres ++ L) w := h.imp (R := X.map xres) fun _ hb => hb
  have h2 := h1.perm ((out_perm hj).append_right L)
  have h3 : Mem H w0 ((X.take j ++ X.drop (j + 1)).map xres ++ (xres X[j] :: L)) w := h2.perm List.perm_middle.symm
  have h4 : Mem H w0 (restR X j :: xres X[j] :: L) w := h3.fold fun _ hb => hb
  exact h4.perm (.swap ..)
theorem Mem.ink {y : Xp} (h : Mem H w0 (xres y :: restR X j :: L) w) (hj : j < X.length) : Mem H w0 (allR (X.set j y) :: L) w := by
  have h1 : Mem H w0 (restR X j :: xres y :: L) w := h.perm (.swap ..)
  have h2 : Mem H w0 ((X.take j ++ X.drop (j + 1)).map xres ++ (xres y :: L)) w := h1.imp fun _ hb => hb
  have h3 : Mem H w0 ((X.set j y).map xres ++ L) w := (h2.perm List.perm_middle).perm ((in_perm hj y).append_right L).symm
  exact h3.fold fun _ hb => hb
theorem Mem.addk {y : Xp} (h : Mem H w0 (allR X :: xres y :: L) w) : Mem H w0 (allR (X ++ [y]) :: L) w := by
  have h1 : Mem H w0 (X.map xres ++ (xres y :: L)) w := h.imp fun _ hb => hb
  have h2 : Mem H w0 ((X ++ [y]).map xres ++ L) w := by
    rw [List.map_append, List.append_assoc]
    exact h1
  exact h2.fold fun _ hb => hb
theorem Mem.unk {x : Xp} (h : Mem H w0 (allR (x :: X) :: L) w) : Mem H w0 (xres x :: allR X :: L) w := by
  have h1 : Mem H w0 (xres x :: (X.map xres ++ L)) w := h.imp (R := xres x :: X.map xres) fun _ hb => hb
  have h2 : Mem H w0 (X.map xres ++ (xres x :: L)) w := h1.perm List.perm_middle.symm
  have h3 : Mem H w0 (allR X :: xres x :: L) w := h2.fold fun _ hb => hb
  exact h3.perm (.swap ..)
theorem Mem.blankk (h : Mem H w0 (allR X :: L) w) (hj : j < X.length) : Mem H w0 (allR (X.set j x0) :: L) w := by
  have h1 := (h.outk hj).drop
  have h2 : Mem H w0 (xres x0 :: restR X j :: L) w := h1.row0 3 1
  exact h2.ink hj
theorem Mem.dropk : ∀ {X : List Xp} {L : List Res} (k : Nat), Mem H w0 (allR X :: L) w → Mem H w0 (allR (X.take k) :: L) w
  | X, L, 0, h => by
    rw [List.take_zero]
    exact h.drop.all0
  | [], L, k + 1, h => by simpa using h
  | x :: X, L, k + 1, h => by
    have h1 : Mem H w0 (allR X :: xres x :: L) w := h.unk.perm (.swap ..)
    have h2 := Mem.dropk k h1
    have h3 : Mem H w0 ((X.take k).map xres ++ (xres x :: L)) w := h2.imp fun _ hb => hb
    have h4 : Mem H w0 (((x :: X).take (k + 1)).map xres ++ L) w := h3.perm List.perm_middle
    exact h4.fold fun _ hb => hb
theorem Mem.frzX : ∀ {X : List Xp} {L : List Res} {H : Hp}, Mem H w0 (allR X :: L) w → ∃ H', Le w0 H H' ∧ Mem H' w0 L w ∧ ∀ x ∈ X, Sl H' 1 x.2.1 (ints8 x.1.loose)
  | [], L, H, h => ⟨H, Le.refl _ _, h.drop, fun _ h => by cases h⟩
  | x :: X, L, H, h => by
    obtain ⟨H1, l1, h1, s1, -⟩ := h.unk.fz0
    obtain ⟨H2, l2, h2, s2⟩ := Mem.frzX h1
    refine ⟨H2, l1.trans l2, h2, fun y hy => ?_⟩
    rcases List.mem_cons.1 hy with rfl | hy
    · exact s1.mono l2.le
    · exact s2 y hy
theorem all2_rows {H : Hp} : ∀ {X : List Xp}, (∀ x ∈ X, Sl H 1 x.2.1 (ints8 x.1.loose) ∧ x.1.loose.length ≤ maxLen) → All2 (PnF H) (X.map xrow) (X.map (·.1))
  | [], _ => trivial
  | x :: X, h => ⟨⟨x.2.1, x.2.2, rfl, h x (List.mem_cons_self ..)⟩, all2_rows fun y hy => h y (List.mem_cons_of_mem _ hy)⟩
/-- A tree that is done: all of it frozen. -/
theorem Mem.frzT {ls : List Lf} (h : Mem H w0 (rowR 52 97 A ls.length a (ls.map Lf.fds) :: rowR 104 66 B X.length b (X.map xrow) :: allR X :: L) w) (hb : ∀ x ∈ X, x.1.loose.length ≤ maxLen) : ∃ H', Le w0 H H' ∧ Mem H' w0 L w ∧ TrF H' (tv A ls.length a B X.length b) ⟨ls, X.map (·.1)⟩ := by
  obtain ⟨-, k1, k2, -⟩ := h.rowLen ⟨.refl _⟩
  obtain ⟨H1, l1, h, s1, -⟩ := h.fz0
  obtain ⟨-, k3, k4, -⟩ := h.rowLen ⟨.refl _⟩
  obtain ⟨H2, l2, h, s2, -⟩ := h.fz0
  obtain ⟨H3, l3, h, s3⟩ := h.frzX
  refine ⟨H3, (l1.trans l2).trans l3, h, ⟨A, a, B, b, X.map xrow, by simp, s1.mono (l2.trans l3).le, s2.mono l3.le, all2_rows fun x hx => ⟨s3 x hx, hb x hx⟩⟩, by simp only; omega, by simp only [List.length_map]; omega⟩
/-- The beginning of a row. -/
theorem Mem.short (h : Mem H w0 (rowR e sz A n cap ps :: L) w) (hk : k ≤ n) : Mem H w0 (rowR e sz A k cap (ps.take k) :: L) w := by
  obtain ⟨B, ⟨B1, B2, rfl, ⟨h1, h2, h3⟩, h4⟩, hs', hb⟩ := h.own
  refine ⟨⟨_, ⟨B1, B2, rfl, ⟨h1.take k, by rw [List.length_take]; omega, ?_⟩, h4⟩, hs', hb⟩, h.fz⟩
  rcases h3 with ⟨hA, hn, hc, hB⟩ | ⟨g, sp, hA, hB, h5, h6, h7⟩
  · exact .inl ⟨hA, by omega, hc, hB⟩
  · have e1 : fls ps = fls (ps.take k) ++ fls (ps.drop k) := by rw [← fls_app, List.take_append_drop]
    exact .inr ⟨g, fls (ps.drop k) ++ sp, hA, by rw [hB, e1, List.append_assoc], by rw [← List.append_assoc, ← e1]; exact h5, by omega, h7⟩
theorem le_of {H : Hp} (hf : Fz H w) : H.le (Hp.of w) := fun b c h => by
  obtain ⟨t, fr, e⟩ := hf b c h
  simp [Hp.of, e]
end
theorem rising_len : ∀ {l : List Int} {lo hi : Int}, l.Pairwise (· < ·) → (∀ x ∈ l, lo ≤ x ∧ x < hi) → lo ≤ hi → (l.length : Int) ≤ hi - lo
  | [], lo, hi, _, _, h => by simp; omega
  | x :: r, lo, hi, hp, hb, h => by
    obtain ⟨h1, h2⟩ := List.pairwise_cons.1 hp
    have hx := hb x (List.mem_cons_self ..)
    have := rising_len (lo := lo + 1) (hi := hi) h2 (fun y hy => by have := h1 y hy; have := hb y (List.mem_cons_of_mem _ hy); omega) (by omega)
    simp only [List.length_cons]
    omega
theorem Tr.Rt.loose {t : Tr} (h : t.Rt) : ∀ p ∈ t.ps, p.loose.length ≤ 64 ∧ p.loose.Pairwise (· < ·) := by
  intro p hp
  obtain ⟨i, hi, rfl⟩ := List.getElem_of_mem hp
  obtain ⟨h1, h2⟩ := looseB_spec (parB_spec h.par i hi).2
  have hl := h.len
  have := rising_len (lo := 0) (hi := t.size) h2 (fun x hx => by have := hld_rng (h1 x hx).1; omega) (by unfold Tr.size; omega)
  refine ⟨?_, h2⟩
  unfold Tr.size at this
  omega
end Go.Proofs.Ytmjpbomonhjebaa
