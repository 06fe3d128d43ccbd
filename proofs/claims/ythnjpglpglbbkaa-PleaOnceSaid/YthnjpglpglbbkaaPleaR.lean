/- Plea: the document's list. -/
import Derived.Test.YthnjpglpglbbkaaPleaL
namespace Go.Proofs.Ythnjpglpglbbkaa
open Go.RowKit

section
variable {H : Hp} {w0 w : World} {L R : List Res}
/-- A store that comes in any order beside loads of other blocks. -/
theorem dS_stX {P : Program} {t tt : TypeId} {q : Bool} {n i k : Nat} {v : Value} {fs gs fs' : List Fd} {put : Res → List Res} {K : Value → World → Prop} (h : Mem H w0 L w) [c : ShpC P t q n] [a : AtB L k tt fs put] [f : Vf v n gs] [p : Put fs i gs fs'] (hk : ∀ w', Mem H w0 (put (fb k tt fs')) w' → K undef w') :
    dfS P (fun b => b = k) w (o_store t (.pointer (some ⟨k, i, none⟩)) v) true K := ⟨fun w1 hd => by
  have h := h.drawn hd
  obtain ⟨w', h1, h2⟩ := run_mst h c a f p
  obtain ⟨hb, hf⟩ := h.blf a
  obtain ⟨e, hn, hg⟩ := f.ok
  obtain ⟨_, k2, k3⟩ := p.cells hf hg
  have e2 : v.cells.size = n := by rw [← Array.length_toList, e, hg.len, hn]
  obtain ⟨w2, h3, h4⟩ := run_storeN (P := P) (i := i) (v := v) c.ok (St.oneF hb) e2 (by rw [e]; exact hg.one) (by rw [hg.len, hn] at k3; exact k3)
  rw [h1] at h3
  cases h3
  exact mop_skip h1 ⟨fun _ => (hd.onlyS _).trans1 (h4.only.mono fun j _ ⟨b, hm, _, hj⟩ => by
    rw [List.mem_singleton] at hm
    subst hm
    exact hj.symm), hk w' h2⟩⟩
theorem Mem.neB {a b ta tb : Nat} {fa fb' : List Fd} {R R' : List Res} (h : Mem H w0 (fb a ta fa :: R) w) [k : AtF R b tb fb' R'] : ¬ a = b := by
  rintro rfl
  obtain ⟨B, ⟨B1, B2, rfl, ⟨_, rfl⟩, B3, B4, rfl, ⟨_, rfl⟩, _⟩, hs, _⟩ := (h.perm (k.perm.cons _)).own
  exact (List.pairwise_cons.1 hs.ne).1 ⟨a, tb, fl fb', true⟩ (by simp) rfl
theorem Ple.eq_iff (x y : Ple) : (x.seq = y.seq ∧ x.chg.kind = y.chg.kind ∧ x.chg.name = y.chg.name ∧ x.chg.pub = y.chg.pub ∧ x.epoch = y.epoch ∧ x.why = y.why) ↔ x = y := by
  obtain ⟨a, ⟨b, c, d⟩, e, f⟩ := x
  obtain ⟨a', ⟨b', c', d'⟩, e', f'⟩ := y
  simp [and_assoc]
abbrev PSl (H : Hp) (A : Option Addr) (xs : List Ple) : Prop := Sl H 68 A (xs.map Ple.fds)
abbrev mprow (A : Option Addr) (c : Nat) (l : List Ple) : Res := rowR 182 68 A l.length c (l.map Ple.fds)
abbrev rlf (last : Int) (A1 : Option Addr) (n1 c1 : Nat) (A2 : Option Addr) (n2 c2 : Nat) : List Fd := [.one (.int .i64 last), .one (.slice A1 n1 c1), .one (.slice A2 n2 c2)]
abbrev rlv (last : Int) (A1 : Option Addr) (n1 c1 : Nat) (A2 : Option Addr) (n2 c2 : Nat) : Value := .agg (fl (rlf last A1 n1 c1 A2 n2 c2)).toArray
theorem in_ok (A : Option Addr) (c n : Nat) (l : List Int) (x : Int) (hn : n = l.length) (hb : l.length < 1000000) (hs : Sl H 1 A (i64s l)) (hf : Fz H w) :
    Calls Try.prog 68 #[.slice A n c, .int .i64 x] w fun e w' => e = .returned (.bool (decide (x ∈ l))) ∧ St w [] w' := by
  subst hn
  have hM := Mem.start hf
  refine C_bevyref17_In ?_
  unfold F_bevyref17_In
  refine ⟨fun y w' => ∃ i : Nat, y = .int .i64 i ∧ i ≤ l.length ∧ (∀ j (hj : j < l.length), j < i → l[j] ≠ x) ∧ hM.now w', fun y _ => match y with | .int _ i => l.length - i.toNat | _ => 0, ⟨0, rfl, by omega, by intro j hj h; omega, hM⟩, ?_⟩
  rintro y u w2 ⟨i, rfl, hi, hne, hM⟩
  ((with_reducible (refine mop_c trivial ?_)))
  ((with_reducible (refine mop_cS trivial ?_ ?_)))
  · intro hlt
    have hlt' : i < l.length := by omega
    ((with_reducible (refine mif_true ?_)); (with_reducible refine mm_ixs ‹_› ?_ ?_ ?_); (focus (simp only [List.length_map]; omega)); (focus (simp only [List.length_map]; first | done | omega)); (with_reducible (intro _ _ hA)); (cases hA); (with_reducible refine mm_lds0 hM ‹_› (map_atI ?_) ?_); (focus omega))
    ((with_reducible (refine mop_cS trivial ?_ ?_)))
    · intro he
      ((with_reducible (refine mif_true ?_)))
      refine ⟨?_, hM.st⟩
      rw [decide_eq_true (by rw [← he]; exact List.getElem_mem _)]
    · intro he
      ((with_reducible (refine mif_false ?_; refine mop_c ?_ ?_)); (focus omega))
      exact ⟨⟨i + 1, by simp, by omega, fun j hj hji => by
        rcases Nat.lt_or_ge j i with h | h
        · exact hne j hj h
        · have : j = i := by omega
          subst this
          exact he, hM⟩, by simp; omega⟩
  · intro hge
    ((with_reducible (refine mif_false ?_)))
    refine ⟨?_, hM.st⟩
    rw [decide_eq_false]
    intro h
    obtain ⟨j, hj, rfl⟩ := List.mem_iff_getElem.1 h
    exact absurd rfl (hne j hj (by omega))
theorem pfilter_succ {α : Type} (f : α → Bool) (xs : List α) (i : Nat) (h : i < xs.length) : (xs.take (i + 1)).filter f = (xs.take i).filter f ++ if f xs[i] then [xs[i]] else [] := by
  rw [List.take_succ_eq_append_getElem h, List.filter_append]
  simp [List.filter_cons]
theorem psame_ok (A B : Option Addr) (c d n m : Nat) (xs ys : List Ple) (hn : n = xs.length) (hm : m = ys.length) (hb : xs.length < 100000) (hs : PSl H A xs) (hs' : PSl H B ys) (hf : Fz H w) :
    Calls Try.prog 73 #[.slice A n c, .slice B m d] w fun en w' => en = .returned (.bool (decide (xs = ys))) ∧ St w [] w' := by
  subst hn; subst hm
  have hM := Mem.start hf
  refine C_bevyref17_Same ?_
  unfold F_bevyref17_Same
  ((with_reducible (refine mop_c trivial ?_; refine mop_c trivial ?_)))
  ((with_reducible (refine mop_cS trivial ?_ ?_)))
  · intro hne
    ((with_reducible (refine mif_true ?_)))
    refine ⟨?_, hM.st⟩
    rw [decide_eq_false]
    rintro rfl
    exact hne rfl
  · intro hne
    have hl : xs.length = ys.length := by omega
    ((with_reducible (refine mif_false ?_)))
    refine ⟨fun x w' => ∃ i : Nat, x = .int .i64 i ∧ i ≤ xs.length ∧ xs.take i = ys.take i ∧ Mem H w [] w', fun x _ => match x with | .int _ i => xs.length - i.toNat | _ => 0, ⟨0, rfl, by omega, rfl, hM⟩, ?_⟩
    rintro x u w ⟨i, rfl, hi, he, hM⟩
    ((with_reducible (refine mop_c trivial ?_)))
    ((with_reducible (refine mop_cS trivial ?_ ?_)))
    · intro hlt
      have hlt' : i < xs.length := by omega
      have hlt2 : i < ys.length := by omega
      ((with_reducible (refine mif_true ?_)); (with_reducible refine dp_ixs ‹_› ?_ ?_ ?_); (focus (simp only [List.length_map]; omega)); (focus (simp only [List.length_map]; first | done | omega)); (with_reducible (intro _ _ hA)); (cases hA); (with_reducible refine dm_lds0 hM ‹_› (map_atI ?_) ?_); (focus omega); (with_reducible refine dp_ixs ‹_› ?_ ?_ ?_); (focus (simp only [List.length_map]; omega)); (focus (simp only [List.length_map]; first | done | omega)); (with_reducible (intro _ _ hA)); (cases hA); (with_reducible refine dm_lds0 hM ‹_› (map_atI ?_) ?_); (focus omega))
      ((with_reducible (refine dp_cS trivial ?_ ?_)))
      · intro hn
        rw [Ple.eq_iff] at hn
        ((with_reducible (refine mm_end hM ?_; clear hM; intro _ hM; refine mif_true ?_)))
        refine ⟨?_, hM.st⟩
        rw [decide_eq_false]
        rintro rfl
        exact hn rfl
      · intro hn
        rw [Ple.eq_iff, Decidable.not_not] at hn
        ((with_reducible (refine mm_end hM ?_; clear hM; intro _ hM; refine mif_false ?_; refine mop_c ?_ ?_)); (focus omega))
        exact ⟨⟨i + 1, by simp, by omega, by rw [List.take_succ_eq_append_getElem hlt', List.take_succ_eq_append_getElem hlt2, he, hn], hM⟩, by simp; omega⟩
    · intro hge
      have : i = xs.length := by omega
      subst this
      ((with_reducible (refine mif_false ?_)))
      refine ⟨?_, hM.st⟩
      rw [decide_eq_true]
      rw [List.take_of_length_le (by omega), List.take_of_length_le (by omega)] at he
      exact he
theorem pplain_ok (A : Option Addr) (cap n : Nat) (xs : List Ple) (hn : n = xs.length) (hb : xs.length < 100000) (hs : PSl H A xs) (hf : Fz H w) :
    Calls Try.prog 74 #[.slice A n cap] w (Outp H w fun H y => ∃ A cap n, y = .slice A n cap ∧ n = xs.length ∧ PSl H A xs) := by
  subst hn
  have hM := Mem.start hf
  refine C_bevylaw17_plain ?_
  unfold F_bevylaw17_plain
  refine ⟨fun x y w' => ∃ (i : Nat) (A2 : Option Addr) (c2 : Nat), x = .slice A2 (xs.take i).length c2 ∧ y = .int .i64 i ∧ i ≤ xs.length ∧ Mem H w [mprow A2 c2 (xs.take i)] w',
    fun _ y _ => match y with | .int _ i => xs.length - i.toNat | _ => 0, ⟨0, none, 0, rfl, rfl, by omega, hM.row0 182 68⟩, ?_⟩
  rintro x y u w2 ⟨i, A2, c2, rfl, rfl, hi, hM⟩
  have l2 : (xs.take i).length ≤ i := by simp; omega
  ((with_reducible (refine mop_c trivial ?_)))
  ((with_reducible (refine mop_cS trivial ?_ ?_)))
  · intro hlt
    have hlt' : i < xs.length := by omega
    ((with_reducible (refine mif_true ?_)); (with_reducible refine dp_ixs ‹_› ?_ ?_ ?_); (focus (simp only [List.length_map]; omega)); (focus (simp only [List.length_map]; first | done | omega)); (with_reducible (intro _ _ hA)); (cases hA); (with_reducible (refine dp_c trivial ?_)); (with_reducible refine dm_lds hM ‹_› (map_atI ?_) ?_); (focus omega); (with_reducible refine dp_ixs ‹_› ?_ ?_ ?_); (focus (simp only [List.length_map]; omega)); (focus (simp only [List.length_map]; first | done | omega)); (with_reducible (intro _ _ hA)); (cases hA); (with_reducible (refine dp_c trivial ?_)); (with_reducible refine dm_lds hM ‹_› (map_atI ?_) ?_); (focus omega); (with_reducible refine dp_ixs ‹_› ?_ ?_ ?_); (focus (simp only [List.length_map]; omega)); (focus (simp only [List.length_map]; first | done | omega)); (with_reducible (intro _ _ hA)); (cases hA); (with_reducible (refine dp_c trivial ?_)); (with_reducible refine dm_lds hM ‹_› (map_atI ?_) ?_); (focus omega); (with_reducible refine dp_ixs ‹_› ?_ ?_ ?_); (focus (simp only [List.length_map]; omega)); (focus (simp only [List.length_map]; first | done | omega)); (with_reducible (intro _ _ hA)); (cases hA); (with_reducible (refine dp_c trivial ?_)); (with_reducible refine dm_lds hM ‹_› (map_atI ?_) ?_); (focus omega); (with_reducible (refine dp_c trivial ?_; refine dS_bsl hM ?_ ?_ ?_)); (focus rfl); (focus (constructor <;> simp)); (with_reducible (clear hM; intro _ _ hM; refine dS_appF hM ?_ ?_)); (focus omega); (with_reducible (clear hM; intro _ _ _ hM; refine mm_end hM ?_; clear hM; intro _ hM; refine mop_c ?_ ?_)); (focus omega))
    refine ⟨⟨i + 1, ?_⟩, by simp; omega⟩
    rw [List.take_succ_eq_append_getElem hlt']
    simp only [mprow, List.length_append, List.length_cons, List.length_nil, Nat.zero_add, List.map_append, List.map_cons, List.map_nil]
    exact ⟨_, _, rfl, by simp, by omega, hM⟩
  · intro hge
    have : i = xs.length := by omega
    subst this
    rw [List.take_length] at hM
    rw [List.take_length]
    ((with_reducible (refine mif_false ?_)))
    obtain ⟨H', hl, hM, hs1, _⟩ := hM.fz0
    exact hM.out hl ⟨_, _, _, rfl, rfl, hs1⟩
theorem rask_ok (last : Int) (A1 A2 : Option Addr) (c1 c2 : Nat) (op dr : List Ple) (c : Chg) (e : H32) (hl : 0 ≤ last ∧ last < 1000000) (hb : op.length < 100000) (h1 : PSl H A1 op) (hf : Fz H w) :
    Calls Try.prog 71 #[rlv last A1 op.length c1 A2 dr.length c2, cv c, ha e] w (Outp H w fun H v => ∃ A n k, v = .tuple #[rlv (askL last op c e).1 A n k A2 dr.length c2, .int .i64 (askL last op c e).2.2.1, .int .i64 (askL last op c e).2.2.2] ∧ n = (askL last op c e).2.1.length ∧ PSl H A (askL last op c e).2.1) := by
  have hM := Mem.start hf
  refine C_bevyref17_List_Ask ?_
  unfold F_bevyref17_List_Ask
  ((with_reducible (refine mm_box hM ?_; clear hM; intro _ _ hM; refine mm_box hM ?_; clear hM; intro _ _ hM; refine mm_box hM ?_; clear hM; intro _ _ hM; refine mm_new hM ?_; clear hM; intro _ _ hM; refine mop_c trivial ?_; refine mm_ld hM ?_; refine mop_c trivial ?_)))
  rename_i g4 _ g3 _ g2 _ g1 _
  unfold askL
  ((with_reducible (refine mop_cS trivial ?_ ?_)))
  · intro h
    ((with_reducible (refine mif_true ?_; refine mm_ld hM ?_; refine mm_st hM ?_; clear hM; intro _ hM; refine rm_ld hM ?_)))
    rw [if_pos (by omega)]
    exact hM.out (Le.refl _ _) ⟨_, _, _, rfl, rfl, h1⟩
  · intro h
    ((with_reducible (refine mif_false ?_; refine mop_c trivial ?_; refine mm_ld hM ?_)))
    refine mm_apps0 hM h1 (by simp) (by omega) (fun A' c' w hM => ?_)
    ((with_reducible (refine mop_c trivial ?_; refine mm_ld hM ?_; refine mop_c ?_ ?_)); (focus omega); (with_reducible (refine mop_c trivial ?_; refine mm_st hM ?_; clear hM; intro _ hM; refine mop_c trivial ?_; (iterate 3 refine mm_ld hM ?_); refine mop_c trivial ?_; refine mm_bsl hM ?_ ?_ ?_)); (focus rfl); (focus (constructor <;> simp)); (with_reducible (clear hM; intro _ _ hM; refine mm_appo hM ?_ ?_)); (focus omega); (with_reducible (clear hM; intro _ _ _ hM; refine mop_c trivial ?_; refine mm_st hM ?_; clear hM; intro _ hM)))
    have hne : ¬ g4 = g1 := (hM.upB g4).neB
    refine ⟨fun b => b = g1, ?_⟩
    refine dS_ld hM hne ?_
    ((with_reducible (refine dp_c trivial ?_)))
    refine dS_ld hM hne ?_
    refine dS_stX hM (fun w5 hM => ?_)
    ((with_reducible (refine mm_end hM ?_; clear hM; intro _ hM; refine rm_ld hM ?_)))
    rw [if_neg (by omega)]
    rw [psnoc op ⟨last + 1, c, e, 0⟩] at hM
    obtain ⟨H', hl2, hM, hs1, _⟩ := hM.fz0
    exact hM.out hl2 ⟨_, _, _, rfl, by simp, hs1⟩
theorem rsettle_ok (last : Int) (A1 A2 B : Option Addr) (c1 c2 cb : Nat) (op dr : List Ple) (l : List Int) (hb : op.length < 100000) (hbl : l.length < 100000) (h1 : PSl H A1 op) (hs : Sl H 1 B (i64s l)) (hf : Fz H w) :
    Calls Try.prog 75 #[rlv last A1 op.length c1 A2 dr.length c2, .slice B l.length cb] w (Outp H w fun H v => ∃ A n k, v = rlv last A n k A2 dr.length c2 ∧ n = (op.filter fun p => !decide (p.seq ∈ l)).length ∧ PSl H A (op.filter fun p => !decide (p.seq ∈ l))) := by
  have hM := Mem.start hf
  refine C_bevyref17_List_Settle ?_
  unfold F_bevyref17_List_Settle
  ((with_reducible (refine mm_box hM ?_; clear hM; intro _ _ hM; refine mm_new hM ?_; clear hM; intro _ _ hM; refine mop_c trivial ?_; refine mm_ld hM ?_; refine mop_c trivial ?_; refine mm_ld hM ?_; refine mop_c trivial ?_; refine mm_new hM ?_; clear hM; intro _ _ hM; refine mm_st hM ?_; clear hM; intro _ hM)))
  rename_i g2 _ g4 _ g6 _ _
  refine ⟨fun y w' => ∃ (i : Nat) (A3 : Option Addr) (c3 : Nat), y = .int .i64 i ∧ i ≤ op.length ∧
    Mem H w [mprow A3 c3 ((op.take i).filter fun p => !decide (p.seq ∈ l)), fb g6 135 (rlf last A3 ((op.take i).filter fun p => !decide (p.seq ∈ l)).length c3 A2 dr.length c2), fb g4 135 (rlf 0 none 0 0 none 0 0), fb g2 135 (rlf last A1 op.length c1 A2 dr.length c2)] w',
    fun y _ => match y with | .int _ i => op.length - i.toNat | _ => 0, ⟨0, none, 0, rfl, by omega, hM.row0 182 68⟩, ?_⟩
  rintro y u w2 ⟨i, A3, c3, rfl, hi, hM⟩
  have l2 : ((op.take i).filter fun p => !decide (p.seq ∈ l)).length ≤ i := Nat.le_trans (List.length_filter_le _ _) (by simp; omega)
  ((with_reducible (refine mop_c trivial ?_; refine mm_ld hM ?_; refine mop_c trivial ?_)))
  ((with_reducible (refine mop_cS trivial ?_ ?_)))
  · intro hlt
    have hlt' : i < op.length := by omega
    ((with_reducible (refine mif_true ?_)))
    refine ⟨fun w' => ∃ (A3 : Option Addr) (c3 : Nat), Mem H w [mprow A3 c3 ((op.take (i + 1)).filter fun p => !decide (p.seq ∈ l)), fb g6 135 (rlf last A3 ((op.take (i + 1)).filter fun p => !decide (p.seq ∈ l)).length c3 A2 dr.length c2), fb g4 135 (rlf 0 none 0 0 none 0 0), fb g2 135 (rlf last A1 op.length c1 A2 dr.length c2)] w', ?_, ?_⟩
    · rw [pfilter_succ (fun p => !decide (p.seq ∈ l)) op i hlt']
      ((with_reducible (refine mop_c trivial ?_; refine mm_ld hM ?_)); (with_reducible refine mm_ixs ‹_› ?_ ?_ ?_); (focus (simp only [List.length_map]; omega)); (focus (simp only [List.length_map]; first | done | omega)); (with_reducible (intro _ _ hA)); (cases hA); (with_reducible (refine mop_c trivial ?_)); (with_reducible refine mm_lds hM ‹_› (map_atI ?_) ?_); (focus omega))
      refine mm_pure hM (in_ok B cb _ l op[i].seq rfl (by omega) hs hM.fz) (fun w3 hM => ?_)
      cases hin : decide (op[i].seq ∈ l)
      all_goals
        simp only [mprow, Bool.not_true, Bool.not_false, if_true, Bool.false_eq_true, if_false, List.append_nil, List.length_append, List.length_cons, List.length_nil, Nat.zero_add, List.map_append, List.map_cons, List.map_nil]
        (first | ((with_reducible (refine mop_c trivial ?_; refine mif_true ?_; refine dp_c trivial ?_; refine dm_ld hM ?_; refine dp_c trivial ?_; refine dm_ld hM ?_)); (with_reducible refine dp_ixs ‹_› ?_ ?_ ?_); (focus (simp only [List.length_map]; omega)); (focus (simp only [List.length_map]; first | done | omega)); (with_reducible (intro _ _ hA)); (cases hA); (with_reducible refine dm_lds0 hM ‹_› (map_atI ?_) ?_); (focus omega); (with_reducible (refine dS_bsl hM ?_ ?_ ?_)); (focus rfl); (focus (constructor <;> simp)); (with_reducible (clear hM; intro _ _ hM; refine dS_appF hM ?_ ?_)); (focus omega); (with_reducible (clear hM; intro _ _ _ hM; refine dp_c trivial ?_; refine dS_st hM ?_; clear hM; intro _ hM; refine mm_end hM ?_; clear hM; intro _ hM))) | ((with_reducible (refine mop_c trivial ?_; refine mif_false ?_))))
      · exact ⟨_, _, hM⟩
      · exact ⟨A3, c3, hM⟩
    · rintro u w3 ⟨A3, c3, hM⟩
      ((with_reducible (refine mop_c ?_ ?_)); (focus omega))
      exact ⟨⟨i + 1, A3, c3, by simp, by omega, hM⟩, by simp; omega⟩
  · intro hge
    have : i = op.length := by omega
    subst this
    rw [List.take_length] at hM
    ((with_reducible (refine mif_false ?_; refine mm_ld hM ?_; refine mm_st hM ?_; clear hM; intro _ hM; refine rm_ld hM ?_)))
    obtain ⟨H', hl, hM, hs1, _⟩ := hM.fz1 A3
    exact hM.out hl ⟨_, _, _, rfl, rfl, hs1⟩
end
end Go.Proofs.Ythnjpglpglbbkaa
