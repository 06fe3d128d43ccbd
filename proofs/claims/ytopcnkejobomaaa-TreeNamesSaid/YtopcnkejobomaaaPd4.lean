/- TreeNames holds for every input. (The end of the proof.) -/
import Derived.Test.YtopcnkejobomaaaPd3
import Derived.Shelf.Sort.Plain
import Derived.Shelf.Slices.In.SortNone
import Derived.Test.YtopcnkejobomaaaProg
import Derived.Test.YtopcnkejobomaaaRows
import Derived.Carry
namespace Go.Proofs.Ytopcnkejobomaaa
open Go.RowKit Go.Lib
abbrev bleaf : ByteArray := ByteArray.mk #[108, 101, 97, 102]
abbrev bnode : ByteArray := ByteArray.mk #[110, 111, 100, 101]
section
variable {H : Hp} {w0 w : World} {L R : List Res} {g : Nat} {out : List Int} {bad : Bool} {A B : Option Addr} {a b : Nat} {t : Tr} {qs : List (List Fd)}
theorem sum2_ok {A : Option Addr} {e : Nat} (a b : ByteArray) (hs : a.size + b.size < 1000000000000) (hM : Mem H w0 L w) [k : AtA L A 2 2 e 1 [[.one (.string a)], [.one (.string b)]] R] :
    Calls Try.prog 53 #[.slice A 2 2] w fun en w' => en = .returned (.agg (u8s (shaH (ints a ++ ints b)).1).toArray) ∧ St w [] w' := by
  have h := sum_ok A [a, b] 2 w (hM.rd k) (by simp) (by rw [cat2, List.length_append, ints_length, ints_length]; omega)
  rw [cat2] at h
  exact h
theorem wflag_ok (b : Bool) (hb : out.length < 1000000000) (hM : Mem H w0 (wrR g out bad :: L) w) : Calls Try.prog 128 #[.pointer (some ⟨g, 0, none⟩), .bool b] w fun en w' => ∃ v, en = .returned v ∧ v = .tuple #[] ∧ Mem H w0 (wrR g (out ++ [if b = true then 1 else 0]) bad :: L) w' := by
  refine C_wire_Writer_Flag ?_
  unfold F_wire_Writer_Flag
  obtain ⟨A, c, hM⟩ := hM.wr
  cases b
  · ((with_reducible (refine mop_c trivial ?_; refine mif_false ?_; refine mif_false ?_; refine mop_c trivial ?_; refine mop_c trivial ?_; refine mm_ld hM ?_; refine mm_bsl hM ?_ ?_ ?_)); (focus rfl); (focus (constructor <;> simp)); (with_reducible (clear hM; intro _ _ hM; refine mm_appo hM ?_ ?_)); (focus omega); (with_reducible (clear hM; intro _ _ _ hM; refine mop_c trivial ?_; refine mop_c trivial ?_; refine mm_st hM ?_; clear hM; intro _ hM)))
    rename_i A' c' _ _
    have e : byts out ++ [[.one (.int .u8 0)]] = byts (out ++ [0]) := by rw [byts_app]; rfl
    rw [e] at hM
    have hM : Mem H w0 (fb g 173 [.one (.slice A' (out.length + 1) c'), .one (.bool bad)] :: rowR 5 1 A' (out.length + 1) c' (byts (out ++ [0])) :: L) _ := hM.sub
    exact ⟨_, rfl, rfl, Mem.unwr hM (by simp)⟩
  · ((with_reducible (refine mop_c trivial ?_; refine mif_false ?_; refine mif_true ?_; refine mop_c trivial ?_; refine mop_c trivial ?_; refine mm_ld hM ?_; refine mm_bsl hM ?_ ?_ ?_)); (focus rfl); (focus (constructor <;> simp)); (with_reducible (clear hM; intro _ _ hM; refine mm_appo hM ?_ ?_)); (focus omega); (with_reducible (clear hM; intro _ _ _ hM; refine mop_c trivial ?_; refine mop_c trivial ?_; refine mm_st hM ?_; clear hM; intro _ hM)))
    rename_i A' c' _ _
    have e : byts out ++ [[.one (.int .u8 1)]] = byts (out ++ [1]) := by rw [byts_app]; rfl
    rw [e] at hM
    have hM : Mem H w0 (fb g 173 [.one (.slice A' (out.length + 1) c'), .one (.bool bad)] :: rowR 5 1 A' (out.length + 1) c' (byts (out ++ [1])) :: L) _ := hM.sub
    exact ⟨_, rfl, rfl, Mem.unwr hM (by simp)⟩
theorem leafBytes_ok (l : Lf) (hn : 0 ≤ l.name ∧ l.name ≤ 64) (hb : out.length < 1000000) (hM : Mem H w0 (wrR g out false :: L) w) : Calls Try.prog 96 #[.pointer (some ⟨g, 0, none⟩), lv l] w fun en w' => ∃ v, en = .returned v ∧ v = .tuple #[] ∧ Mem H w0 (wrR g (out ++ leafB l) false :: L) w' := by
  refine C_tree_leafBytes ?_
  unfold F_tree_leafBytes
  have hnl := numB_length l.name
  ((with_reducible (refine mm_box hM ?_; clear hM; intro _ _ hM; refine mop_c trivial ?_; refine mm_ld hM ?_)))
  ((with_reducible (refine mop_cS trivial ?_ ?_)))
  · intro h
    skip
    refine mm_own (wflag_ok true (by omega) (hM.at_ (wrR g out false))) ?_
    rintro v w2 ⟨rfl, hM⟩
    ((with_reducible (refine mop_c trivial ?_; refine mm_ld hM ?_; refine mop_cT trivial ?_ ?_)); (focus (first | assumption | omega | with_reducible rfl | exact fun h => Bool.noConfusion h)); (with_reducible (refine mif_true ?_; refine mop_c trivial ?_; refine mm_ld hM ?_)))
    refine mm_own (wnum_ok l.name (by omega) (by simp; omega) hM) ?_
    rintro v w2 ⟨rfl, hM⟩
    ((with_reducible (refine mop_c trivial ?_; refine mm_ld hM ?_)))
    refine mm_own (whash_ok l.pub (by simp; omega) hM) ?_
    rintro v w2 ⟨rfl, hM⟩
    ((with_reducible (refine mop_c trivial ?_; refine mm_ld hM ?_)))
    refine mm_own (whash_ok l.ver (by simp [l.pub.2.1]; omega) hM) ?_
    rintro v w2 ⟨rfl, hM⟩
    ((with_reducible (refine mop_c trivial ?_; refine mm_ld hM ?_)))
    refine mm_own (whash_ok l.abv (by simp [l.pub.2.1, l.ver.2.1]; omega) hM) ?_
    rintro v w2 ⟨rfl, hM⟩
    skip
    have e : out ++ [if true = true then 1 else 0] ++ numB l.name ++ l.pub.1 ++ l.ver.1 ++ l.abv.1 = out ++ leafB l := by
      unfold leafB
      rw [if_pos (show 0 < l.name by omega)]
      simp
    rw [e] at hM
    exact ⟨_, rfl, rfl, hM.sub⟩
  · intro h
    skip
    refine mm_own (wflag_ok false (by omega) (hM.at_ (wrR g out false))) ?_
    rintro v w2 ⟨rfl, hM⟩
    ((with_reducible (refine mop_c trivial ?_; refine mm_ld hM ?_; refine mop_cF trivial ?_ ?_)); (focus (first | assumption | omega | with_reducible rfl | exact fun h => Bool.noConfusion h)); (with_reducible (refine mif_false ?_)))
    have e : out ++ [if false = true then 1 else 0] = out ++ leafB l := by
      unfold leafB
      rw [if_neg (show ¬ 0 < l.name by omega)]
      rfl
    rw [e] at hM
    exact ⟨_, rfl, rfl, hM.sub⟩
theorem parentBytes_ok (p : Pn) {C : Option Addr} {c : Nat} (hs : Sl H 1 C (ints8 p.loose)) (hp : p.loose.length ≤ 64 ∧ ∀ q ∈ p.loose, 0 ≤ q ∧ q ≤ 64) (hb : out.length < 1000000) (hM : Mem H w0 (wrR g out false :: L) w) : Calls Try.prog 98 #[.pointer (some ⟨g, 0, none⟩), .agg (fl (p.row C c)).toArray] w fun en w' => ∃ v, en = .returned v ∧ v = .tuple #[] ∧ Mem H w0 (wrR g (out ++ parentB p) false :: L) w' := by
  refine C_tree_parentBytes ?_
  unfold F_tree_parentBytes
  ((with_reducible (refine mm_box hM ?_; clear hM; intro _ _ hM; refine mop_c trivial ?_; refine mm_ld hM ?_)))
  rename_i g1 _
  refine mm_own (wflag_ok p.set (by omega) (hM.at_ (wrR g out false))) ?_
  rintro v w2 ⟨rfl, hM⟩
  ((with_reducible (refine mop_c trivial ?_; refine mm_ld hM ?_)))
  rcases Bool.eq_false_or_eq_true p.set with hset | hset
  · have e : parentB p = [1] ++ p.pub.1 ++ p.abv.1 ++ numB p.loose.length ++ p.loose.flatMap numB := if_pos hset
    rw [hset] at hM ⊢
    ((with_reducible (refine mif_true ?_; refine mop_c trivial ?_; refine mm_ld hM ?_)))
    refine mm_own (whash_ok p.pub (by simp; omega) (hM.at_ (wrR g (out ++ [if true = true then 1 else 0]) false))) ?_
    rintro v w2 ⟨rfl, hM⟩
    ((with_reducible (refine mop_c trivial ?_; refine mm_ld hM ?_)))
    refine mm_own (whash_ok p.abv (by simp [p.pub.2.1]; omega) hM) ?_
    rintro v w2 ⟨rfl, hM⟩
    ((with_reducible (refine mop_c trivial ?_; refine mm_ld hM ?_; refine mop_c trivial ?_)))
    refine mm_own (wnum_ok p.loose.length (by omega) (by simp [p.pub.2.1, p.abv.2.1]; omega) hM) ?_
    rintro v w2 ⟨rfl, hM⟩
    have hnl := numB_length p.loose.length
    generalize hbase : out ++ [if true = true then 1 else 0] ++ p.pub.1 ++ p.abv.1 ++ numB p.loose.length = base at hM
    have hbl : base.length ≤ out.length + 73 := by rw [← hbase]; simp [p.pub.2.1, p.abv.2.1]; omega
    ((with_reducible (refine mop_c trivial ?_; refine mm_ld hM ?_; refine mop_c trivial ?_)))
    refine ⟨fun v w' => ∃ k : Nat, v = .int .i64 k ∧ k ≤ p.loose.length ∧ Mem H w0 (wrR g (base ++ (p.loose.take k).flatMap numB) false :: fb g1 96 (p.row C c) :: L) w', fun v _ => match v with | .int _ k => p.loose.length - k.toNat | _ => 0, ⟨0, rfl, by omega, by simpa using hM⟩, ?_⟩
    clear hM
    rintro v u w3 ⟨k, rfl, hk, hM⟩
    ((with_reducible (refine mop_cS trivial ?_ ?_)))
    · intro hlt
      have hlt' : k < p.loose.length := by omega
      have e1 := ints8_at (l := p.loose) (i := k) hlt'
      have hq := hp.2 _ (List.getElem_mem hlt')
      have hfl := byt_len (f := numB) (l := p.loose.take k) (k := 8) fun x _ => (numB_length x).1
      rw [List.length_take] at hfl
      ((with_reducible (refine mif_true ?_)); (with_reducible refine mm_ixs ‹_› ?_ ?_ ?_); (focus (simp only [List.length_map]; omega)); (focus (simp only [List.length_map]; first | done | omega)); (with_reducible (intro _ _ hA)); (cases hA); (with_reducible refine mm_lds0 hM ‹_› (map_atI ?_) ?_); (focus omega))
      refine mm_own (wnum_ok (out := base ++ (p.loose.take k).flatMap numB) p.loose[k] (by omega) (by rw [List.length_append]; omega) hM) ?_
      rintro v w4 ⟨rfl, hM⟩
      ((with_reducible (refine mop_c ?_ ?_)); (focus omega))
      refine ⟨⟨k + 1, rfl, by omega, ?_⟩, by simp only; omega⟩
      rw [List.take_succ_eq_append_getElem hlt', List.flatMap_append, ← List.append_assoc]
      simpa using hM
    · intro hge
      obtain rfl : k = p.loose.length := by omega
      rw [List.take_length] at hM
      ((with_reducible (refine mif_false ?_)))
      have e2 : base ++ p.loose.flatMap numB = out ++ parentB p := by
        rw [e, ← hbase]
        simp
      rw [e2] at hM
      exact ⟨_, rfl, rfl, hM.sub⟩
  · have e : parentB p = [0] := if_neg (by rw [hset]; simp)
    rw [hset] at hM ⊢
    ((with_reducible (refine mif_false ?_)))
    have e2 : out ++ [if false = true then 1 else 0] = out ++ parentB p := by
      rw [e]
      rfl
    rw [e2] at hM
    exact ⟨_, rfl, rfl, hM.sub⟩
theorem level_odd (x : Int) : x % 2 = 1 → 1 ≤ level x := fun h => by
  have := lev_rng 7 (x / 2)
  unfold level
  rw [lev, if_pos h]
  omega
theorem leafB_byt (l : Lf) (hn : 0 ≤ l.name ∧ l.name ≤ 64) : ∀ x ∈ leafB l, 0 ≤ x ∧ x < 256 := fun x hx => by
  unfold leafB at hx
  split at hx
  · simp only [List.mem_append, List.mem_singleton] at hx
    rcases hx with (((rfl | hx) | hx) | hx) | hx
    · omega
    · exact numB_range l.name (by omega) x hx
    · exact l.pub.2.2 x hx
    · exact l.ver.2.2 x hx
    · exact l.abv.2.2 x hx
  · rw [List.mem_singleton.1 hx]
    omega
theorem parentB_byt (p : Pn) (hp : p.loose.length ≤ 64 ∧ ∀ q ∈ p.loose, 0 ≤ q ∧ q ≤ 64) : ∀ x ∈ parentB p, 0 ≤ x ∧ x < 256 := fun x hx => by
  unfold parentB at hx
  split at hx
  · simp only [List.mem_append, List.mem_singleton] at hx
    rcases hx with (((rfl | hx) | hx) | hx) | hx
    · omega
    · exact p.pub.2.2 x hx
    · exact p.abv.2.2 x hx
    · exact numB_range p.loose.length (by omega) x hx
    · obtain ⟨q, hq, hx⟩ := List.mem_flatMap.1 hx
      exact numB_range q (by have := hp.2 q hq; omega) x hx
  · rw [List.mem_singleton.1 hx]
    omega
theorem hashLeaf_ok {f : Nat} {x : Int} (hG : t.Gd) (h1 : Sl H 97 A (t.ls.map Lf.fds)) (he : x % 2 = 0) (ht : thr t.size x) (hf : Fz H w) :
    Calls Try.prog 54 #[tv A t.ls.length a B t.ps.length b, .int .i64 x] w fun en w' => en = .returned (ha (hAt f t x)) ∧ St w [] w' := by
  have hM := Mem.start hf
  have hlen := hG.len
  have hts : t.size = t.ls.length := rfl
  obtain ⟨k1, k2, k3⟩ := id ht
  refine C_tree_hashAt ?_
  unfold F_tree_hashAt
  ((with_reducible (refine mm_box hM ?_; clear hM; intro _ _ hM; refine mm_new hM ?_; clear hM; intro _ _ hM)))
  refine mm_own (wnew_ok hM) ?_
  rintro v w2 ⟨g, rfl, hM⟩
  have hix : (x / 2).toNat < t.ls.length := by omega
  have hla : leafAt t (x / 2) = t.ls[(x / 2).toNat] := by
    unfold leafAt
    rw [List.getD_eq_getElem?_getD, List.getElem?_eq_getElem hix]
    rfl
  have hlb := leafB_len t.ls[(x / 2).toNat]
  ((with_reducible (refine mop_c ?_ ?_)); (focus omega); (with_reducible (refine mop_cT trivial ?_ ?_)); (focus (first | assumption | omega | with_reducible rfl | exact fun h => Bool.noConfusion h)); (with_reducible (refine mif_true ?_; refine mop_c trivial ?_; refine mm_ld hM ?_; refine mop_c ?_ ?_)); (focus omega); (with_reducible refine mm_ixs ‹_› ?_ ?_ ?_); (focus (simp only [List.length_map]; omega)); (focus (simp only [List.length_map]; first | done | omega)); (with_reducible (intro _ _ hA)); (cases hA); (with_reducible refine mm_lds0 hM ‹_› (map_at ?_) ?_); (focus omega))
  refine mm_own (leafBytes_ok t.ls[(x / 2).toNat] (hG.nm _ (List.getElem_mem _)) (by simp) (hM.at_ (wrR g [] false))) ?_
  rintro v w3 ⟨rfl, hM⟩
  refine mm_pure hM (wend_ok hM) (fun w hM => ?_)
  ((with_reducible (refine mop_c trivial ?_; refine mop_c trivial ?_; refine mm_bsl hM ?_ ?_ ?_)); (focus rfl); (focus (constructor <;> simp)); (with_reducible (clear hM; intro _ _ hM)))
  refine mm_pure hM (sum2_ok bleaf (strOfNums ([] ++ leafB t.ls[(x / 2).toNat])) (by rw [strOfNums_size]; simp; have : bleaf.size = 4 := rfl; omega) hM) (fun w hM => ?_)
  ((with_reducible (refine mm_st hM ?_; clear hM; intro _ hM; refine rm_ld hM ?_)))
  refine ⟨?_, hM.st⟩
  rw [List.nil_append, ints_str _ (leafB_byt _ (hG.nm _ (List.getElem_mem _))), hAt_leaf he, hla]
  rfl
theorem hashAt_ok (hG : t.Gd) (h1 : Sl H 97 A (t.ls.map Lf.fds)) (h2 : Sl H 66 B qs) (h3 : All2 (PnF H) qs t.ps) : ∀ (f : Nat) (x : Int), level x ≤ f → thr t.size x → ∀ w, Fz H w →
    Calls Try.prog 54 #[tv A t.ls.length a B t.ps.length b, .int .i64 x] w fun en w' => en = .returned (ha (hAt f t x)) ∧ St w [] w' := by
  have hlen := hG.len
  have hts : t.size = t.ls.length := rfl
  have hq : qs.length = t.ps.length := h3.len
  intro f
  induction f with
  | zero =>
    intro x hx ht w hf
    have he : x % 2 = 0 := by
      have := level_odd x
      omega
    exact hashLeaf_ok hG h1 he ht hf
  | succ f ih =>
    intro x hx ht w hf
    by_cases he : x % 2 = 0
    · exact hashLeaf_ok hG h1 he ht hf
    have ho : x % 2 = 1 := by omega
    obtain ⟨k1, k2, k3⟩ := id ht
    obtain ⟨⟨t1, t2⟩, ⟨l1, l2⟩, -⟩ := lr_eq ht ho
    have hM := Mem.start hf
    refine C_tree_hashAt ?_
    unfold F_tree_hashAt
    ((with_reducible (refine mm_box hM ?_; clear hM; intro _ _ hM; refine mm_new hM ?_; clear hM; intro _ _ hM)))
    refine mm_own (wnew_ok hM) ?_
    rintro v w2 ⟨g, rfl, hM⟩
    have hix : (x / 2).toNat < t.ps.length := by omega
    obtain ⟨q, hq1, C, c, rfl, hC, hcl⟩ := h3.at_ (i := (x / 2).toNat) hix
    obtain ⟨p, hpe⟩ : ∃ p, t.ps[(x / 2).toNat] = p := ⟨_, rfl⟩
    have hpa : parAt t (x / 2) = p := by
      unfold parAt
      rw [List.getD_eq_getElem?_getD, List.getElem?_eq_getElem hix, hpe]
      rfl
    have hlo := hG.lo p (hpe ▸ List.getElem_mem _)
    have hpl := parentB_len hlo.1
    rw [hpe] at hq1 hC hcl
    ((with_reducible (refine mop_c ?_ ?_)); (focus omega); (with_reducible (refine mop_cF trivial ?_ ?_)); (focus (first | assumption | omega | with_reducible rfl | exact fun h => Bool.noConfusion h)); (with_reducible (refine mif_false ?_; refine mop_c trivial ?_; refine mm_ld hM ?_; refine mop_c trivial ?_; refine mop_c trivial ?_; refine mm_ld hM ?_; refine mop_c ?_ ?_)); (focus omega))
    refine mm_ixs h2 (by omega) hq.symm (fun bb oo hB => ?_)
    cases hB
    refine mm_lds0 hM h2 hq1 ?_
    refine mm_own (parentBytes_ok p hC hlo (by simp) (hM.at_ (wrR g [] false))) ?_
    rintro v w3 ⟨rfl, hM⟩
    ((with_reducible (refine dm_ld hM ?_; refine dm_purC hM ?_ (fun _ _ hM => ?_))); (focus (first | exact trivial | assumption | omega)))
    have hbl : ∀ y ∈ snode ++ (parentB p ++ (hAt f t (lf t.size x)).1 ++ (hAt f t (rt t.size x)).1), 0 ≤ y ∧ y < 256 := fun y hy => by
      simp only [List.mem_append] at hy
      rcases hy with hy | (hy | hy) | hy
      · simp at hy
        omega
      · exact parentB_byt p hlo y hy
      · exact (hAt f t (lf t.size x)).2.2 y hy
      · exact (hAt f t (rt t.size x)).2.2 y hy
    refine dm_pure hM (fun w hM => ih (lf t.size x) (by omega) t1 w hM.fz) (fun w' hx hM => ?_)
    refine dm_own hM (fun w hM => whash_ok (hAt f t (lf t.size x)) (by simp; omega) (hM.at_ (wrR g ([] ++ parentB p) false))) ?_
    rintro v w4 ⟨rfl, hM⟩
    ((with_reducible (refine mm_end hM ?_; clear hM; intro _ hM; refine dm_ld hM ?_; refine dm_purC hM ?_ (fun _ _ hM => ?_))); (focus (first | exact trivial | assumption | omega)))
    refine dm_pure hM (fun w hM => ih (rt t.size x) (by omega) t2 w hM.fz) (fun w' hx hM => ?_)
    refine dm_own hM (fun w hM => whash_ok (hAt f t (rt t.size x)) (by simp [(hAt f t (lf t.size x)).2.1]; omega) (hM.at_ (wrR g ([] ++ parentB p ++ (hAt f t (lf t.size x)).1) false))) ?_
    rintro v w5 ⟨rfl, hM⟩
    ((with_reducible (refine mm_end hM ?_; clear hM; intro _ hM)))
    refine mm_pure hM (wend_ok hM) (fun w hM => ?_)
    ((with_reducible (refine mop_c trivial ?_; refine mop_c trivial ?_; refine mm_bsl hM ?_ ?_ ?_)); (focus rfl); (focus (constructor <;> simp)); (with_reducible (clear hM; intro _ _ hM)))
    refine mm_pure hM (sum2_ok bnode (strOfNums ([] ++ parentB p ++ (hAt f t (lf t.size x)).1 ++ (hAt f t (rt t.size x)).1)) (by rw [strOfNums_size]; simp [(hAt f t (lf t.size x)).2.1, (hAt f t (rt t.size x)).2.1]; have : bnode.size = 4 := rfl; omega) hM) (fun w hM => ?_)
    ((with_reducible (refine mm_st hM ?_; clear hM; intro _ hM; refine rm_ld hM ?_)))
    refine ⟨?_, hM.st⟩
    rw [List.nil_append, ints_str _ (fun y hy => hbl y (List.mem_append.2 (.inr hy))), hAt, if_neg he, hpa]
    rfl
end
end Go.Proofs.Ytopcnkejobomaaa
namespace Go.Proofs.Ytopcnkejobomaaa
open Go.RowKit Go.Lib
end Go.Proofs.Ytopcnkejobomaaa
namespace Go.Proofs.Ytopcnkejobomaaa
open Go.RowKit Go.Lib
abbrev sabove : List Int := [97, 98, 111, 118, 101]
def wNode (pl : Int) (way : List Int) : Nat → Int
  | 0 => 2 * pl
  | m + 1 => way.getD m 0
def sdR (t : Tr) (pl : Int) (way : List Int) (keys : List H32) : Nat → Nat → H32
  | 0, _ => hzero
  | f + 1, m => shaH (sabove ++ ((keys.getD m hzero).1 ++ (sdR t pl way keys f (m + 1)).1 ++ (hAt 8 t (bs t.size (wNode pl way m))).1))
def sd (t : Tr) (pl : Int) (way : List Int) (keys : List H32) (m : Nat) : H32 := sdR t pl way keys (way.length - m) m
theorem sd_end {t : Tr} {pl : Int} {way : List Int} {keys : List H32} : sd t pl way keys way.length = hzero := by
  unfold sd
  rw [Nat.sub_self]
  rfl
theorem sd_step {t : Tr} {pl : Int} {way : List Int} {keys : List H32} {m : Nat} (h : m < way.length) : sd t pl way keys m = shaH (sabove ++ ((keys.getD m hzero).1 ++ (sd t pl way keys (m + 1)).1 ++ (hAt 8 t (bs t.size (wNode pl way m))).1)) := by
  unfold sd
  obtain ⟨f, hf⟩ : ∃ f, way.length - m = f + 1 := ⟨way.length - m - 1, by omega⟩
  have hf2 : way.length - (m + 1) = f := by omega
  rw [hf, hf2]
  rfl
def newP (t : Tr) (pl : Int) (way : List Int) (keys : List H32) (i : Nat) : Pn := ⟨true, keys.getD i hzero, sd t pl way keys (i + 1), []⟩
def wIdx (way : List Int) (k : Nat) : Nat := way.findIdx fun x => decide (x = 2 * (k : Int) + 1)
def pthPs (way : List Int) (nw : Nat → Pn) (D : Nat → Bool) (ps : List Pn) : List Pn := ps.mapIdx fun k p => if wIdx way k < way.length ∧ D (wIdx way k) = true then nw (wIdx way k) else p
theorem wIdx_at {way : List Int} (hn : way.Nodup) {i : Nat} (hi : i < way.length) {k : Nat} (hk : way[i] = 2 * (k : Int) + 1) : wIdx way k = i :=
  findIdx_at hi (fun j hj hji => decide_eq_false fun e => by
    have := (List.getElem_inj hn).1 (e.trans hk.symm)
    omega) (decide_eq_true hk)
theorem wIdx_get {way : List Int} {k : Nat} (h : wIdx way k < way.length) : way[wIdx way k] = 2 * (k : Int) + 1 := by
  have := List.findIdx_getElem (p := fun x => decide (x = 2 * (k : Int) + 1)) (xs := way) (w := h)
  simp only [decide_eq_true_eq] at this
  exact this
theorem pthPs_set {way : List Int} {nw : Nat → Pn} {D D' : Nat → Bool} {ps : List Pn} (hn : way.Nodup) {i : Nat} (hi : i < way.length) (hw : way[i] = 2 * (way[i] / 2) + 1 ∧ 0 ≤ way[i] / 2) (hD : ∀ j, j < way.length → (D' j = true ↔ D j = true ∨ j = i)) :
    (pthPs way nw D ps).set (way[i] / 2).toNat (nw i) = pthPs way nw D' ps := by
  unfold pthPs
  refine List.ext_getElem (by simp) fun k h1 h2 => ?_
  simp only [List.getElem_set, List.getElem_mapIdx]
  by_cases e : (way[i] / 2).toNat = k
  · have hk : way[i] = 2 * (k : Int) + 1 := by omega
    have hx := wIdx_at hn hi hk
    rw [if_pos e, hx, if_pos ⟨hi, (hD i hi).2 (.inr rfl)⟩]
  · rw [if_neg e]
    by_cases h : wIdx way k < way.length
    · have hne : wIdx way k ≠ i := fun h3 => by
        have := wIdx_get h
        simp only [h3] at this
        omega
      have := hD _ h
      by_cases h4 : D (wIdx way k) = true
      · rw [if_pos ⟨h, h4⟩, if_pos ⟨h, this.2 (.inl h4)⟩]
      · rw [if_neg fun h5 => h4 h5.2, if_neg fun h5 => (this.1 h5.2).elim h4 hne]
    · rw [if_neg fun h3 => h h3.1, if_neg fun h3 => h h3.1]
theorem pthPs_none {way : List Int} {nw : Nat → Pn} {D : Nat → Bool} {ps : List Pn} (hD : ∀ j, j < way.length → D j = false) : pthPs way nw D ps = ps := by
  unfold pthPs
  refine List.ext_getElem (by simp) fun k h1 h2 => ?_
  simp only [List.getElem_mapIdx]
  rw [if_neg]
  intro h
  rw [hD _ h.1] at h
  cases h.2
def Tr.pathR (t : Tr) (pl : Int) (pub : H32) (keys : List H32) : Tr × Int :=
  if t.nobody pl then (Tr.none, 7) else if (dirL t.size pl).length ≠ keys.length then (Tr.none, 16) else
  (⟨t.ls.modify pl.toNat (·.key pub (sd t pl (dirL t.size pl) keys 0)), pthPs (dirL t.size pl) (newP t pl (dirL t.size pl) keys) (fun _ => true) t.ps⟩, 0)
def Tr.pathP (t : Tr) (pl : Int) (pub : H32) (keys : List H32) : Tr × Int := if ¬ t.right = true then (Tr.none, 1) else t.pathR pl pub keys
end Go.Proofs.Ytopcnkejobomaaa
namespace Go.Proofs.Ytopcnkejobomaaa
open Go.RowKit Go.Lib
theorem fro_til {n x : Int} (h : thr n x) : fro n x < til n x := by
  have := fd_eq h
  have h1 : fro n x = (fd n x).1 := if_pos h
  have h2 : til n x = (fd n x).1 + (fd n x).2.1 := if_pos h
  omega
theorem hld_kids {n x p : Int} (h : thr n x) (ho : x % 2 = 1) : hld n x p ↔ hld n (lf n x) p ∨ hld n (rt n x) p := by
  obtain ⟨⟨t1, t2⟩, -, ⟨e1, e2, e3⟩, -⟩ := lr_eq h ho
  have := fro_til t1
  have := fro_til t2
  unfold hld
  omega
theorem hAt_same {t t' : Tr} {p : Int} (hl : t'.ls = t.ls) (hp : ∀ i : Nat, ¬ hld t.size (2 * i + 1) p → t'.ps[i]? = t.ps[i]?) : ∀ (f : Nat) (x : Int), thr t.size x → ¬ hld t.size x p → hAt f t' x = hAt f t x := by
  have hsz : t'.size = t.size := by unfold Tr.size; rw [hl]
  have hla : ∀ i, leafAt t' i = leafAt t i := fun i => by unfold leafAt; rw [hl]
  intro f
  induction f with
  | zero =>
    intro x _ _
    rw [hAt, hAt, hla]
  | succ f ih =>
    intro x ht hx
    rw [hAt, hAt, hla, hsz]
    by_cases he : x % 2 = 0
    · rw [if_pos he, if_pos he]
    · rw [if_neg he, if_neg he]
      have ho : x % 2 = 1 := by omega
      obtain ⟨⟨t1, t2⟩, -⟩ := lr_eq ht ho
      have hk := mt (hld_kids (p := p) ht ho).2 hx
      rw [not_or] at hk
      have hpa : parAt t' (x / 2) = parAt t (x / 2) := by
        have hx0 := ht.2.1
        have e : 2 * (((x / 2).toNat : Nat) : Int) + 1 = x := by omega
        have := hp (x / 2).toNat (by rw [e]; exact hx)
        unfold parAt
        rw [List.getD_eq_getElem?_getD, List.getD_eq_getElem?_getD, this]
      rw [hpa, ih _ t1 hk.1, ih _ t2 hk.2]
theorem side_ok {n z p : Int} (h : thr n z) (hh : hld n z p) (ha : 0 ≤ ab n z) : thr n (bs n z) ∧ ¬ hld n (bs n z) p := by
  obtain ⟨ho, hz⟩ := up_lr h ha
  have hta : thr n (ab n z) := ab_thr h (by omega)
  obtain ⟨⟨t1, t2⟩, -, ⟨e1, e2, e3⟩, b1, b2⟩ := lr_eq hta ho
  have := fro_til t1
  have := fro_til t2
  rcases hz with hz | hz
  · have hb : bs n z = rt n (ab n z) := by
      conv => lhs; rw [hz]
      exact b1
    rw [hb]
    refine ⟨t2, fun hr => ?_⟩
    rw [hz] at hh
    unfold hld at hh hr
    omega
  · have hb : bs n z = lf n (ab n z) := by
      conv => lhs; rw [hz]
      exact b2
    rw [hb]
    refine ⟨t1, fun hr => ?_⟩
    rw [hz] at hh
    unfold hld at hh hr
    omega
theorem dirF_nth {n : Int} : ∀ (f : Nat) (x : Int) (m : Nat) (h : m < (dirF f n x).length), (dirF f n x)[m] = ab n ((x :: dirF f n x)[m]'(by simp; omega)) ∧ 0 ≤ (dirF f n x)[m]
  | 0, x, m, h => by simp [dirF] at h
  | f + 1, x, m, h => by
    by_cases ha : ab n x < 0
    · simp [dirF, ha] at h
    · have e : dirF (f + 1) n x = ab n x :: dirF f n (ab n x) := by rw [dirF, if_neg ha]
      cases m with
      | zero =>
        simp only [e, List.getElem_cons_zero]
        exact ⟨trivial, by omega⟩
      | succ m =>
        have h' : m < (dirF f n (ab n x)).length := by rw [e] at h; simpa using h
        obtain ⟨h1, h2⟩ := dirF_nth f (ab n x) m h'
        simp only [e, List.getElem_cons_succ]
        exact ⟨h1, h2⟩
theorem wNode_eq {pl : Int} {way : List Int} {m : Nat} (h : m ≤ way.length) : wNode pl way m = (2 * pl :: way)[m]'(by simp; omega) := by
  cases m with
  | zero => rfl
  | succ m =>
    rw [wNode, List.getElem_cons_succ, List.getD_eq_getElem?_getD, List.getElem?_eq_getElem (by omega)]
    rfl
theorem way_ok {n pl : Int} (h : 0 ≤ pl ∧ pl < n ∧ n ≤ 64) {m : Nat} (hm : m < (dirL n pl).length) : thr n (wNode pl (dirL n pl) m) ∧ hld n (wNode pl (dirL n pl) m) pl ∧ thr n (bs n (wNode pl (dirL n pl) m)) ∧ ¬ hld n (bs n (wNode pl (dirL n pl) m)) pl := by
  have hd : dirL n pl = dirF 8 n (2 * pl) := if_pos ⟨h.1, h.2.1⟩
  have ht0 : thr n (2 * pl) := ⟨by omega, by omega, by omega⟩
  have hA : thr n (wNode pl (dirL n pl) m) ∧ hld n (wNode pl (dirL n pl) m) pl := by
    cases m with
    | zero =>
      obtain ⟨-, e1, e2⟩ := even_eq ht0 (by omega)
      refine ⟨ht0, ?_⟩
      show hld n (2 * pl) pl
      unfold hld
      omega
    | succ m =>
      have hw : wNode pl (dirL n pl) (m + 1) = (dirL n pl)[m] := by
        rw [wNode_eq (by omega), List.getElem_cons_succ]
      have hmem : (dirL n pl)[m] ∈ dirL n pl := List.getElem_mem _
      obtain ⟨-, h2, h3, h4⟩ := dir_mem h.2.2 hmem
      rw [hw]
      refine ⟨⟨by omega, by omega, by omega⟩, ?_⟩
      have e : (dirL n pl)[m] = 2 * ((((dirL n pl)[m] / 2).toNat : Nat) : Int) + 1 := by omega
      rw [e] at hmem ⊢
      exact (mem_dir h (by omega)).1 hmem
  have hab : 0 ≤ ab n (wNode pl (dirL n pl) m) := by
    have hm' : m < (dirF 8 n (2 * pl)).length := by rw [← hd]; exact hm
    obtain ⟨h1, h2⟩ := dirF_nth 8 (2 * pl) m hm'
    rw [wNode_eq (by omega)]
    simp only [hd]
    rw [← h1]
    exact h2
  exact ⟨hA.1, hA.2, side_ok hA.1 hA.2 hab⟩
theorem parB_of {n : Int} {ls : List Lf} : ∀ {x : Int} {ps : List Pn}, (∀ i (hi : i < ps.length), (ps[i].set = true ∨ ps[i].isZero) ∧ looseB n ls (x + 2 * i) none ps[i].loose = true) → parB n ls x ps = true
  | _, [], _ => rfl
  | x, p :: r, h => by
    have h0 := h 0 (by simp)
    have ih := parB_of (n := n) (ls := ls) (x := x + 2) (ps := r) fun i hi => by
      have := h (i + 1) (by simpa using hi)
      have e : x + 2 * ((i + 1 : Nat) : Int) = x + 2 + 2 * (i : Int) := by omega
      rw [e] at this
      simpa using this
    simp only [parB, Bool.and_eq_true, Bool.or_eq_true, decide_eq_true_eq]
    exact ⟨by simpa using h0, ih⟩
theorem Tr.Rt.par_new {t : Tr} (h : t.Rt) {ps : List Pn} (hl : ps.length = t.ps.length) (hp : ∀ i (hi : i < ps.length), ps[i] = t.ps[i]'(by omega) ∨ (ps[i].set = true ∧ ps[i].loose = [])) : Tr.Rt ⟨t.ls, ps⟩ := by
  refine ⟨⟨h.len.1, by rw [hl]; exact h.len.2⟩, h.leaves, parB_of fun i hi => ?_, h.last⟩
  have hi2 : i < ps.length := hi
  rcases hp i hi with e | ⟨e1, e2⟩
  · rw [e]
    exact parB_spec h.par i (by rw [← hl]; exact hi2)
  · rw [e2]
    exact ⟨.inl e1, rfl⟩
theorem pthPs_get {way : List Int} {nw : Nat → Pn} {D : Nat → Bool} {ps : List Pn} {i : Nat} (hi : i < (pthPs way nw D ps).length) : (pthPs way nw D ps)[i] = ps[i]'(by simpa [pthPs] using hi) ∨ ∃ j, j < way.length ∧ way[j]? = some (2 * (i : Int) + 1) ∧ (pthPs way nw D ps)[i] = nw j := by
  have e : (pthPs way nw D ps)[i]'hi = (if wIdx way i < way.length ∧ D (wIdx way i) = true then nw (wIdx way i) else ps[i]'(by simpa [pthPs] using hi)) := List.getElem_mapIdx ..
  rw [e]
  split
  · rename_i hc
    exact .inr ⟨wIdx way i, hc.1, by rw [List.getElem?_eq_getElem hc.1, wIdx_get hc.1], rfl⟩
  · exact .inl rfl
theorem pthPs_len {way : List Int} {nw : Nat → Pn} {D : Nat → Bool} {ps : List Pn} : (pthPs way nw D ps).length = ps.length := by simp [pthPs]
theorem Tr.Rt.pth {t : Tr} (h : t.Rt) {way : List Int} {nw : Nat → Pn} {D : Nat → Bool} (hn : ∀ j, (nw j).set = true ∧ (nw j).loose = []) : Tr.Rt ⟨t.ls, pthPs way nw D t.ps⟩ :=
  h.par_new pthPs_len fun i hi => (pthPs_get hi).imp id fun ⟨j, _, _, e⟩ => by rw [e]; exact hn j
theorem Tr.Rt.side_hash {t : Tr} (h : t.Rt) {pl : Int} (hb : 0 ≤ pl ∧ pl < t.size) {nw : Nat → Pn} {D : Nat → Bool} {m : Nat} (hm : m < (dirL t.size pl).length) :
    hAt 8 ⟨t.ls, pthPs (dirL t.size pl) nw D t.ps⟩ (bs t.size (wNode pl (dirL t.size pl) m)) = hAt 8 t (bs t.size (wNode pl (dirL t.size pl) m)) := by
  have hlen := h.len
  have hts : t.size = t.ls.length := rfl
  obtain ⟨-, -, h3, h4⟩ := way_ok (n := t.size) ⟨hb.1, hb.2, by omega⟩ hm
  refine hAt_same (t := t) (t' := ⟨t.ls, pthPs (dirL t.size pl) nw D t.ps⟩) rfl (fun i hi => ?_) 8 _ h3 h4
  show (pthPs (dirL t.size pl) nw D t.ps)[i]? = t.ps[i]?
  by_cases hi2 : i < t.ps.length
  · rw [List.getElem?_eq_getElem hi2, List.getElem?_eq_getElem (by rw [pthPs_len]; exact hi2)]
    rcases pthPs_get (way := dirL t.size pl) (nw := nw) (D := D) (ps := t.ps) (i := i) (by rw [pthPs_len]; exact hi2) with e | ⟨j, hj, hw, -⟩
    · rw [e]
    · exfalso
      have hmem : 2 * (i : Int) + 1 ∈ dirL t.size pl := List.mem_of_getElem? hw
      exact hi ((mem_dir ⟨hb.1, hb.2, by omega⟩ (by omega)).1 hmem)
  · rw [List.getElem?_eq_none (l := t.ps) (by omega), List.getElem?_eq_none (l := pthPs (dirL t.size pl) nw D t.ps) (by rw [pthPs_len]; omega)]
end Go.Proofs.Ytopcnkejobomaaa
namespace Go.Proofs.Ytopcnkejobomaaa
open Go.RowKit Go.Lib
abbrev babove : ByteArray := ByteArray.mk #[97, 98, 111, 118, 101]
theorem cat4 (a b c d : ByteArray) : cat [a, b, c, d] = ints a ++ (ints b ++ ints c ++ ints d) := by simp [cat]
section
variable {P : Program} {H : Hp} {w0 w : World} {L R : List Res} {n cap e sz : Nat} {A B : Option Addr} {a b : Nat} {t : Tr} {qs ps : List (List Fd)} {X : List Xp}
theorem dS_stf {ext : Bool} {S : Nat → Prop} {R1 : List Res} {g k off m : Nat} {tt : TypeId} {q : Bool} {v : Value} {fs gs fs' : List Fd} {K : Value → World → Prop} (hg0 : S g) (h : Mem H w0 L w) [c : ShpC P tt q m] [a : AtA L (some ⟨g, 0, none⟩) n cap e sz ps R1] (hk : ps[k]? = some fs) [f : Vf v m gs] [p : Put fs off gs fs']
    (hK : ∀ w', Mem H w0 (rowR e sz (some ⟨g, 0, none⟩) n cap (ps.set k fs') :: R1) w' → K undef w') : dfS P (Rl.only S) w (o_store tt (.pointer (some ⟨g, 0 + k * sz + off, none⟩)) v) ext K := ⟨fun w1 hd => by
  have h := h.drawn hd
  obtain ⟨w', h1, h2⟩ := run_msf (P := P) h c a hk f p
  obtain ⟨sp, h5, h6, h7, hE, hl, hraw⟩ := h.raw (g := g)
  have hb := hraw.bkBlf (g := g)
  obtain ⟨ev, hn, hg⟩ := f.ok
  obtain ⟨hk', hke⟩ := List.getElem?_eq_some_iff.1 hk
  obtain ⟨hxo, hxs⟩ := hE.ok fs (hke ▸ List.getElem_mem _)
  obtain ⟨_, _, k3⟩ := p.cells hxo hg
  have e2 : v.cells.size = m := by rw [← Array.length_toList, ev, hg.len, hn]
  have hle : k * sz + sz ≤ cap * sz := by
    rw [← Nat.succ_mul]
    exact Nat.mul_le_mul_right _ (by omega)
  obtain ⟨w2, h3, h4⟩ := run_storeN (P := P) (i := 0 + k * sz + off) (v := v) c.ok (St.oneF hb) e2 (by rw [ev]; exact hg.one) (by rw [hg.len, hn, hxo.len, hxs] at k3; omega)
  rw [h1] at h3
  cases h3
  exact mop_skip h1 ⟨fun _ => (hd.onlyS _).trans1 (h4.only.mono fun j _ ⟨b, hm, _, hj⟩ => by
    rw [List.mem_singleton] at hm
    subst hm
    have hj : g = j := hj
    exact hj ▸ hg0), hK w' h2⟩⟩
theorem dm_cvs {s d : TypeId} {b o k c m : Nat} {l : List Int} {Kq : Value → Prop} (hM : Mem H w0 L w) [st : StrC P s d] (a : Sl H sz (some ⟨b, o, none⟩) ps) (hk : ps[k]? = some [.arr m (u8s l)]) (hl : l.length = m) (hK : Kq (.string (strOfNums l))) : dq P w (o_conv s d (.slice (some ⟨b, o + k * sz, none⟩) m c)) Kq :=
  dq_pur (fun w' hx => pw_str st hl fun j u hu => by
    have h1 := a.els.at_ hk j u (by simpa [fl, Fd.cells] using hu)
    have h2 := a.cell (hM.fz.ext hx) h1
    rw [Nat.add_assoc]
    exact h2) hK
theorem Mem.readsX : ∀ {X : List Xp} {L : List Res}, Mem H w0 (allR X :: L) w → ∀ x ∈ X, Sl (Hp.of w) 1 x.2.1 (ints8 x.1.loose)
  | [], _, _, _, h => by cases h
  | y :: X, L, hM, x, h => by
    have h1 := hM.unk
    rcases List.mem_cons.1 h with rfl | h
    · exact h1.reads (A := x.2.1)
    · have h2 : Mem H w0 (allR X :: xres y :: L) w := h1.perm (.swap ..)
      exact Mem.readsX h2 x h
theorem Mem.readsT {ls : List Lf} (h : Mem H w0 (rowR 36 97 A ls.length a (ls.map Lf.fds) :: rowR 96 66 B X.length b (X.map xrow) :: allR X :: L) w) (hb : ∀ x ∈ X, x.1.loose.length ≤ maxLen) : TrF (Hp.of w) (tv A ls.length a B X.length b) ⟨ls, X.map (·.1)⟩ := by
  obtain ⟨-, k1, k2, -⟩ := h.rowLen ⟨.refl _⟩
  have h2 : Mem H w0 (rowR 96 66 B X.length b (X.map xrow) :: rowR 36 97 A ls.length a (ls.map Lf.fds) :: allR X :: L) w := h.perm (.swap ..)
  obtain ⟨-, k3, k4, -⟩ := h2.rowLen ⟨.refl _⟩
  have h3 : Mem H w0 (allR X :: L) w := h.drop.drop
  exact ⟨⟨A, a, B, b, X.map xrow, by simp, h.reads (A := A) (k := ⟨.refl _⟩), h2.reads (A := B) (k := ⟨.refl _⟩), all2_rows fun x hx => ⟨h3.readsX x hx, hb x hx⟩⟩, by simp only; omega, by simp only [List.length_map]; omega⟩
theorem sum4_ok {A : Option Addr} {e : Nat} (a b c d : ByteArray) (hs : a.size + b.size + c.size + d.size < 1000000000000) (hM : Mem H w0 L w) [k : AtA L A 4 4 e 1 [[.one (.string a)], [.one (.string b)], [.one (.string c)], [.one (.string d)]] R] :
    Calls Try.prog 53 #[.slice A 4 4] w fun en w' => en = .returned (.agg (u8s (shaH (ints a ++ (ints b ++ ints c ++ ints d))).1).toArray) ∧ St w [] w' := by
  have h := sum_ok A [a, b, c, d] 4 w (hM.rd k) (by simp) (by rw [cat4]; simp only [List.length_append, ints_length]; omega)
  rw [cat4] at h
  exact h
theorem hashAtT_ok (x : Int) {v : Value} (h : TrF H v t) (hf : Fz H w) : Calls Try.prog 62 #[v, .int .i64 x] w fun en w' => en = .returned (ha (if t.right = true ∧ 0 ≤ x ∧ x ≤ 2 * t.size - 2 then hAt 8 t x else hzero)) ∧ St w [] w' := by
  obtain ⟨A, a, B, b, qs, rfl, h1, h2, h3⟩ := h.ex
  have hM := Mem.start hf
  refine C_tree_HashAt ?_
  unfold F_tree_HashAt
  ((with_reducible (refine mm_box hM ?_; clear hM; intro _ _ hM; refine mm_new hM ?_; clear hM; intro _ _ hM; refine mm_ld hM ?_)))
  refine mm_pure hM (sound_ok h1 h2 h3 h.len.1 h.len.2 hM.fz) (fun w hM => ?_)
  cases hr : t.right
  · rw [if_neg (by simp), if_neg (by simp)]
    ((with_reducible (refine mm_st hM ?_; clear hM; intro _ hM)))
    refine ⟨fun v w' => v = .bool true ∧ hM.now w', ?_, ?_⟩
    · ((with_reducible (refine mop_cS trivial ?_ ?_)))
      · intro hx
        ((with_reducible ((iterate 7 refine mguard_n1 ?_); refine mop_c trivial ?_)))
        exact ⟨rfl, hM⟩
      · intro hx
        ((with_reducible (refine mguard_yes ?_; refine mop_c trivial ?_; refine mguard_yes ?_; refine mop_c trivial ?_; refine mguard_yes ?_; refine mm_ld hM ?_; refine mguard_yes ?_; refine mop_c trivial ?_; refine mguard_yes ?_; refine mop_c ?_ ?_)); (focus omega); (with_reducible (refine mguard_yes ?_; refine mop_c ?_ ?_)); (focus omega); (with_reducible (refine mguard_yes ?_; refine mop_cT trivial ?_ ?_)); (focus (first | assumption | omega | with_reducible rfl | exact fun h => Bool.noConfusion h)); (with_reducible (refine mop_c trivial ?_)))
        exact ⟨rfl, hM⟩
    rintro v u w3 ⟨rfl, hM⟩
    ((with_reducible (refine mif_true ?_; refine mop_c trivial ?_; refine mm_st hM ?_; clear hM; intro _ hM; refine rm_ld hM ?_)))
    exact ⟨rfl, hM.st⟩
  · have hR := Tr.rt.1 hr
    have hlen := hR.len
    have hts : t.size = t.ls.length := rfl
    rw [if_pos rfl]
    ((with_reducible (refine mm_st hM ?_; clear hM; intro _ hM)))
    refine ⟨fun v w' => v = .bool (decide (¬ (0 ≤ x ∧ x ≤ 2 * t.size - 2))) ∧ hM.now w', ?_, ?_⟩
    · ((with_reducible (refine mop_cS trivial ?_ ?_)))
      · intro hx
        ((with_reducible ((iterate 7 refine mguard_n1 ?_); refine mop_c trivial ?_)))
        exact ⟨by rw [decide_eq_true (by omega)], hM⟩
      · intro hx
        ((with_reducible (refine mguard_yes ?_; refine mop_c trivial ?_; refine mguard_yes ?_; refine mop_c trivial ?_; refine mguard_yes ?_; refine mm_ld hM ?_; refine mguard_yes ?_; refine mop_c trivial ?_; refine mguard_yes ?_; refine mop_c ?_ ?_)); (focus omega); (with_reducible (refine mguard_yes ?_; refine mop_c ?_ ?_)); (focus omega); (with_reducible (refine mguard_yes ?_)))
        ((with_reducible (refine mop_cS trivial ?_ ?_)))
        · intro hx2
          ((with_reducible (refine mop_c trivial ?_)))
          exact ⟨by rw [decide_eq_true (by omega)], hM⟩
        · intro hx2
          ((with_reducible (refine mop_c trivial ?_)))
          exact ⟨by rw [decide_eq_false (by omega)], hM⟩
    rintro v u w3 ⟨rfl, hM⟩
    by_cases hc : 0 ≤ x ∧ x ≤ 2 * t.size - 2
    · rw [decide_eq_false (by simpa using hc), if_pos ⟨rfl, hc⟩]
      ((with_reducible (refine mif_false ?_; refine mm_ld hM ?_)))
      have hne : t.ls ≠ [] := fun e => by rw [hts, e] at hc; simp at hc; omega
      refine mm_pure hM (hashAt_ok (hR.gd hne) h1 h2 h3 8 x (by have := (up_eq (x := x) (by omega)).2.2.2.2; omega) ⟨by omega, hc.1, hc.2⟩ _ hM.fz) (fun w hM => ?_)
      ((with_reducible (refine mm_st hM ?_; clear hM; intro _ hM; refine rm_ld hM ?_)))
      exact ⟨rfl, hM.st⟩
    · rw [decide_eq_true hc, if_neg (fun h => hc h.2)]
      ((with_reducible (refine mif_true ?_; refine mop_c trivial ?_; refine mm_st hM ?_; clear hM; intro _ hM; refine rm_ld hM ?_)))
      exact ⟨rfl, hM.st⟩
abbrev kfds (keys : List H32) : List (List Fd) := keys.map fun h => [Fd.arr 32 (u8s h.1)]
theorem pathT_rt (hR : t.Rt) {way : List Int} {pl : Int} {keys : List H32} {D : Nat → Bool} : Tr.Rt ⟨t.ls, pthPs way (newP t pl way keys) D t.ps⟩ := hR.pth fun _ => ⟨rfl, rfl⟩
theorem path_q {Q : Hp → Value → Prop} (pl : Int) (pub : H32) (keys : List H32) {K : Option Addr} {kc : Nat} (hq : ∀ H' v1 r, t.pathP pl pub keys = r → TrF H' v1 r.1 → Q H' (.tuple #[v1, .int .i64 r.2])) (hkl : keys.length ≤ 1000000) (hK : Sl H 32 K (kfds keys))
    (h1 : Sl H 97 A (t.ls.map Lf.fds)) (h2 : Sl H 66 B qs) (h3 : All2 (PnF H) qs t.ps) (hl : t.ls.length ≤ maxLen) (hp : t.ps.length ≤ maxLen) (hf : Fz H w) :
    Calls Try.prog 23 #[tv A t.ls.length a B t.ps.length b, .int .i64 pl, ha pub, .slice K keys.length kc] w (Outp H w Q) := by
  obtain ⟨w1, hw1⟩ : ∃ w1, w1 = w := ⟨_, rfl⟩
  rw [← hw1]
  rw [← hw1] at hf
  have hM := Mem.start hf
  refine C_tree_Path ?_
  unfold F_tree_Path
  unfold Tr.pathP Tr.pathR at hq
  ((with_reducible (refine mm_box hM ?_; clear hM; intro _ _ hM; refine mm_box hM ?_; clear hM; intro _ _ hM; refine mm_new hM ?_; clear hM; intro _ _ hM; refine mm_ld hM ?_)))
  rename_i g1 _ g5 _ g2 _
  refine mm_pure hM (right_ok h1 h2 h3 hl hp hM.fz) (fun w hM => ?_)
  ((with_reducible (refine mop_c trivial ?_)))
  cases hr : t.right
  · rw [if_pos (by rw [hr]; simp)] at hq
    rw [Bool.not_false]
    ((with_reducible (refine mif_true ?_; refine mop_c trivial ?_; refine mm_st hM ?_; clear hM; intro _ hM; refine rm_ld hM ?_)))
    exact hM.out (Le.refl _ _) (hq _ _ _ rfl (trF_none H))
  rw [if_neg (by rw [hr]; simp)] at hq
  have hR := Tr.rt.1 hr
  have hlen := hR.len
  have hts : t.size = t.ls.length := rfl
  rw [Bool.not_true]
  ((with_reducible (refine mif_false ?_; refine mm_ld hM ?_)))
  refine mm_pure hM (none_ok pl h1 hl hM.fz) (fun w hM => ?_)
  by_cases hn : t.nobody pl
  · rw [if_pos hn] at hq
    rw [decide_eq_true hn]
    ((with_reducible (refine mif_true ?_; refine mop_c trivial ?_; refine mm_st hM ?_; clear hM; intro _ hM; refine rm_ld hM ?_)))
    exact hM.out (Le.refl _ _) (hq _ _ _ rfl (trF_none H))
  rw [if_neg hn] at hq
  rw [decide_eq_false hn]
  obtain ⟨hb0, hb1, hb2⟩ := Tr.body hn
  ((with_reducible (refine mif_false ?_; refine mop_c trivial ?_; refine mm_ld hM ?_; refine mop_c trivial ?_)))
  refine mm_call hM (bdirect_ok t.ls.length pl (by omega) hM.fz) ?_
  rintro H1 v w5 l1 hM ⟨D, c, rfl, hD⟩
  have hdl := dirL_len t.size pl
  have hnd := dir_nodup (n := t.size) (l := pl) (by omega)
  have hdm := fun x hx => dir_mem (n := t.size) (l := pl) (x := x) (by omega) hx
  have hside := fun (D : Nat → Bool) (m : Nat) (hm : m < (dirL t.size pl).length) => hR.side_hash (pl := pl) ⟨hb0, hb2⟩ (nw := newP t pl (dirL t.size pl) keys) (D := D) hm
  have hwok := fun (m : Nat) (hm : m < (dirL t.size pl).length) => way_ok (n := t.size) (pl := pl) ⟨hb0, hb2, by omega⟩ hm
  rw [← hts] at hD ⊢
  generalize hDL : dirL t.size pl = DL at *
  ((with_reducible (refine mop_c trivial ?_; refine mop_c trivial ?_)))
  ((with_reducible (refine mop_cS trivial ?_ ?_)))
  · intro hne
    rw [if_pos (by omega)] at hq
    ((with_reducible (refine mif_true ?_; refine mop_c trivial ?_; refine mm_st hM ?_; clear hM; intro _ hM; refine rm_ld hM ?_)))
    exact hM.out l1 (hq _ _ _ rfl (trF_none H1))
  intro hne
  have hkd : DL.length = keys.length := by omega
  rw [if_neg (by omega)] at hq
  have hK := hK.mono l1.le
  ((with_reducible (refine mif_false ?_; refine mm_ld hM ?_)))
  refine mm_own (clone_ok (h1.mono l1.le) (h2.mono l1.le) (h3.mono fun _ _ h => h.mono l1.le) (by omega) (by omega) (fun p hp => by have := (hR.loose p hp).1; omega) hM) ?_
  rintro v w' ⟨A', a', B', b', X, rfl, hX, hM⟩
  have hXl : X.length = t.ps.length := by rw [← hX, List.length_map]
  obtain ⟨g4, rfl⟩ := hM.rowAt ⟨.refl _⟩ (by omega)
  ((with_reducible (refine mm_st hM ?_; clear hM; intro _ hM; refine mop_c trivial ?_; refine mm_new hM ?_; clear hM; intro _ _ hM; refine mm_st hM ?_; clear hM; intro _ hM; refine mop_c trivial ?_; refine mop_c ?_ ?_)); (focus omega))
  rename_i g12 _ _
  have hdone : ∀ m, m = DL.length → pthPs DL (newP t pl DL keys) (fun j => decide (m ≤ j)) t.ps = t.ps := fun m hm => pthPs_none fun j hj => decide_eq_false (by omega)
  refine ⟨fun v w' => ∃ (m : Nat) (Y : List Xp), v = .int .i64 ((m : Int) - 1) ∧ m ≤ DL.length ∧ Y.map (·.1) = pthPs DL (newP t pl DL keys) (fun j => decide (m ≤ j)) t.ps ∧ Y.length = t.ps.length ∧ Mem H1 w1 [fb g12 34 [.arr 32 (u8s (sd t pl DL keys m).1)], fb g1 27 (tfd (some ⟨g4, 0, none⟩) t.ls.length a' B' t.ps.length b'), fb g5 34 [.arr 32 (u8s pub.1)], fb g2 27 (tfd none 0 0 none 0 0), rowR 36 97 (some ⟨g4, 0, none⟩) t.ls.length a' (t.ls.map Lf.fds), rowR 96 66 B' t.ps.length b' (Y.map xrow), allR Y] w', fun v _ => match v with | .int _ k => (k + 1).toNat | _ => 0, ⟨DL.length, X, rfl, by omega, by rw [hX, hdone _ rfl], hXl, ?_⟩, ?_⟩
  · rw [sd_end]
    exact hM.same
  clear hM
  rintro v u w6 ⟨m, Y, rfl, hm, hY, hYl, hM⟩
  cases m with
  | zero =>
    have hY : Y.map (·.1) = pthPs DL (newP t pl DL keys) (fun _ => true) t.ps := hY.trans (by
      unfold pthPs
      refine List.ext_getElem (by simp) fun k e1 e2 => ?_
      simp)
    have hRt : Tr.Rt ⟨t.ls, Y.map (·.1)⟩ := by
      rw [hY]
      exact pathT_rt hR
    obtain ⟨l0, hl0⟩ : ∃ l0, t.ls[pl.toNat] = l0 := ⟨_, rfl⟩
    have hk0 : (t.ls.map Lf.fds)[pl.toNat]? = some l0.fds := by rw [← hl0]; exact map_at hb1
    ((with_reducible (refine mop_cF trivial ?_ ?_)); (focus (first | assumption | omega | with_reducible rfl | exact fun h => Bool.noConfusion h)); (with_reducible (refine mif_false ?_)))
    refine ⟨Rl.only fun k => (some ⟨g4, 0, none⟩ : Option Addr) = some ⟨k, 0, none⟩, ?_⟩
    ((with_reducible (refine dp_c trivial ?_; refine dS_ld hM hM.neA ?_; refine dp_c trivial ?_; (iterate 3 refine dS_ld hM hM.neA ?_); refine dp_ixr hM ?_ ?_)); (focus omega); (with_reducible (intro _ hA)); (cases hA); (with_reducible (refine dp_c trivial ?_)))
    refine dS_stf rfl hM hk0 (fun w' hM => ?_)
    have hz : [Fd.one (.int .i64 l0.name), .arr 32 (u8s pub.1), .arr 32 (u8s l0.ver.1), .arr 32 (u8s l0.abv.1)] = (l0.key pub l0.abv).fds := rfl
    rw [hz] at hM
    have hk1 : ((t.ls.map Lf.fds).set pl.toNat (l0.key pub l0.abv).fds)[pl.toNat]? = some (l0.key pub l0.abv).fds := by
      rw [List.getElem?_set_self (by simpa using hb1)]
    ((with_reducible (refine dp_ixr hM ?_ ?_)); (focus omega); (with_reducible (intro _ hA)); (cases hA); (with_reducible (refine dp_c trivial ?_)))
    refine dS_stf rfl hM hk1 (fun w' hM => ?_)
    have hz3 : [Fd.one (.int .i64 (l0.key pub l0.abv).name), .arr 32 (u8s (l0.key pub l0.abv).pub.1), .arr 32 (u8s (l0.key pub l0.abv).ver.1), .arr 32 (u8s (sd t pl DL keys 0).1)] = (l0.key pub (sd t pl DL keys 0)).fds := rfl
    rw [hz3, List.set_set, ← List.map_set] at hM
    have hmod : t.ls.set pl.toNat (l0.key pub (sd t pl DL keys 0)) = t.ls.modify pl.toNat (·.key pub (sd t pl DL keys 0)) := by
      refine List.ext_getElem (by simp) fun i k1 k2 => ?_
      simp only [List.getElem_modify, List.getElem_set]
      split
      · rename_i e
        subst e
        rw [hl0]
      · rfl
    rw [hmod] at hM
    have hsl : (t.ls.modify pl.toNat (·.key pub (sd t pl DL keys 0))).length = t.ls.length := List.length_modify ..
    obtain ⟨ls2, hls⟩ : ∃ ls2, t.ls.modify pl.toNat (·.key pub (sd t pl DL keys 0)) = ls2 := ⟨_, rfl⟩
    rw [hls] at hM hsl hq
    rw [← hsl, ← hYl] at hM
    ((with_reducible (refine mm_end hM ?_; clear hM; intro _ hM; refine mm_ld hM ?_; refine mm_st hM ?_; clear hM; intro _ hM; refine rm_ld hM ?_)))
    have hM : Mem H1 w1 [rowR 36 97 (some ⟨g4, 0, none⟩) ls2.length a' (ls2.map Lf.fds), rowR 96 66 B' Y.length b' (Y.map xrow), allR Y] _ := hM.sub
    obtain ⟨H4, l4, hM, hT⟩ := hM.frzT (fun x hx => by have := (hRt.loose x.1 (List.mem_map_of_mem hx)).1; simp only [maxLen]; omega)
    refine hM.out (l1.trans l4) (hq _ _ _ rfl ?_)
    rw [hY] at hT
    exact hT
  | succ i =>
    rw [show (((i + 1 : Nat) : Int) - 1) = (i : Int) by omega]
    have hi : i < DL.length := by omega
    have hik : i < keys.length := by omega
    have hxm := hdm DL[i] (List.getElem_mem _)
    have hkx : (DL[i] / 2).toNat < Y.length := by omega
    obtain ⟨gB, rfl⟩ := (hM.up B').rowAt ⟨.refl _⟩ (by omega)
    obtain ⟨kb, ko, rfl⟩ := hK.some_ (by simp [kfds]; omega)
    obtain ⟨db, dd, rfl⟩ := hD.some_ (by simp [ints8]; omega)
    have hnew : newP t pl DL keys i = ⟨true, keys[i], sd t pl DL keys (i + 1), []⟩ := by
      unfold newP
      rw [List.getD_eq_getElem?_getD, List.getElem?_eq_getElem hik]
      rfl
    have hrow : xrow (newP t pl DL keys i, none, 0) = [Fd.one (.bool true), .arr 32 (u8s keys[i].1), .arr 32 (u8s (sd t pl DL keys (i + 1)).1), .one (.slice none 0 0)] := by
      rw [hnew]
      rfl
    ((with_reducible (refine mop_cT trivial ?_ ?_)); (focus (first | assumption | omega | with_reducible rfl | exact fun h => Bool.noConfusion h)); (with_reducible (refine mif_true ?_; refine dp_c trivial ?_; refine dm_ld hM ?_)); (with_reducible refine dp_ixs ‹_› ?_ ?_ ?_); (focus (simp only [List.length_map]; omega)); (focus (simp only [List.length_map]; first | done | omega)); (with_reducible (intro _ _ hA)); (cases hA); (with_reducible refine dm_lds0 hM ‹_› (map_atI ?_) ?_); (focus omega); (with_reducible (refine dp_c ?_ ?_)); (focus omega); (with_reducible refine dp_ixs ‹_› ?_ ?_ ?_); (focus (simp only [List.length_map]; omega)); (focus (simp only [List.length_map]; first | done | omega)); (with_reducible (intro _ _ hA)); (cases hA); (with_reducible refine dm_lds0 hM ‹_› (map_atI ?_) ?_); (focus omega); (with_reducible (refine dm_ld hM ?_; refine dp_c trivial ?_; refine dp_ixr hM ?_ ?_)); (focus omega); (with_reducible (intro _ hA)); (cases hA))
    refine df_no hM (fun w' hM => ?_)
    refine mm_str hM (by omega) (fun w' hM => ?_)
    rw [← hrow, ← List.map_set] at hM
    have hM := ((hM.at_ (allR Y)).outk hkx).drop
    have h0 : Mem H1 w1 (xres (newP t pl DL keys i, none, 0) :: restR Y (DL[i] / 2).toNat :: _) _ := hM.row0 3 1
    have hM := h0.ink hkx
    have hY2 : (Y.set (DL[i] / 2).toNat (newP t pl DL keys i, none, 0)).map (·.1) = pthPs DL (newP t pl DL keys) (fun j => decide (i ≤ j)) t.ps := by
      rw [List.map_set, hY]
      exact pthPs_set hnd hi ⟨hxm.2.1, hxm.2.2.1⟩ fun j hj => by simp only [decide_eq_true_eq]; omega
    have hYl2 : (Y.set (DL[i] / 2).toNat (newP t pl DL keys i, none, 0)).length = t.ps.length := by rw [List.length_set]; exact hYl
    clear hY hYl hrow h0
    generalize Y.set (DL[i] / 2).toNat (newP t pl DL keys i, none, 0) = Z at *
    have hM : Mem H1 w1 [fb g12 34 [.arr 32 (u8s (sd t pl DL keys (i + 1)).1)], fb g1 27 (tfd (some ⟨g4, 0, none⟩) t.ls.length a' (some ⟨gB, 0, none⟩) t.ps.length b'), fb g5 34 [.arr 32 (u8s pub.1)], fb g2 27 (tfd none 0 0 none 0 0), rowR 36 97 (some ⟨g4, 0, none⟩) t.ls.length a' (t.ls.map Lf.fds), rowR 96 66 (some ⟨gB, 0, none⟩) t.ps.length b' (Z.map xrow), allR Z] _ := hM.same
    have hRt : Tr.Rt ⟨t.ls, Z.map (·.1)⟩ := by
      rw [hY2]
      exact pathT_rt hR
    obtain ⟨k1, k2, k3, k4⟩ := hwok i hi
    have hHash : ∀ w, Mem H1 w1 [rowR 36 97 (some ⟨g4, 0, none⟩) t.ls.length a' (t.ls.map Lf.fds), rowR 96 66 (some ⟨gB, 0, none⟩) t.ps.length b' (Z.map xrow), allR Z] w → Calls Try.prog 62 #[tv (some ⟨g4, 0, none⟩) t.ls.length a' (some ⟨gB, 0, none⟩) t.ps.length b', .int .i64 (bs t.size (wNode pl DL i))] w fun en w' => en = .returned (ha (hAt 8 t (bs t.size (wNode pl DL i)))) ∧ St w [] w' := fun w hM => by
      rw [← hYl2] at hM ⊢
      have h := hashAtT_ok (t := ⟨t.ls, Z.map (·.1)⟩) (bs t.size (wNode pl DL i)) (hM.readsT fun x hx => by have := (hRt.loose x.1 (List.mem_map_of_mem hx)).1; simp only [maxLen]; omega) (Fz.of w)
      rw [if_pos ⟨Tr.rt.2 hRt, k3.2.1, k3.2.2⟩, hY2, hside _ i hi] at h
      exact h
    ((with_reducible (refine mm_end hM ?_; clear hM; intro _ hM; refine mop_c ?_ ?_)); (focus omega))
    refine ⟨fun v w' => v = .int .i64 (wNode pl DL i) ∧ hM.now w', ?_, ?_⟩
    · ((with_reducible (refine mop_cS trivial ?_ ?_)))
      · intro hpos
        ((with_reducible (refine mif_true ?_; refine mop_c ?_ ?_)); (focus omega); (with_reducible refine mm_ixs ‹_› ?_ ?_ ?_); (focus (simp only [List.length_map]; omega)); (focus (simp only [List.length_map]; first | done | omega)); (with_reducible (intro _ _ hA)); (cases hA); (with_reducible refine mm_lds0 hM ‹_› (map_at ?_) ?_); (focus omega))
        refine ⟨?_, hM⟩
        congr 1
        rw [wNode_eq (by omega)]
        cases i with
        | zero => omega
        | succ i =>
          rw [List.getElem_cons_succ]
          congr 1
          omega
      · intro hz
        obtain rfl : i = 0 := by omega
        ((with_reducible (refine mif_false ?_)))
        exact ⟨rfl, hM⟩
    rintro v u7 w7 ⟨rfl, hM⟩
    refine ⟨fun v w' => ∃ g15, v = .pointer (some ⟨g15, 0, none⟩) ∧ Mem H1 w1 [fb g15 34 [.arr 32 (u8s (hAt 8 t (bs t.size (wNode pl DL i))).1)], fb g12 34 [.arr 32 (u8s (sd t pl DL keys (i + 1)).1)], fb g1 27 (tfd (some ⟨g4, 0, none⟩) t.ls.length a' (some ⟨gB, 0, none⟩) t.ps.length b'), fb g5 34 [.arr 32 (u8s pub.1)], fb g2 27 (tfd none 0 0 none 0 0), rowR 36 97 (some ⟨g4, 0, none⟩) t.ls.length a' (t.ls.map Lf.fds), rowR 96 66 (some ⟨gB, 0, none⟩) t.ps.length b' (Z.map xrow), allR Z] w', ⟨?_, ?_, ?_⟩, ?_⟩
    · ((with_reducible (refine dm_ld hM ?_; refine dm_purC hM ?_ (fun _ _ hM => ?_))); (focus (first | exact trivial | assumption | omega)))
      refine dm_pure hM (fun w hM => hHash w hM.sub) (fun w' hx hM => ?_)
      ((with_reducible (refine dm_new hM ?_; clear hM; intro _ _ hM; refine dS_st hM ?_; clear hM; intro _ hM; refine mm_end hM ?_; clear hM; intro _ hM)))
      exact ⟨_, rfl, hM.same⟩
    · ((with_reducible (refine dm_ld hM ?_; refine dm_purC hM ?_ (fun _ _ hM => ?_))); (focus (first | exact trivial | assumption | omega)); (with_reducible (refine dm_new hM ?_; clear hM; intro _ _ hM)))
      refine dm_pure hM (fun w hM => hHash w hM.sub) (fun w' hx hM => ?_)
      ((with_reducible (refine dS_st hM ?_; clear hM; intro _ hM; refine mm_end hM ?_; clear hM; intro _ hM)))
      exact ⟨_, rfl, hM.same⟩
    · ((with_reducible (refine dm_ld hM ?_; refine dm_new hM ?_; clear hM; intro _ _ hM; refine dm_purC hM ?_ (fun _ _ hM => ?_))); (focus (first | exact trivial | assumption | omega)))
      refine dm_pure hM (fun w hM => hHash w hM.sub) (fun w' hx hM => ?_)
      ((with_reducible (refine dS_st hM ?_; clear hM; intro _ hM; refine mm_end hM ?_; clear hM; intro _ hM)))
      exact ⟨_, rfl, hM.same⟩
    clear hM
    rintro v u8 w8 ⟨g15, rfl, hM⟩
    ((with_reducible refine dp_ixs ‹_› ?_ ?_ ?_); (focus (simp only [List.length_map]; omega)); (focus (simp only [List.length_map]; first | done | omega)); (with_reducible (intro _ _ hA)); (cases hA); (with_reducible (refine dp_c trivial ?_)))
    rw [Int.toNat_natCast]
    refine dm_cvs hM hK (map_at hik) keys[i].2.1 ?_
    ((with_reducible (refine dp_c trivial ?_; refine dm_cvb hM ?_; refine dp_c trivial ?_; refine dm_cvb hM ?_; refine dS_bsl hM ?_ ?_ ?_)); (focus rfl); (focus (constructor <;> simp)); (with_reducible (clear hM; intro _ _ hM)))
    refine dm_pure hM (fun w hM => sum4_ok babove (strOfNums keys[i].1) (strOfNums (sd t pl DL keys (i + 1)).1) (strOfNums (hAt 8 t (bs t.size (wNode pl DL i))).1) (by rw [strOfNums_size, strOfNums_size, strOfNums_size, keys[i].2.1, (sd t pl DL keys (i + 1)).2.1, (hAt 8 t (bs t.size (wNode pl DL i))).2.1]; decide) hM) (fun w' hx hM => ?_)
    rw [ints_h, ints_h, ints_h]
    have hsd : shaH (ints babove ++ (keys[i].1 ++ (sd t pl DL keys (i + 1)).1 ++ (hAt 8 t (bs t.size (wNode pl DL i))).1)) = sd t pl DL keys i := by
      rw [sd_step hi, List.getD_eq_getElem?_getD, List.getElem?_eq_getElem hik]
      rfl
    rw [hsd]
    ((with_reducible (refine dS_st hM ?_; clear hM; intro _ hM; refine mm_end hM ?_; clear hM; intro _ hM; refine mop_c ?_ ?_)); (focus omega))
    exact ⟨⟨i, Z, rfl, by omega, hY2, hYl2, hM.sub⟩, by simp only; omega⟩
end
end Go.Proofs.Ytopcnkejobomaaa
namespace Go.Proofs.Ytopcnkejobomaaa
open Go.RowKit
end Go.Proofs.Ytopcnkejobomaaa
namespace Go.Proofs.Ytopcnkejobomaaa
open Go.RowKit Go.Lib
def lvsOk (s : List Int) (ls : List Lf) : Prop := (∀ l ∈ ls, l = Lf.zero ∨ (1 ≤ l.name ∧ l.name ≤ 64)) ∧ (∀ l ∈ ls, l.name ≠ 0 → l.name ∉ s) ∧ ∀ i j (hi : i < ls.length) (hj : j < ls.length), i < j → ls[i].name ≠ 0 → ls[i].name ≠ ls[j].name
theorem lvsOk_cons {s : List Int} {l : Lf} {r : List Lf} : lvsOk s (l :: r) ↔ (l = Lf.zero ∧ lvsOk s r) ∨ ((1 ≤ l.name ∧ l.name ≤ 64) ∧ l.name ∉ s ∧ lvsOk (l.name :: s) r) := by
  constructor
  · rintro ⟨h1, h2, h3⟩
    have hr1 : ∀ x ∈ r, x = Lf.zero ∨ (1 ≤ x.name ∧ x.name ≤ 64) := fun x hx => h1 x (List.mem_cons_of_mem _ hx)
    have hr3 : ∀ i j (hi : i < r.length) (hj : j < r.length), i < j → r[i].name ≠ 0 → r[i].name ≠ r[j].name := fun i j hi hj hij hn => by
      have := h3 (i + 1) (j + 1) (by simpa using hi) (by simpa using hj) (by omega)
      simpa using this hn
    rcases h1 l (List.mem_cons_self ..) with hz | hz
    · exact .inl ⟨hz, hr1, fun x hx => h2 x (List.mem_cons_of_mem _ hx), hr3⟩
    · refine .inr ⟨hz, h2 l (List.mem_cons_self ..) (by omega), hr1, fun x hx hn hm => ?_, hr3⟩
      rcases List.mem_cons.1 hm with e | hm
      · obtain ⟨j, hj, rfl⟩ := List.getElem_of_mem hx
        have := h3 0 (j + 1) (by simp) (by simpa using hj) (by omega)
        simp only [List.getElem_cons_zero, List.getElem_cons_succ] at this
        exact this (by omega) e.symm
      · exact h2 x (List.mem_cons_of_mem _ hx) hn hm
  · rintro (⟨hz, h1, h2, h3⟩ | ⟨hz, hs, h1, h2, h3⟩)
    · refine ⟨fun x hx => ?_, fun x hx hn => ?_, fun i j hi hj hij hn => ?_⟩
      · rcases List.mem_cons.1 hx with rfl | hx
        · exact .inl hz
        · exact h1 x hx
      · rcases List.mem_cons.1 hx with rfl | hx
        · rw [hz] at hn
          exact absurd rfl hn
        · exact h2 x hx hn
      · cases i with
        | zero =>
          rw [List.getElem_cons_zero, hz] at hn
          exact absurd rfl hn
        | succ i =>
          obtain ⟨j, rfl⟩ : ∃ k, j = k + 1 := ⟨j - 1, by omega⟩
          simp only [List.getElem_cons_succ] at hn ⊢
          exact h3 i j (by simpa using hi) (by simpa using hj) (by omega) hn
    · refine ⟨fun x hx => ?_, fun x hx hn => ?_, fun i j hi hj hij hn => ?_⟩
      · rcases List.mem_cons.1 hx with rfl | hx
        · exact .inr hz
        · exact h1 x hx
      · rcases List.mem_cons.1 hx with rfl | hx
        · exact hs
        · exact fun hm => h2 x hx hn (List.mem_cons_of_mem _ hm)
      · obtain ⟨j, rfl⟩ : ∃ k, j = k + 1 := ⟨j - 1, by omega⟩
        have hj' : j < r.length := by simpa using hj
        cases i with
        | zero =>
          simp only [List.getElem_cons_zero, List.getElem_cons_succ] at hn ⊢
          intro e
          exact h2 r[j] (List.getElem_mem hj') (by omega) (by rw [← e]; exact List.mem_cons_self ..)
        | succ i =>
          simp only [List.getElem_cons_succ] at hn ⊢
          exact h3 i j (by simpa using hi) hj' (by omega) hn
theorem leavesB_iff : ∀ {s : List Int} {ls : List Lf}, leavesB s ls = true ↔ lvsOk s ls
  | s, [] => ⟨fun _ => ⟨fun _ h => (by cases h), fun _ h => (by cases h), fun i j hi => (by cases hi)⟩, fun _ => rfl⟩
  | s, l :: r => by
    rw [lvsOk_cons]
    unfold leavesB
    by_cases hz : l = Lf.zero
    · rw [if_pos hz, leavesB_iff]
      constructor
      · exact fun h => .inl ⟨hz, h⟩
      · rintro (⟨-, h⟩ | ⟨h, -⟩)
        · exact h
        · rw [hz] at h
          simp [Lf.zero] at h
    · rw [if_neg hz, Bool.and_eq_true, decide_eq_true_eq, leavesB_iff]
      constructor
      · exact fun ⟨⟨h1, h2⟩, h3⟩ => .inr ⟨h1, h2, h3⟩
      · rintro (⟨h, -⟩ | ⟨h1, h2, h3⟩)
        · exact absurd h hz
        · exact ⟨⟨h1, h2⟩, h3⟩
theorem looseB_of {n : Int} {ls : List Lf} {x : Int} : ∀ {o : Option Int} {l : List Int}, (∀ p ∈ l, hld n x p ∧ nameAt ls p ≠ 0 ∧ ∀ q ∈ o, q < p) → l.Pairwise (· < ·) → looseB n ls x o l = true
  | _, [], _, _ => rfl
  | o, p :: r, h, hp => by
    obtain ⟨h1, h2⟩ := List.pairwise_cons.1 hp
    simp only [looseB, Bool.and_eq_true, decide_eq_true_eq]
    refine ⟨h p (List.mem_cons_self ..), looseB_of (fun y hy => ?_) h2⟩
    obtain ⟨a, b, -⟩ := h y (List.mem_cons_of_mem _ hy)
    exact ⟨a, b, fun q hq => by cases hq; exact h1 y hy⟩
theorem parB_mk {n : Int} {ls : List Lf} : ∀ {x : Int} {ps : List Pn}, (∀ i (hi : i < ps.length), (ps[i].set = true ∨ ps[i].isZero) ∧ looseB n ls (x + 2 * i) none ps[i].loose = true) → parB n ls x ps = true
  | _, [], _ => rfl
  | x, p :: r, h => by
    have h0 := h 0 (by simp)
    have ih := parB_mk (n := n) (ls := ls) (x := x + 2) (ps := r) fun i hi => by
      have := h (i + 1) (by simpa using hi)
      have e : x + 2 * ((i + 1 : Nat) : Int) = x + 2 + 2 * (i : Int) := by omega
      rw [e] at this
      simpa using this
    simp only [parB, Bool.and_eq_true, Bool.or_eq_true, decide_eq_true_eq]
    exact ⟨by simpa using h0, ih⟩
theorem Tr.Rt.mk' {t : Tr} (h1 : t.ls.length ≤ 64 ∧ t.ps.length = t.ls.length - 1) (h2 : lvsOk [] t.ls) (h3 : ∀ i (hi : i < t.ps.length), (t.ps[i].set = true ∨ t.ps[i].isZero) ∧ (∀ p ∈ t.ps[i].loose, hld t.size (2 * i + 1) p ∧ nameAt t.ls p ≠ 0) ∧ t.ps[i].loose.Pairwise (· < ·)) (h4 : t.ls = [] ∨ 0 < nameAt t.ls (t.size - 1)) : t.Rt :=
  ⟨h1, leavesB_iff.2 h2, parB_mk fun i hi => ⟨(h3 i hi).1, looseB_of (fun p hp => by
    have := (h3 i hi).2.1 p hp
    rw [show (1 : Int) + 2 * i = 2 * i + 1 by omega]
    exact ⟨this.1, this.2, fun _ h => by cases h⟩) (h3 i hi).2.2⟩, h4⟩
theorem Tr.Rt.parts {t : Tr} (h : t.Rt) : lvsOk [] t.ls ∧ ∀ i (hi : i < t.ps.length), (t.ps[i].set = true ∨ t.ps[i].isZero) ∧ (∀ p ∈ t.ps[i].loose, hld t.size (2 * i + 1) p ∧ nameAt t.ls p ≠ 0) ∧ t.ps[i].loose.Pairwise (· < ·) :=
  ⟨leavesB_iff.1 h.leaves, fun i hi => by
    obtain ⟨a, b⟩ := parB_spec h.par i hi
    obtain ⟨c, d⟩ := looseB_spec b
    rw [show (1 : Int) + 2 * i = 2 * i + 1 by omega] at c
    exact ⟨a, fun p hp => ⟨(c p hp).1, (c p hp).2.1⟩, d⟩⟩
end Go.Proofs.Ytopcnkejobomaaa
namespace Go.Proofs.Ytopcnkejobomaaa
open Go.RowKit Go.Lib
theorem nameAt_eq {ls ls' : List Lf} (hl : ls'.length = ls.length) (hn : ∀ i (h : i < ls'.length), ls'[i].name = (ls[i]'(by omega)).name) (p : Int) : nameAt ls' p = nameAt ls p := by
  unfold nameAt
  by_cases h : p.toNat < ls'.length
  · rw [List.getElem?_eq_getElem h, List.getElem?_eq_getElem (by omega)]
    exact hn _ h
  · rw [List.getElem?_eq_none (l := ls') (by omega), List.getElem?_eq_none (l := ls) (by omega)]
theorem lvsOk_same {ls ls' : List Lf} (h : lvsOk [] ls) (hl : ls'.length = ls.length) (hn : ∀ i (h : i < ls'.length), ls'[i].name = (ls[i]'(by omega)).name) (hz : ∀ l ∈ ls', l = Lf.zero ∨ (1 ≤ l.name ∧ l.name ≤ 64)) : lvsOk [] ls' :=
  ⟨hz, fun _ _ _ h => (by cases h), fun i j hi hj hij hne => by
    rw [hn i hi] at hne ⊢
    rw [hn j hj]
    exact h.2.2 i j (by omega) (by omega) hij hne⟩
theorem Tr.Rt.turned {t : Tr} (h : t.Rt) {ls : List Lf} {ps : List Pn} (hl : ls.length = t.ls.length) (hn : ∀ i (h : i < ls.length), ls[i].name = (t.ls[i]'(by omega)).name) (hz : ∀ l ∈ ls, l = Lf.zero ∨ (1 ≤ l.name ∧ l.name ≤ 64))
    (hp : ps.length = t.ps.length) (hq : ∀ i (h : i < ps.length), ps[i] = t.ps[i]'(by omega) ∨ ps[i] = Pn.zero ∨ (ps[i].set = true ∧ ps[i].loose = [])) : Tr.Rt ⟨ls, ps⟩ := by
  obtain ⟨a, b⟩ := h.parts
  have hna := nameAt_eq hl hn
  have hsz : (⟨ls, ps⟩ : Tr).size = t.size := by unfold Tr.size; simp only; omega
  refine Tr.Rt.mk' ⟨by simp only; have := h.len.1; omega, by simp only; have := h.len.2; omega⟩ (lvsOk_same a hl hn hz) (fun i hi => ?_) ?_
  · have hi2 : i < ps.length := hi
    rw [hsz]
    rcases hq i hi2 with e | e | ⟨e1, e2⟩
    · show (ps[i].set = true ∨ ps[i].isZero) ∧ (∀ p ∈ ps[i].loose, hld t.size (2 * i + 1) p ∧ nameAt ls p ≠ 0) ∧ ps[i].loose.Pairwise (· < ·)
      rw [e]
      obtain ⟨c, d, f⟩ := b i (by omega)
      exact ⟨c, fun p hp => ⟨(d p hp).1, by rw [hna]; exact (d p hp).2⟩, f⟩
    · show (ps[i].set = true ∨ ps[i].isZero) ∧ (∀ p ∈ ps[i].loose, hld t.size (2 * i + 1) p ∧ nameAt ls p ≠ 0) ∧ ps[i].loose.Pairwise (· < ·)
      rw [e]
      exact ⟨.inr ⟨rfl, rfl, rfl, rfl⟩, fun _ h => (by cases h), .nil⟩
    · show (ps[i].set = true ∨ ps[i].isZero) ∧ (∀ p ∈ ps[i].loose, hld t.size (2 * i + 1) p ∧ nameAt ls p ≠ 0) ∧ ps[i].loose.Pairwise (· < ·)
      rw [e2]
      exact ⟨.inl e1, fun _ h => (by cases h), .nil⟩
  · rw [hsz]
    show ls = [] ∨ 0 < nameAt ls (t.size - 1)
    rw [hna]
    exact h.last.imp (fun e => List.eq_nil_of_length_eq_zero (by rw [hl, e]; rfl)) id
theorem key_leaves {t : Tr} (h : t.Rt) {p : Int} (hp : ¬ t.nobody p) (pub abv : H32) : ∀ l ∈ t.ls.modify p.toNat (·.key pub abv), l = Lf.zero ∨ (1 ≤ l.name ∧ l.name ≤ 64) := fun l hl => by
  obtain ⟨i, hi, rfl⟩ := List.getElem_of_mem hl
  have hi' : i < t.ls.length := by simpa using hi
  have h0 := leavesB_spec h.leaves _ (List.getElem_mem hi')
  rw [List.getElem_modify]
  split
  · rename_i e
    subst e
    obtain ⟨b0, b1, b2⟩ := Tr.body hp
    have hne : nameAt t.ls p ≠ 0 := fun e => hp (.inr e)
    rw [nameAt_at b0 b1] at hne
    refine .inr ?_
    rcases h0 with h0 | h0
    · rw [h0] at hne
      exact absurd rfl hne
    · exact h0
  · exact h0
theorem key_names {ls : List Lf} {k : Nat} {pub abv : H32} : ∀ i (h : i < (ls.modify k (·.key pub abv)).length), (ls.modify k (·.key pub abv))[i].name = (ls[i]'(by simpa using h)).name := fun i h => by
  rw [List.getElem_modify]
  split <;> rfl
theorem ren_rt {t : Tr} (h : t.Rt) (p : Int) (pub : H32) (h0 : (t.renR p pub).2 = 0) : (t.renR p pub).1.Rt := by
  unfold Tr.renR at h0 ⊢
  by_cases hp : t.nobody p
  · rw [if_pos hp] at h0
    cases h0
  · rw [if_neg hp]
    refine h.turned (List.length_modify ..) key_names (key_leaves h hp _ _) (by unfold blankR; simp) fun i hi => ?_
    have e : (blankR t.size p t.ps)[i]'hi = (if hld t.size (2 * i + 1) p then Pn.zero else t.ps[i]'(by simpa [blankR] using hi)) := List.getElem_mapIdx ..
    rw [e]
    split
    · exact .inr (.inl rfl)
    · exact .inl rfl
theorem hld_other {n n' x p : Int} (h : hld n x p) (ht : thr n' x) (hp : p < n') : hld n' x p := by
  obtain ⟨-, -, ht1⟩ := hld_rng h
  obtain ⟨-, -, -, -, hF, hT, -⟩ := bough_eq ht1
  obtain ⟨-, -, -, -, hF2, hT2, -⟩ := bough_eq ht
  unfold hld at h ⊢
  rw [← hF, ← hT] at h
  rw [← hF2, ← hT2]
  unfold pFrom pTo at *
  rw [if_pos ht1, if_pos ht1] at h
  rw [if_pos ht, if_pos ht]
  omega
theorem keepN_spec (ls : List Lf) : ∀ n : Nat, (∀ j, j < n → nameAt ls j ≠ 0 → j < keepN ls n) ∧ (keepN ls n = 0 ∨ nameAt ls ((keepN ls n : Int) - 1) ≠ 0)
  | 0 => ⟨fun j h => by omega, .inl rfl⟩
  | n + 1 => by
    obtain ⟨a, b⟩ := keepN_spec ls n
    unfold keepN
    by_cases h : nameAt ls n = 0
    · rw [if_pos h]
      refine ⟨fun j hj hn => ?_, b⟩
      rcases Nat.lt_or_ge j n with h1 | h1
      · exact a j h1 hn
      · obtain rfl : j = n := by omega
        exact absurd h hn
    · rw [if_neg h]
      refine ⟨fun j hj _ => hj, .inr ?_⟩
      rw [show (((n + 1 : Nat) : Int) - 1) = (n : Int) by omega]
      exact h
theorem nameAt_set {ls : List Lf} {k : Nat} {l : Lf} {p : Int} (h0 : 0 ≤ p) (hk : k < ls.length) : nameAt (ls.set k l) p = if p = k then l.name else nameAt ls p := by
  unfold nameAt
  by_cases e : p = k
  · rw [if_pos e]
    have : p.toNat = k := by omega
    rw [this, List.getElem?_set_self hk]
  · rw [if_neg e, List.getElem?_set_ne (by omega)]
theorem nameAt_take {ls : List Lf} {k : Nat} {p : Int} (h : p.toNat < k) : nameAt (ls.take k) p = nameAt ls p := by
  unfold nameAt
  rw [List.getElem?_take, if_pos h]
theorem name_nonneg {ls : List Lf} (h : ∀ l ∈ ls, l = Lf.zero ∨ (1 ≤ l.name ∧ l.name ≤ 64)) (p : Int) : 0 ≤ nameAt ls p := by
  unfold nameAt
  by_cases hp : p.toNat < ls.length
  · rw [List.getElem?_eq_getElem hp]
    rcases h _ (List.getElem_mem hp) with e | e
    · simp only
      rw [e]
      exact Int.le_refl 0
    · simp only
      omega
  · rw [List.getElem?_eq_none (by omega)]
    exact Int.le_refl 0
theorem rem_rt {t : Tr} (h : t.Rt) (p : Int) (h0 : (t.remR p).2 = 0) : (t.remR p).1.Rt := by
  unfold Tr.remR at h0 ⊢
  by_cases hp : t.nobody p
  · rw [if_pos hp] at h0
    cases h0
  rw [if_neg hp]
  obtain ⟨b0, b1, b2⟩ := Tr.body hp
  obtain ⟨a, b⟩ := h.parts
  have hlen := h.len
  have hts : t.size = t.ls.length := rfl
  show (cut (t.ls.set p.toNat Lf.zero) (blankR t.size p t.ps)).Rt
  have hz : ∀ l ∈ t.ls.set p.toNat Lf.zero, l = Lf.zero ∨ (1 ≤ l.name ∧ l.name ≤ 64) := fun l hl => by
    rcases List.mem_or_eq_of_mem_set hl with hl | rfl
    · exact a.1 l hl
    · exact .inl rfl
  have hna : ∀ x, 0 ≤ x → nameAt (t.ls.set p.toNat Lf.zero) x = if x = p then 0 else nameAt t.ls x := fun x hx => by
    rw [nameAt_set hx b1, Int.toNat_of_nonneg b0]
    rfl
  have hlv : lvsOk [] (t.ls.set p.toNat Lf.zero) := ⟨hz, fun _ _ _ h => (by cases h), fun i j hi hj hij hne => by
    have hi' : i < t.ls.length := by simpa using hi
    have hj' : j < t.ls.length := by simpa using hj
    simp only [List.getElem_set] at hne ⊢
    by_cases e1 : p.toNat = i
    · rw [if_pos e1] at hne
      exact absurd rfl hne
    · rw [if_neg e1] at hne ⊢
      by_cases e2 : p.toNat = j
      · rw [if_pos e2]
        exact hne
      · rw [if_neg e2]
        exact a.2.2 i j hi' hj' hij hne⟩
  have hll : (t.ls.set p.toNat Lf.zero).length = t.ls.length := List.length_set
  generalize hls : t.ls.set p.toNat Lf.zero = ls at *
  obtain ⟨ks, kl⟩ := keepN_spec ls ls.length
  have kle := keepN_le ls ls.length
  unfold cut
  generalize hn' : keepN ls ls.length = n' at *
  have e1 : (ls.take n').length = n' := by rw [List.length_take]; omega
  have e2 : ((blankR t.size p t.ps).take (n' - 1)).length = n' - 1 := by rw [List.length_take]; unfold blankR; rw [List.length_mapIdx]; omega
  have hsz : (⟨ls.take n', (blankR t.size p t.ps).take (n' - 1)⟩ : Tr).size = n' := by unfold Tr.size; simp only; omega
  refine Tr.Rt.mk' ⟨by simp only; omega, by simp only; omega⟩ ⟨fun l hl => hlv.1 l (List.mem_of_mem_take hl), fun _ _ _ h => (by cases h), fun i j hi hj hij hne => ?_⟩ (fun i hi => ?_) ?_
  · simp only [List.getElem_take] at hne ⊢
    exact hlv.2.2 i j (by simp only [List.length_take] at hi; omega) (by simp only [List.length_take] at hj; omega) hij hne
  · rw [hsz]
    have hi2 : i < n' - 1 := by simp only [e2] at hi; exact hi
    have hi3 : i < t.ps.length := by omega
    have hg : ((blankR t.size p t.ps).take (n' - 1))[i]'hi = (if hld t.size (2 * i + 1) p then Pn.zero else t.ps[i]) := by
      simp only [List.getElem_take]
      unfold blankR
      rw [List.getElem_mapIdx]
    show (((blankR t.size p t.ps).take (n' - 1))[i].set = true ∨ ((blankR t.size p t.ps).take (n' - 1))[i].isZero) ∧ (∀ q ∈ ((blankR t.size p t.ps).take (n' - 1))[i].loose, hld n' (2 * i + 1) q ∧ nameAt (ls.take n') q ≠ 0) ∧ ((blankR t.size p t.ps).take (n' - 1))[i].loose.Pairwise (· < ·)
    rw [hg]
    by_cases hh : hld t.size (2 * i + 1) p
    · rw [if_pos hh]
      exact ⟨.inr ⟨rfl, rfl, rfl, rfl⟩, fun _ h => (by cases h), .nil⟩
    · rw [if_neg hh]
      obtain ⟨c, d, f⟩ := b i hi3
      refine ⟨c, fun q hq => ?_, f⟩
      obtain ⟨d1, d2⟩ := d q hq
      obtain ⟨q0, q1, -⟩ := hld_rng d1
      have hqp : q ≠ p := fun e => hh (e ▸ d1)
      have hqn : nameAt ls q ≠ 0 := by
        rw [hna q q0, if_neg hqp]
        exact d2
      have hqk : q.toNat < n' := ks q.toNat (by omega) (by rw [Int.toNat_of_nonneg q0]; exact hqn)
      refine ⟨hld_other d1 ⟨by omega, by omega, by omega⟩ (by omega), ?_⟩
      rw [nameAt_take hqk]
      exact hqn
  · rw [hsz]
    show ls.take n' = [] ∨ 0 < nameAt (ls.take n') (n' - 1)
    rcases kl with kl | kl
    · refine .inl ?_
      rw [kl]
      rfl
    · by_cases hz0 : n' = 0
      · refine .inl ?_
        rw [hz0]
        rfl
      · refine .inr ?_
        rw [nameAt_take (by omega)]
        have := name_nonneg hz ((n' : Int) - 1)
        omega
end Go.Proofs.Ytopcnkejobomaaa
namespace Go.Proofs.Ytopcnkejobomaaa
open Go.RowKit Go.Lib
theorem place_none {t : Tr} {x : Int} (h1 : 1 ≤ x) (h : ¬ 0 ≤ t.place x) : ∀ l ∈ t.ls, l.name ≠ x := fun l hl e => by
  unfold Tr.place fix at h
  rw [if_neg (by omega)] at h
  by_cases hf : t.ls.findIdx (fun l => decide (l.name = x)) < t.ls.length
  · rw [if_pos hf] at h
    omega
  · have := List.findIdx_eq_length.1 (show t.ls.findIdx (fun l => decide (l.name = x)) = t.ls.length by have := List.findIdx_le_length (p := fun l : Lf => decide (l.name = x)) (xs := t.ls); omega) l hl
    simp only [decide_eq_false_iff_not] at this
    exact this e
theorem putL_mem {l : List Int} {x y : Int} : y ∈ putL l x ↔ y = x ∨ y ∈ l := by
  induction l with
  | nil => simp [putL_nil]
  | cons z r ih =>
    rw [putL_cons]
    split
    · simp only [List.mem_cons, ih]
      constructor
      · rintro (h | h | h)
        · exact .inr (.inl h)
        · exact .inl h
        · exact .inr (.inr h)
      · rintro (h | h | h)
        · exact .inr (.inl h)
        · exact .inl h
        · exact .inr (.inr h)
    · simp only [List.mem_cons]
theorem putL_sorted {l : List Int} {x : Int} (h : l.Pairwise (· < ·)) (hx : x ∉ l) : (putL l x).Pairwise (· < ·) := by
  induction l with
  | nil => simp [putL_nil]
  | cons z r ih =>
    obtain ⟨h1, h2⟩ := List.pairwise_cons.1 h
    simp only [List.mem_cons, not_or] at hx
    rw [putL_cons]
    by_cases hz : z ≤ x
    · rw [if_pos hz]
      refine List.pairwise_cons.2 ⟨fun y hy => ?_, ih h2 hx.2⟩
      rcases putL_mem.1 hy with rfl | hy
      · omega
      · exact h1 y hy
    · rw [if_neg hz]
      refine List.pairwise_cons.2 ⟨fun y hy => ?_, h⟩
      rcases List.mem_cons.1 hy with rfl | hy
      · omega
      · have := h1 y hy
        omega
theorem gap_blank (t : Tr) : nameAt t.ls t.gap = 0 := by
  unfold nameAt
  rw [Int.toNat_natCast]
  by_cases h : t.gap < t.ls.length
  · rw [List.getElem?_eq_getElem h]
    have := List.findIdx_getElem (p := fun l : Lf => decide (l.name = 0)) (xs := t.ls) (w := h)
    simp only [decide_eq_true_eq] at this
    exact this
  · rw [List.getElem?_eq_none (by omega)]
theorem addL_get {t : Tr} {l : Lf} {i : Nat} (hi : i < (addL t l).length) : (addL t l)[i] = l ∧ i = t.gap ∨ ∃ h : i < t.ls.length, (addL t l)[i] = t.ls[i] ∧ i ≠ t.gap := by
  have hs := gapM_set t l
  have hg := gapM_len t l
  have hgl := t.gap_le
  have e : (addL t l)[i]'hi = ((gapM t l).set t.gap l)[i]'(by rw [hs]; exact hi) := rfl
  rw [e, List.getElem_set]
  by_cases h : t.gap = i
  · rw [if_pos h]
    exact .inl ⟨rfl, h.symm⟩
  · rw [if_neg h]
    have hl : i < t.ls.length := by
      rw [addL_len] at hi
      split at hi <;> omega
    refine .inr ⟨hl, ?_, fun e => h e.symm⟩
    unfold gapM
    split
    · rw [List.getElem_append_left hl]
    · rfl
theorem addL_name {t : Tr} {l : Lf} {x : Int} (h0 : 0 ≤ x) : nameAt (addL t l) x = if x = t.gap then l.name else nameAt t.ls x := by
  have hgl := t.gap_le
  have hll := addL_len t l
  by_cases hx : x.toNat < (addL t l).length
  · rw [nameAt_at h0 hx]
    rcases addL_get hx with ⟨e, e2⟩ | ⟨h, e, e2⟩
    · rw [e, if_pos (by omega)]
    · rw [e, if_neg (by omega), nameAt_at h0 h]
  · have hx2 : ¬ x.toNat < t.ls.length := by split at hll <;> omega
    rw [if_neg (by split at hll <;> omega)]
    unfold nameAt
    rw [List.getElem?_eq_none (l := addL t l) (by omega), List.getElem?_eq_none (l := t.ls) (by omega)]
theorem add_rt {t : Tr} (h : t.Rt) (l : Lf) (h0 : (t.addR l).2.2 = 0) : (t.addR l).1.Rt := by
  unfold Tr.addR at h0 ⊢
  by_cases h1 : l.name < 1 ∨ 64 < l.name
  · rw [if_pos h1] at h0
    cases h0
  rw [if_neg h1] at h0 ⊢
  by_cases h2 : 0 ≤ t.place l.name
  · rw [if_pos h2] at h0
    cases h0
  rw [if_neg h2] at h0 ⊢
  by_cases h3 : t.gap = 64
  · rw [if_pos h3] at h0
    cases h0
  rw [if_neg h3]
  obtain ⟨a, b⟩ := h.parts
  have hlen := h.len
  have hgl := t.gap_le
  have hpn := place_none (by omega) h2
  have hal := addPs_len h l
  have hll := addL_len t l
  have hgb := gap_blank t
  have hts : t.size = t.ls.length := rfl
  show Tr.Rt ⟨addL t l, (addPs t).mapIdx (addF (addL t l).length t.gap)⟩
  have hml : ((addPs t).mapIdx (addF (addL t l).length t.gap)).length = (addPs t).length := by simp
  have hsz : (⟨addL t l, (addPs t).mapIdx (addF (addL t l).length t.gap)⟩ : Tr).size = (addL t l).length := rfl
  have hz : ∀ x ∈ addL t l, x = Lf.zero ∨ (1 ≤ x.name ∧ x.name ≤ 64) := fun x hx => by
    obtain ⟨i, hi, rfl⟩ := List.getElem_of_mem hx
    rcases addL_get hi with ⟨e, -⟩ | ⟨hi2, e, -⟩
    · rw [e]
      exact .inr (by omega)
    · rw [e]
      exact a.1 _ (List.getElem_mem hi2)
  refine Tr.Rt.mk' ⟨by simp only; split at hll <;> omega, by simp only; omega⟩ ⟨hz, fun _ _ _ h => (by cases h), fun i j hi hj hij hne => ?_⟩ (fun i hi => ?_) ?_
  · have hi' : i < (addL t l).length := hi
    have hj' : j < (addL t l).length := hj
    show (addL t l)[i].name ≠ (addL t l)[j].name
    have hne : (addL t l)[i].name ≠ 0 := hne
    rcases addL_get hi' with ⟨e, ei⟩ | ⟨hi2, e, ei⟩
    · rcases addL_get hj' with ⟨f, fj⟩ | ⟨hj2, f, fj⟩
      · omega
      · rw [e, f]
        exact fun k => hpn _ (List.getElem_mem hj2) k.symm
    · rcases addL_get hj' with ⟨f, fj⟩ | ⟨hj2, f, fj⟩
      · rw [e, f]
        exact hpn _ (List.getElem_mem hi2)
      · rw [e] at hne ⊢
        rw [f]
        exact a.2.2 i j hi2 hj2 hij hne
  · rw [hsz]
    have hi2 : i < (addPs t).length := by rw [← hml]; exact hi
    have hg : ((addPs t).mapIdx (addF (addL t l).length t.gap))[i]'hi = addF (addL t l).length t.gap i (addPs t)[i] := List.getElem_mapIdx ..
    show (((addPs t).mapIdx (addF (addL t l).length t.gap))[i].set = true ∨ ((addPs t).mapIdx (addF (addL t l).length t.gap))[i].isZero) ∧ (∀ q ∈ ((addPs t).mapIdx (addF (addL t l).length t.gap))[i].loose, hld (addL t l).length (2 * i + 1) q ∧ nameAt (addL t l) q ≠ 0) ∧ ((addPs t).mapIdx (addF (addL t l).length t.gap))[i].loose.Pairwise (· < ·)
    rw [hg]
    have hn64 : (addL t l).length ≤ 64 := by split at hll <;> omega
    have hthr : thr (addL t l).length (2 * i + 1) := ⟨⟨by omega, by omega⟩, by omega, by omega⟩
    have hp0 : ((addPs t)[i].set = true ∨ (addPs t)[i].isZero) ∧ (∀ q ∈ (addPs t)[i].loose, hld (addL t l).length (2 * i + 1) q ∧ nameAt (addL t l) q ≠ 0 ∧ q ≠ t.gap) ∧ (addPs t)[i].loose.Pairwise (· < ·) := by
      have hcase : (∃ h : i < t.ps.length, (addPs t)[i] = t.ps[i]) ∨ (addPs t)[i] = Pn.zero := by
        unfold addPs at hi2 ⊢
        by_cases hc : t.gap = t.ls.length ∧ 0 < t.gap
        · simp only [if_pos hc] at hi2 ⊢
          by_cases hi3 : i < t.ps.length
          · exact .inl ⟨hi3, List.getElem_append_left hi3⟩
          · refine .inr ?_
            rw [List.getElem_append_right (by omega)]
            simp
        · simp only [if_neg hc] at hi2 ⊢
          exact .inl ⟨hi2, trivial⟩
      rcases hcase with ⟨hi3, e⟩ | e
      · rw [e]
        obtain ⟨c, d, f⟩ := b i hi3
        refine ⟨c, fun q hq => ?_, f⟩
        obtain ⟨d1, d2⟩ := d q hq
        obtain ⟨q0, q1, -⟩ := hld_rng d1
        have hqg : q ≠ t.gap := fun e => by
          rw [e] at d2
          exact d2 hgb
        refine ⟨hld_other d1 hthr (by split at hll <;> omega), ?_, hqg⟩
        rw [addL_name q0, if_neg hqg]
        exact d2
      · rw [e]
        exact ⟨.inr ⟨rfl, rfl, rfl, rfl⟩, fun _ h => (by cases h), .nil⟩
    obtain ⟨c, d, f⟩ := hp0
    unfold addF
    by_cases hc : (addPs t)[i].set = true ∧ hld (addL t l).length (2 * i + 1) t.gap
    · rw [if_pos hc]
      refine ⟨.inl hc.1, fun q hq => ?_, putL_sorted f fun hm => (d _ hm).2.2 rfl⟩
      rcases putL_mem.1 hq with rfl | hq
      · refine ⟨hc.2, ?_⟩
        rw [addL_name (by omega), if_pos rfl]
        omega
      · exact ⟨(d q hq).1, (d q hq).2.1⟩
    · rw [if_neg hc]
      exact ⟨c, fun q hq => ⟨(d q hq).1, (d q hq).2.1⟩, f⟩
  · rw [hsz]
    show addL t l = [] ∨ 0 < nameAt (addL t l) ((addL t l).length - 1)
    refine .inr ?_
    by_cases hg : t.gap = t.ls.length
    · rw [if_pos hg] at hll
      rw [addL_name (by omega), if_pos (by omega)]
      omega
    · rw [if_neg hg] at hll
      have hne : t.ls ≠ [] := fun e => by rw [e] at hgl hg; simp at hgl hg; omega
      have hl := h.last.resolve_left hne
      have hgne : ((addL t l).length : Int) - 1 ≠ t.gap := fun e => by
        rw [hts, show (t.ls.length : Int) - 1 = t.gap by omega, hgb] at hl
        omega
      rw [addL_name (by omega), if_neg hgne, show ((addL t l).length : Int) - 1 = t.size - 1 by rw [hll, hts]]
      exact hl
end Go.Proofs.Ytopcnkejobomaaa
namespace Go.Proofs.Ytopcnkejobomaaa
open Go.RowKit Go.Lib
theorem plc_some {t : Tr} {x : Int} (h : 0 ≤ t.place x) : 1 ≤ x ∧ ∃ i : Nat, t.place x = i ∧ ∃ hi : i < t.ls.length, t.ls[i].name = x := by
  have h1 : ¬ x < 1 := fun c => by
    unfold Tr.place at h
    rw [if_pos c] at h
    omega
  have e : t.place x = fix (fun l => decide (l.name = x)) t.ls := if_neg h1
  rw [e] at h ⊢
  unfold fix at h ⊢
  by_cases h2 : t.ls.findIdx (fun l => decide (l.name = x)) < t.ls.length
  · rw [if_pos h2]
    refine ⟨by omega, _, rfl, h2, ?_⟩
    simpa using List.findIdx_getElem (w := h2)
  · rw [if_neg h2] at h
    omega
theorem plc_iff {t : Tr} {x : Int} : 0 ≤ t.place x ↔ 1 ≤ x ∧ ∃ l ∈ t.ls, l.name = x := by
  constructor
  · intro h
    obtain ⟨a, i, -, hi, e⟩ := plc_some h
    exact ⟨a, _, List.getElem_mem hi, e⟩
  · rintro ⟨a, l, hl, e⟩
    exact Decidable.byContradiction fun hn => place_none a hn l hl e
theorem plc_at {t : Tr} (h : t.Rt) {i : Nat} (hi : i < t.ls.length) (hn : t.ls[i].name ≠ 0) : t.place t.ls[i].name = i := by
  obtain ⟨a, -⟩ := h.parts
  have hx : 1 ≤ t.ls[i].name := by
    rcases a.1 _ (List.getElem_mem hi) with e | e
    · rw [e] at hn
      exact absurd rfl hn
    · omega
  obtain ⟨-, j, e, hj, e2⟩ := plc_some (plc_iff.2 ⟨hx, _, List.getElem_mem hi, rfl⟩)
  rw [e]
  rcases Nat.lt_trichotomy i j with c | c | c
  · exact absurd e2.symm (a.2.2 i j hi hj c hn)
  · rw [c]
  · exact absurd e2 (a.2.2 j i hj hi c (by rw [e2]; exact hn))
theorem add_parts {t : Tr} {l : Lf} (h0 : (t.addR l).2.2 = 0) : (1 ≤ l.name ∧ l.name ≤ 64) ∧ ¬ 0 ≤ t.place l.name ∧ (t.addR l).1.ls = addL t l := by
  unfold Tr.addR at h0 ⊢
  by_cases h1 : l.name < 1 ∨ 64 < l.name
  · rw [if_pos h1] at h0
    cases h0
  rw [if_neg h1] at h0 ⊢
  by_cases h2 : 0 ≤ t.place l.name
  · rw [if_pos h2] at h0
    cases h0
  rw [if_neg h2] at h0 ⊢
  by_cases h3 : t.gap = 64
  · rw [if_pos h3] at h0
    cases h0
  rw [if_neg h3]
  exact ⟨by omega, h2, rfl⟩
theorem addL_mem {t : Tr} {l m : Lf} (hm : m ∈ addL t l) : m = l ∨ m ∈ t.ls := by
  obtain ⟨i, hi, rfl⟩ := List.getElem_of_mem hm
  rcases addL_get hi with ⟨e, -⟩ | ⟨h, e, -⟩
  · exact .inl e
  · exact .inr (e ▸ List.getElem_mem h)
theorem addL_self (t : Tr) (l : Lf) : l ∈ addL t l := by
  have hgl := t.gap_le
  have hll := addL_len t l
  have hi : t.gap < (addL t l).length := by split at hll <;> omega
  rcases addL_get hi with ⟨e, -⟩ | ⟨h, e, e2⟩
  · have h2 := List.getElem_mem hi
    rw [e] at h2
    exact h2
  · exact absurd rfl e2
theorem addL_old {t : Tr} {l m : Lf} (hm : m ∈ t.ls) (hn : m.name ≠ 0) : m ∈ addL t l := by
  obtain ⟨i, hi, rfl⟩ := List.getElem_of_mem hm
  have hll := addL_len t l
  have hi2 : i < (addL t l).length := by split at hll <;> omega
  have hg : i ≠ t.gap := fun e => hn (by
    have := gap_blank t
    rw [← e, nameAt_get hi] at this
    exact this)
  rcases addL_get hi2 with ⟨-, e⟩ | ⟨h, e, e2⟩
  · exact absurd e hg
  · exact e ▸ List.getElem_mem hi2
theorem add_plc {t : Tr} {l : Lf} (h0 : (t.addR l).2.2 = 0) (x : Int) : 0 ≤ (t.addR l).1.place x ↔ x = l.name ∨ 0 ≤ t.place x := by
  obtain ⟨h1, -, h3⟩ := add_parts h0
  rw [plc_iff, plc_iff, h3]
  constructor
  · rintro ⟨a, m, hm, e⟩
    rcases addL_mem hm with rfl | hm
    · exact .inl e.symm
    · exact .inr ⟨a, m, hm, e⟩
  · rintro (rfl | ⟨a, m, hm, e⟩)
    · exact ⟨h1.1, l, addL_self t l, rfl⟩
    · exact ⟨a, m, addL_old hm (by omega), e⟩
theorem key_mem {ls : List Lf} {k : Nat} {pub abv : H32} {m : Lf} (hm : m ∈ ls.modify k (·.key pub abv)) : ∃ m' ∈ ls, m'.name = m.name := by
  obtain ⟨i, hi, rfl⟩ := List.getElem_of_mem hm
  exact ⟨_, List.getElem_mem (by simpa using hi), (key_names i hi).symm⟩
theorem key_mem2 {ls : List Lf} {k : Nat} {pub abv : H32} {m : Lf} (hm : m ∈ ls) : ∃ m' ∈ ls.modify k (·.key pub abv), m'.name = m.name := by
  obtain ⟨i, hi, rfl⟩ := List.getElem_of_mem hm
  have hi2 : i < (ls.modify k (·.key pub abv)).length := by simpa using hi
  exact ⟨_, List.getElem_mem hi2, key_names i hi2⟩
theorem keyed_plc {t : Tr} {k : Nat} {pub abv : H32} {ps : List Pn} (x : Int) : 0 ≤ (⟨t.ls.modify k (·.key pub abv), ps⟩ : Tr).place x ↔ 0 ≤ t.place x := by
  rw [plc_iff, plc_iff]
  constructor
  · rintro ⟨a, m, hm, e⟩
    obtain ⟨m', hm', e'⟩ := key_mem hm
    exact ⟨a, m', hm', by omega⟩
  · rintro ⟨a, m, hm, e⟩
    obtain ⟨m', hm', e'⟩ := key_mem2 (k := k) (pub := pub) (abv := abv) hm
    exact ⟨a, m', hm', by omega⟩
theorem ren_parts {t : Tr} {p : Int} {pub : H32} (h0 : (t.renR p pub).2 = 0) : ¬ t.nobody p ∧ (t.renR p pub).1 = ⟨t.ls.modify p.toNat (·.key pub hzero), blankR t.size p t.ps⟩ := by
  unfold Tr.renR at h0 ⊢
  by_cases hp : t.nobody p
  · rw [if_pos hp] at h0
    cases h0
  · rw [if_neg hp]
    exact ⟨hp, rfl⟩
theorem ren_plc {t : Tr} {p : Int} {pub : H32} (h0 : (t.renR p pub).2 = 0) (x : Int) : 0 ≤ (t.renR p pub).1.place x ↔ 0 ≤ t.place x := by
  rw [(ren_parts h0).2]
  exact keyed_plc x
theorem rem_parts {t : Tr} {p : Int} (h0 : (t.remR p).2 = 0) : ¬ t.nobody p ∧ (t.remR p).1.ls = (t.ls.set p.toNat Lf.zero).take (keepN (t.ls.set p.toNat Lf.zero) (t.ls.set p.toNat Lf.zero).length) := by
  unfold Tr.remR at h0 ⊢
  by_cases hp : t.nobody p
  · rw [if_pos hp] at h0
    cases h0
  · rw [if_neg hp]
    exact ⟨hp, rfl⟩
theorem rem_mem {t : Tr} {p : Int} (h0 : (t.remR p).2 = 0) {m : Lf} (hn : m.name ≠ 0) : m ∈ (t.remR p).1.ls ↔ ∃ (i : Nat) (hi : i < t.ls.length), (i : Int) ≠ p ∧ t.ls[i] = m := by
  obtain ⟨hp, e⟩ := rem_parts h0
  obtain ⟨b0, b1, b2⟩ := Tr.body hp
  rw [e]
  constructor
  · intro h
    obtain ⟨i, hi, rfl⟩ := List.getElem_of_mem (List.mem_of_mem_take h)
    have hi' : i < t.ls.length := by simpa using hi
    rw [List.getElem_set] at hn ⊢
    by_cases c : p.toNat = i
    · rw [if_pos c] at hn
      exact absurd rfl hn
    · rw [if_neg c]
      exact ⟨i, hi', by omega, rfl⟩
  · rintro ⟨i, hi, hne, rfl⟩
    obtain ⟨ks, -⟩ := keepN_spec (t.ls.set p.toNat Lf.zero) (t.ls.set p.toNat Lf.zero).length
    have hi2 : i < (t.ls.set p.toNat Lf.zero).length := by simpa using hi
    have hg : (t.ls.set p.toNat Lf.zero)[i] = t.ls[i] := by
      rw [List.getElem_set, if_neg (by omega)]
    have hk := ks i hi2 (by rw [nameAt_get hi2, hg]; exact hn)
    rw [← hg]
    exact List.mem_take_iff_getElem.2 ⟨i, by omega, by simp⟩
theorem rem_plc {t : Tr} (h : t.Rt) {p : Int} (h0 : (t.remR p).2 = 0) (x : Int) : 0 ≤ (t.remR p).1.place x ↔ x ≠ nameAt t.ls p ∧ 0 ≤ t.place x := by
  obtain ⟨hp, -⟩ := rem_parts h0
  obtain ⟨b0, b1, b2⟩ := Tr.body hp
  obtain ⟨a, -⟩ := h.parts
  rw [plc_iff, plc_iff]
  constructor
  · rintro ⟨c, m, hm, rfl⟩
    obtain ⟨i, hi, hne, rfl⟩ := (rem_mem h0 (by omega)).1 hm
    refine ⟨fun e => ?_, c, _, List.getElem_mem hi, rfl⟩
    have e1 := plc_at h hi (by omega)
    have e2 := plc_at h b1 (by rw [nameAt_at b0 b1] at e; omega)
    rw [nameAt_at b0 b1] at e
    rw [← e, e1] at e2
    omega
  · rintro ⟨hne, c, m, hm, rfl⟩
    obtain ⟨i, hi, rfl⟩ := List.getElem_of_mem hm
    refine ⟨c, _, (rem_mem h0 (by omega)).2 ⟨i, hi, fun e => hne ?_, rfl⟩, rfl⟩
    rw [← e, nameAt_get hi]
end Go.Proofs.Ytopcnkejobomaaa
namespace Go.Proofs.Ytopcnkejobomaaa
open Go.RowKit Go.Lib
section
variable {H : Hp} {w0 w : World} {L R : List Res} {A B K D : Option Addr} {a b c kc : Nat} {t : Tr} {qs ps : List (List Fd)}
theorem rdirect_any (n l : Int) (hn : n ≤ 1000000) (hf : Fz H w) : Calls Try.prog 58 #[.int .i64 n, .int .i64 l] w (Outp H w (fun H' v => ∃ A cap, v = .slice A (dirL n l).length cap ∧ Sl H' 1 A (ints8 (dirL n l)))) := by
  by_cases hl : 0 ≤ l ∧ l < n
  · exact rdirect_out n l (by omega) hf
  · have hM := Mem.start hf
    have he : dirL n l = [] := if_neg hl
    rw [he]
    refine C_bevyref07_Direct ?_
    unfold F_bevyref07_Direct
    refine ⟨fun v w' => v = .bool true ∧ hM.now w', ?_, ?_⟩
    · ((with_reducible (refine mop_cS trivial ?_ ?_)))
      · intro h
        ((with_reducible ((iterate 3 refine mguard_n1 ?_); refine mop_c trivial ?_; (iterate 3 refine mguard_n1 ?_); refine mop_c trivial ?_)))
        exact ⟨rfl, hM⟩
      · intro h
        ((with_reducible (refine mguard_yes ?_; refine mop_c trivial ?_; refine mguard_yes ?_; refine mop_c trivial ?_; refine mguard_yes ?_; refine mop_cT trivial ?_ ?_)); (focus (first | assumption | omega | with_reducible rfl | exact fun h => Bool.noConfusion h)); (with_reducible (refine mop_c trivial ?_; (iterate 3 refine mguard_n1 ?_); refine mop_c trivial ?_)))
        exact ⟨rfl, hM⟩
    rintro v u w2 ⟨rfl, hM⟩
    ((with_reducible (refine mif_true ?_)))
    exact hM.out (Le.refl _ _) ⟨none, 0, rfl, Sl.nil _ _ _⟩
end
end Go.Proofs.Ytopcnkejobomaaa
namespace Go.Proofs.Ytopcnkejobomaaa
open Go.RowKit Go.Lib
abbrev keyH (b : Int) (i : Nat) : H32 := hset (hset hzero 0 b) 1 ((i : Int) % 256)
def keyL (n : Nat) (b : Int) : List H32 := (List.range n).map (keyH b) ++ if 200 ≤ b then [hset hzero 0 b] else []
theorem keyL_len (n : Nat) (b : Int) : (keyL n b).length ≤ n + 1 := by
  unfold keyL
  split <;> simp
section
variable {H : Hp} {w0 w : World} {L R : List Res} {A B : Option Addr} {a b : Nat} {t : Tr} {v : Value}
theorem path_c (pl : Int) (pub : H32) (keys : List H32) {K : Option Addr} {kc : Nat} (hkl : keys.length ≤ 1000000) (hK : Sl H 32 K (kfds keys)) (h : TrF H v t) (hf : Fz H w) : Calls Try.prog 23 #[v, .int .i64 pl, ha pub, .slice K keys.length kc] w (Outp H w fun H' r => ∃ v1, r = .tuple #[v1, .int .i64 (t.pathP pl pub keys).2] ∧ TrF H' v1 (t.pathP pl pub keys).1) := by
  obtain ⟨A, a, B, b, q, rfl, h1, h2, h3⟩ := h.ex
  exact path_q pl pub keys (fun H' v1 r e k => by rw [e]; exact ⟨v1, rfl, k⟩) hkl hK h1 h2 h3 h.len.1 h.len.2 hf
theorem keys_ok (pl : Int) (y : Int) (hy : 0 ≤ y ∧ y < 256) (hl : t.ls.length ≤ 1000) (h : TrF H v t) (hf : Fz H w) :
    Calls Try.prog 22 #[v, .int .i64 pl, .int .u8 y] w (Outp H w fun H' r => ∃ K kc, r = .slice K (keyL (dirL t.size pl).length y).length kc ∧ Sl H' 32 K (kfds (keyL (dirL t.size pl).length y))) := by
  obtain ⟨A, a, B, b, q, rfl, -⟩ := h.ex
  obtain ⟨w1, hw1⟩ : ∃ w1, w1 = w := ⟨_, rfl⟩
  rw [← hw1]
  rw [← hw1] at hf
  have hM := Mem.start hf
  have hts : t.size = t.ls.length := rfl
  have hdl := dirL_len t.size pl
  refine C_bevylaw08_keys ?_
  unfold F_bevylaw08_keys
  ((with_reducible (refine mm_box hM ?_; clear hM; intro _ _ hM)))
  rename_i g1 _
  have h0 : Mem H w1 (rowR 34 32 none 0 0 (kfds ((List.range 0).map (keyH y))) :: _) _ := hM.row0 34 32
  refine ⟨fun v u w' => ∃ (i : Nat) (K : Option Addr) (kc : Nat) (H2 : Hp), v = .slice K i kc ∧ u = .int .i64 i ∧ i ≤ (dirL t.size pl).length ∧ Le w1 H H2 ∧ Mem H2 w1 [rowR 34 32 K i kc (kfds ((List.range i).map (keyH y))), fb g1 27 (tfd A t.ls.length a B t.ps.length b)] w', fun _ u _ => match u with | .int _ k => (dirL t.size pl).length - k.toNat | _ => 0, ⟨0, none, 0, H, rfl, rfl, by omega, Le.refl _ _, h0⟩, ?_⟩
  clear hM h0
  rintro v u u2 w3 ⟨i, K, kc, H2, rfl, rfl, hi, l2, hM⟩
  ((with_reducible (refine mop_c trivial ?_; refine mm_ld hM ?_; refine mop_c trivial ?_)))
  refine mm_call hM (rdirect_any t.ls.length pl (by omega) hM.fz) ?_
  rintro H3 v w4 l3 hM ⟨D, c, rfl, -⟩
  rw [← hts]
  ((with_reducible (refine mop_c trivial ?_)))
  ((with_reducible (refine mop_cS trivial ?_ ?_)))
  · intro hlt
    have hi2 : i < (dirL t.size pl).length := by omega
    ((with_reducible (refine mif_true ?_; refine mop_c trivial ?_; refine mop_c ?_ ?_)); (focus (simp only [and_true]; omega)); (with_reducible (refine mm_bsl hM ?_ ?_ ?_)); (focus rfl); (focus (constructor <;> simp)); (with_reducible (clear hM; intro _ _ hM; refine mm_appo hM ?_ ?_)); (focus omega); (with_reducible (clear hM; intro _ _ _ hM; refine mop_c ?_ ?_)); (focus omega))
    rename_i A3 c3 _
    have hM : Mem H3 w1 [rowR 34 32 A3 (i + 1) c3 (kfds ((List.range i).map (keyH y)) ++ [[Fd.arr 32 (u8s (keyH y i).1)]]), fb g1 27 (tfd A t.ls.length a B t.ps.length b)] _ := hM.sub
    have e : kfds ((List.range i).map (keyH y)) ++ [[Fd.arr 32 (u8s (keyH y i).1)]] = kfds ((List.range (i + 1)).map (keyH y)) := by
      rw [List.range_succ, List.map_append]
      simp [kfds]
    rw [e] at hM
    exact ⟨⟨i + 1, A3, c3, H3, rfl, rfl, by omega, l2.trans l3, hM⟩, by simp only; omega⟩
  · intro hge
    obtain rfl : i = (dirL t.size pl).length := by omega
    ((with_reducible (refine mif_false ?_)))
    refine ⟨fun v w' => ∃ K kc, v = .slice K (keyL (dirL t.size pl).length y).length kc ∧ Mem H3 w1 [rowR 34 32 K (keyL (dirL t.size pl).length y).length kc (kfds (keyL (dirL t.size pl).length y))] w', ?_, ?_⟩
    · ((with_reducible (refine mop_cS trivial ?_ ?_)))
      · intro h200
        ((with_reducible (refine mif_true ?_; refine mop_c ?_ ?_)); (focus (simp only [and_true]; omega)); (with_reducible (refine mm_bsl hM ?_ ?_ ?_)); (focus rfl); (focus (constructor <;> simp)); (with_reducible (clear hM; intro _ _ hM; refine mm_appo hM ?_ ?_)); (focus omega); (with_reducible (clear hM; intro _ _ _ hM)))
        rename_i A3 c3 _
        have hM : Mem H3 w1 [rowR 34 32 A3 ((dirL t.size pl).length + 1) c3 (kfds ((List.range (dirL t.size pl).length).map (keyH y)) ++ [[Fd.arr 32 (u8s (hset hzero 0 y).1)]])] _ := hM.sub
        have e : keyL (dirL t.size pl).length y = (List.range (dirL t.size pl).length).map (keyH y) ++ [hset hzero 0 y] := by
          unfold keyL
          rw [if_pos h200]
        have e2 : (keyL (dirL t.size pl).length y).length = (dirL t.size pl).length + 1 := by rw [e]; simp
        have e3 : kfds ((List.range (dirL t.size pl).length).map (keyH y)) ++ [[Fd.arr 32 (u8s (hset hzero 0 y).1)]] = kfds (keyL (dirL t.size pl).length y) := by
          rw [e]
          simp [kfds]
        rw [e3, ← e2] at hM
        rw [← e2]
        exact ⟨A3, c3, rfl, hM⟩
      · intro h200
        ((with_reducible (refine mif_false ?_)))
        have e : keyL (dirL t.size pl).length y = (List.range (dirL t.size pl).length).map (keyH y) := by
          unfold keyL
          rw [if_neg h200]
          simp
        have e2 : (keyL (dirL t.size pl).length y).length = (dirL t.size pl).length := by rw [e]; simp
        rw [← e] at hM
        rw [e2]
        exact ⟨K, kc, rfl, hM.sub⟩
    clear hM
    rintro v u5 w5 ⟨K', kc', rfl, hM⟩
    obtain ⟨H4, l4, hM, hs, -⟩ := hM.fz0
    exact hM.out ((l2.trans l3).trans l4) ⟨K', kc', rfl, hs⟩
end
end Go.Proofs.Ytopcnkejobomaaa
namespace Go.Proofs.Ytopcnkejobomaaa
open Go.RowKit Go.Lib
theorem path_rt {t : Tr} (h : t.Rt) (p : Int) (pub : H32) (keys : List H32) (h0 : (t.pathR p pub keys).2 = 0) : (t.pathR p pub keys).1.Rt := by
  unfold Tr.pathR at h0 ⊢
  by_cases hp : t.nobody p
  · rw [if_pos hp] at h0
    cases h0
  · rw [if_neg hp] at h0 ⊢
    by_cases hk : (dirL t.size p).length ≠ keys.length
    · rw [if_pos hk] at h0
      cases h0
    · rw [if_neg hk]
      refine h.turned (List.length_modify ..) key_names (key_leaves h hp _ _) pthPs_len fun i hi => ?_
      rcases pthPs_get hi with e | ⟨j, -, -, e⟩
      · exact .inl e
      · refine .inr (.inr ?_)
        rw [e]
        exact ⟨rfl, rfl⟩
end Go.Proofs.Ytopcnkejobomaaa
namespace Go.Proofs.Ytopcnkejobomaaa
open Go.RowKit Go.Lib
def memV (t : Tr) : List Value := (List.range 65).map fun k : Nat => .bool (decide (0 ≤ t.place (k : Int)))
theorem memV_len (t : Tr) : (memV t).length = 65 := by simp [memV]
theorem memV_none : memV Tr.none = List.replicate 65 (.bool false) := by kernel_rfl
theorem memV_at {t : Tr} {x : Int} (h : 0 ≤ x ∧ x ≤ 64) : (memV t)[x.toNat]? = some (.bool (decide (0 ≤ t.place x))) := by
  unfold memV
  rw [List.getElem?_map, List.getElem?_range (by omega)]
  simp only [Option.map_some]
  rw [Int.toNat_of_nonneg h.1]
theorem memV_eq {t r : Tr} (h : ∀ x : Int, 1 ≤ x → x ≤ 64 → (0 ≤ r.place x ↔ 0 ≤ t.place x)) : memV r = memV t := by
  unfold memV
  refine List.map_congr_left fun k hk => ?_
  have hk := List.mem_range.1 hk
  rw [Value.bool.injEq, decide_eq_decide]
  by_cases c : 1 ≤ (k : Int)
  · exact h k c (by omega)
  · have e : ∀ u : Tr, u.place (k : Int) = -1 := fun u => if_pos (by omega)
    rw [e, e]
theorem memV_set {t r : Tr} {y : Int} {b : Bool} (hy : 1 ≤ y ∧ y ≤ 64) (hb : 0 ≤ r.place y ↔ b = true) (h : ∀ x : Int, 1 ≤ x → x ≤ 64 → x ≠ y → (0 ≤ r.place x ↔ 0 ≤ t.place x)) : (memV t).set y.toNat (.bool b) = memV r := by
  refine List.ext_getElem (by rw [List.length_set, memV_len, memV_len]) fun i h1 h2 => ?_
  rw [memV_len] at h2
  rw [List.getElem_set]
  have hg : ∀ (u : Tr) (hu : i < (memV u).length), (memV u)[i] = .bool (decide (0 ≤ u.place (i : Int))) := fun u hu => by simp [memV]
  rw [hg r]
  by_cases c : y.toNat = i
  · rw [if_pos c, Value.bool.injEq]
    have e : (i : Int) = y := by omega
    rw [e]
    cases b
    · exact (decide_eq_false fun k => by have := hb.1 k; cases this).symm
    · exact (decide_eq_true (hb.2 rfl)).symm
  · rw [if_neg c, hg t, Value.bool.injEq, decide_eq_decide]
    by_cases c2 : 1 ≤ (i : Int)
    · exact (h i c2 (by omega) (by omega)).symm
    · have e : ∀ u : Tr, u.place (i : Int) = -1 := fun u => if_pos (by omega)
      rw [e, e]
theorem memV_add {t : Tr} {l : Lf} (h0 : (t.addR l).2.2 = 0) : (memV t).set l.name.toNat (.bool true) = memV (t.addR l).1 := by
  obtain ⟨h1, -, -⟩ := add_parts h0
  exact memV_set h1 ⟨fun _ => rfl, fun _ => (add_plc h0 _).2 (.inl rfl)⟩ fun x _ _ hx => by
    rw [add_plc h0]
    exact ⟨fun k => k.resolve_left hx, .inr⟩
theorem memV_ren {t : Tr} {p : Int} {pub : H32} (h0 : (t.renR p pub).2 = 0) : memV (t.renR p pub).1 = memV t := memV_eq fun x _ _ => ren_plc h0 x
theorem memV_rem {t : Tr} (h : t.Rt) {p : Int} (h0 : (t.remR p).2 = 0) : (1 ≤ nameAt t.ls p ∧ nameAt t.ls p ≤ 64) ∧ (memV t).set (nameAt t.ls p).toNat (.bool false) = memV (t.remR p).1 := by
  obtain ⟨hb, -⟩ := rem_parts h0
  obtain ⟨b0, b1, b2⟩ := Tr.body hb
  have hn : 1 ≤ nameAt t.ls p ∧ nameAt t.ls p ≤ 64 := by
    have hne : nameAt t.ls p ≠ 0 := fun e => hb (.inr e)
    rw [nameAt_at b0 b1] at hne ⊢
    rcases h.parts.1.1 _ (List.getElem_mem b1) with e | e
    · rw [e] at hne
      exact absurd rfl hne
    · exact e
  refine ⟨hn, memV_set hn ⟨fun k => absurd rfl ((rem_plc h h0 _).1 k).1, fun k => by cases k⟩ fun x _ _ hx => ?_⟩
  rw [rem_plc h h0]
  exact ⟨fun k => k.2, fun k => ⟨hx, k⟩⟩
theorem path_plc {t : Tr} {p : Int} {pub : H32} {keys : List H32} (h0 : (t.pathR p pub keys).2 = 0) (x : Int) : 0 ≤ (t.pathR p pub keys).1.place x ↔ 0 ≤ t.place x := by
  unfold Tr.pathR at h0 ⊢
  by_cases hp : t.nobody p
  · rw [if_pos hp] at h0
    cases h0
  · rw [if_neg hp] at h0 ⊢
    by_cases hk : (dirL t.size p).length ≠ keys.length
    · rw [if_pos hk] at h0
      cases h0
    · rw [if_neg hk]
      exact keyed_plc x
theorem memV_path {t : Tr} {p : Int} {pub : H32} {keys : List H32} (h0 : (t.pathR p pub keys).2 = 0) : memV (t.pathR p pub keys).1 = memV t := memV_eq fun x _ _ => path_plc h0 x
end Go.Proofs.Ytopcnkejobomaaa
namespace Go.Proofs.Ytopcnkejobomaaa
open Go.RowKit Go.Lib Go.Shelf
def sortI (l : List Int) : List Int := l.mergeSort fun x y => decide (x ≤ y)
theorem sortI_len (l : List Int) : (sortI l).length = l.length := List.length_mergeSort ..
abbrev intsR (l : List Int) : List (List Fd) := l.map fun x => [.one (.int .i64 x)]
theorem fls_intsR (l : List Int) : fls (intsR l) = l.map (Value.int .i64) := by
  induction l with
  | nil => rfl
  | cons x r ih =>
    rw [List.map_cons, ← ih]
    rfl
theorem intsR_els (l : List Int) : Els 1 (intsR l) := Els.map (f := fun x => [.one (.int .i64 x)]) l fun _ => ⟨inferInstance, rfl⟩
theorem St.grow (w : World) (os : Array Obj) : St w [] (Go.Sort.grow w os) := ⟨(fun _ h => by cases h), .nil, (fun _ h => by cases h), ⟨rfl, rfl, rfl, by simp [Go.Sort.grow], fun k hk _ => by simp [Go.Sort.grow, Array.getElem?_append_left hk]⟩⟩
theorem mapBlock_setRow {w : World} {g e : Nat} {cs : List Value} {f : Array Value → Array Value} (hb : Blf w g e cs) : Go.Sort.mapBlock w g f = w.setRow g (f cs.toArray) := by
  obtain ⟨fr, hh, -⟩ := hb
  unfold Go.Sort.mapBlock World.setRow
  congr 1
  apply Array.ext_getElem?
  intro i
  rw [Array.getElem?_modify, Array.getElem?_modify]
  by_cases hi : g = i
  · subst hi
    rw [if_pos rfl, if_pos rfl, hh]
    rfl
  · rw [if_neg hi, if_neg hi]
theorem putCells_ints (l l' : List Int) (sp : List Value) (hl : l'.length = l.length) : Go.Sort.putCells (Value.int .i64) 0 l'.toArray (l.map (Value.int .i64) ++ sp).toArray = (l'.map (Value.int .i64) ++ sp).toArray := by
  unfold Go.Sort.putCells
  apply Array.ext_getElem?
  intro i
  rw [Array.getElem?_mapIdx]
  simp only [List.getElem?_toArray, Nat.zero_le, true_and, Nat.zero_add, Nat.sub_zero, List.size_toArray]
  by_cases hi : i < l'.length
  · rw [List.getElem?_append_left (by simpa using (by omega : i < l.length)), List.getElem?_append_left (by simpa using hi), List.getElem?_map, List.getElem?_map, List.getElem?_eq_getElem hi, List.getElem?_eq_getElem (show i < l.length by omega)]
    simp [hi]
  · rw [List.getElem?_append_right (by simpa using (by omega : l.length ≤ i)), List.getElem?_append_right (by simpa using (by omega : l'.length ≤ i)), List.length_map, List.length_map, hl]
    have hi2 : ¬ i < l.length := by omega
    simp [hi2]
section
variable {P : Program} {ρ : Ren} {H : Hp} {w0 w : World} {L : List Res} {A : Option Addr} {cap : Nat}
theorem sort_own (Ly : Lays.n189 P ρ) (l : List Int) (hl : l.length ≤ 1000000) (hM : Mem H w0 (rowR 3 1 A l.length cap (intsR l) :: L) w) :
    Calls P (ρ.f 189) #[.slice A l.length cap] w fun en w' => ∃ v, en = .returned v ∧ v = .tuple #[] ∧ Mem H w0 (rowR 3 1 A l.length cap (intsR (sortI l)) :: L) w' := by
  by_cases h0 : l = []
  · subst h0
    refine (Any.slices_Sort_int_none Ly A cap w).mono ?_
    rintro e w' ⟨rfl, rfl⟩
    exact ⟨_, rfl, rfl, by simpa [sortI] using hM⟩
  have hl0 : 0 < l.length := List.length_pos_iff.2 h0
  obtain ⟨g, rfl⟩ : ∃ g, A = some ⟨g, 0, none⟩ := by
    obtain ⟨B, ⟨B1, B2, rfl, ⟨h1, h2, h3⟩, h4⟩, hs', hb⟩ := hM.own
    rcases h3 with ⟨hA, h5⟩ | ⟨g', sp, hA, -⟩
    · omega
    · exact ⟨g', hA⟩
  obtain ⟨sp, r1, r2, r3, r4, r5, hM⟩ := hM.raw (n := l.length) (cap := cap) (e := 3) (sz := 1) (ps := intsR l) (R := L) (g := g)
  rw [fls_intsR] at r1 hM
  have hb : Blf w g 3 _ := hM.bkBlf
  refine (Any.slices_Sort_int Ly g 0 cap l w (fun j hj => ?_) hb.lt (by omega)).mono ?_
  · have hj' : j < l.length := by simpa using hj
    rw [Nat.zero_add]
    refine ⟨?_, hb.frozen j (by simp; omega)⟩
    rw [hb.cell, List.getElem?_append_left (by simpa using hj'), List.getElem?_map, List.getElem?_eq_getElem hj']
    simp [hj']
  · rintro e w' ⟨rfl, n, os, rfl⟩
    have hM2 : Mem H w0 (bk g 3 (l.map (Value.int .i64) ++ sp) :: L) (Go.Sort.ahead w n) := hM.drawn ⟨n, rfl⟩
    have hb2 : Blf _ g 3 _ := hM2.bkBlf
    have hM3 := hM2.setBk (cs' := (sortI l).map (Value.int .i64) ++ sp) (by simp [sortI_len])
    have e : Go.Sort.putRow (Value.int .i64) (Go.Sort.ahead w n) g 0 (l.mergeSort fun x y => decide (x ≤ y)).toArray = (Go.Sort.ahead w n).setRow g ((sortI l).map (Value.int .i64) ++ sp).toArray := by
      unfold Go.Sort.putRow
      rw [mapBlock_setRow hb2]
      show (Go.Sort.ahead w n).setRow g (Go.Sort.putCells (Value.int .i64) 0 (sortI l).toArray _) = _
      rw [putCells_ints l _ sp (sortI_len l)]
    rw [e]
    have hM4 : Mem H w0 (bk g 3 (fls (intsR (sortI l)) ++ sp) :: L) (Go.Sort.grow ((Go.Sort.ahead w n).setRow g ((sortI l).map (Value.int .i64) ++ sp).toArray) os) := by
      rw [fls_intsR]
      exact hM3.call0 (St.grow _ os)
    refine ⟨_, rfl, rfl, hM4.unraw (intsR_els _) (by rw [List.length_map, sortI_len]) ?_ r2 r3⟩
    rw [fls_intsR, ← r1]
    simp [sortI_len]
end
end Go.Proofs.Ytopcnkejobomaaa
namespace Go.Proofs.Ytopcnkejobomaaa
open Go.RowKit Go.Lib
theorem sorted_ext : ∀ {a b : List Int}, a.Pairwise (· < ·) → b.Pairwise (· < ·) → (∀ x, x ∈ a ↔ x ∈ b) → a = b
  | [], [], _, _, _ => rfl
  | [], y :: b, _, _, h => by have := (h y).2 (List.mem_cons_self ..); cases this
  | x :: a, [], _, _, h => by have := (h x).1 (List.mem_cons_self ..); cases this
  | x :: a, y :: b, ha, hb, h => by
    obtain ⟨a1, a2⟩ := List.pairwise_cons.1 ha
    obtain ⟨b1, b2⟩ := List.pairwise_cons.1 hb
    have e : x = y := by
      rcases List.mem_cons.1 ((h x).1 (List.mem_cons_self ..)) with e | h1
      · exact e
      rcases List.mem_cons.1 ((h y).2 (List.mem_cons_self ..)) with e | h2
      · exact e.symm
      have := a1 y h2
      have := b1 x h1
      omega
    subst e
    rw [sorted_ext a2 b2 fun z => ⟨fun hz => ?_, fun hz => ?_⟩]
    · rcases List.mem_cons.1 ((h z).1 (List.mem_cons_of_mem _ hz)) with e | h1
      · have := a1 z hz
        omega
      · exact h1
    · rcases List.mem_cons.1 ((h z).2 (List.mem_cons_of_mem _ hz)) with e | h1
      · have := b1 z hz
        omega
      · exact h1
def nmL (ls : List Lf) : List Int := (ls.map (·.name)).filter fun x => decide (0 < x)
def rnmL (t : Tr) (k : Nat) : List Int := ((List.range k).map fun i : Nat => ((i : Int) + 1)).filter fun x => decide (0 ≤ t.place x)
theorem place_some {t : Tr} {x : Int} (h : 0 ≤ t.place x) : 1 ≤ x ∧ ∃ l ∈ t.ls, l.name = x := by
  unfold Tr.place at h
  by_cases h1 : x < 1
  · rw [if_pos h1] at h
    omega
  rw [if_neg h1] at h
  unfold fix at h
  by_cases h2 : t.ls.findIdx (fun l => decide (l.name = x)) < t.ls.length
  · refine ⟨by omega, _, List.getElem_mem h2, ?_⟩
    simpa using List.findIdx_getElem (w := h2)
  · rw [if_neg h2] at h
    omega
theorem sortI_mem {l : List Int} {x : Int} : x ∈ sortI l ↔ x ∈ l := (List.mergeSort_perm l _).mem_iff
theorem sortI_rise {l : List Int} (h : l.Pairwise (· ≠ ·)) : (sortI l).Pairwise (· < ·) := by
  have h1 : (sortI l).Pairwise (· ≤ ·) := by
    have := List.pairwise_mergeSort (le := fun x y : Int => decide (x ≤ y)) (fun a b c => by simp only [decide_eq_true_eq]; omega) (fun a b => by simp only [Bool.or_eq_true, decide_eq_true_eq]; omega) l
    exact this.imp fun h => of_decide_eq_true h
  have h2 : (sortI l).Pairwise (· ≠ ·) := (List.mergeSort_perm l _).symm.pairwise h fun h e => h e.symm
  exact (h1.and h2).imp fun ⟨a, b⟩ => by omega
theorem names_eq {t : Tr} (h : t.Rt) : sortI (nmL t.ls) = rnmL t 64 := by
  obtain ⟨⟨p1, -, p3⟩, -⟩ := h.parts
  refine sorted_ext (sortI_rise ?_) ?_ fun x => ?_
  · unfold nmL
    rw [List.pairwise_filter, List.pairwise_map, List.pairwise_iff_getElem]
    intro i j hi hj hij h1 h2
    exact p3 i j hi hj hij (by simp only [decide_eq_true_eq] at h1; omega)
  · unfold rnmL
    rw [List.pairwise_filter, List.pairwise_map]
    refine List.pairwise_lt_range.imp ?_
    intro a b hab _ _
    omega
  · rw [sortI_mem]
    unfold nmL rnmL
    simp only [List.mem_filter, List.mem_map, List.mem_range, decide_eq_true_eq]
    constructor
    · rintro ⟨⟨l, hl, rfl⟩, h0⟩
      refine ⟨⟨(l.name - 1).toNat, ?_, by omega⟩, Decidable.by_contra fun hn => place_none (by omega) hn l hl rfl⟩
      rcases p1 l hl with rfl | h2
      · exact absurd h0 (by decide)
      · omega
    · rintro ⟨-, hp⟩
      obtain ⟨h1, l, hl, e⟩ := place_some hp
      exact ⟨⟨l, hl, e⟩, by omega⟩
theorem nmL_len (ls : List Lf) : (nmL ls).length ≤ ls.length := by
  have := List.length_filter_le (fun x : Int => decide (0 < x)) (ls.map (·.name))
  rwa [List.length_map] at this
theorem rnmL_len (t : Tr) (k : Nat) : (rnmL t k).length ≤ k := by
  have := List.length_filter_le (fun x : Int => decide (0 ≤ t.place x)) ((List.range k).map fun i : Nat => ((i : Int) + 1))
  simpa [rnmL] using this
theorem nmL_take {ls : List Lf} {i : Nat} (h : i < ls.length) : nmL (ls.take (i + 1)) = nmL (ls.take i) ++ if 0 < ls[i].name then [ls[i].name] else [] := by
  unfold nmL
  rw [List.take_succ_eq_append_getElem h, List.map_append, List.filter_append]
  congr 1
  by_cases c : 0 < ls[i].name <;> simp [c]
theorem rnmL_succ (t : Tr) (k : Nat) : rnmL t (k + 1) = rnmL t k ++ if 0 ≤ t.place ((k : Int) + 1) then [(k : Int) + 1] else [] := by
  unfold rnmL
  rw [List.range_succ, List.map_append, List.filter_append]
  congr 1
  by_cases c : 0 ≤ t.place ((k : Int) + 1) <;> simp [c]
end Go.Proofs.Ytopcnkejobomaaa
namespace Go.Proofs.Ytopcnkejobomaaa
open Go.Shelf
def lays189_ren : Go.Shelf.Ren := ⟨fun | 189 => 77 | 125 => 117 | 257 => 116 | 128 => 143 | 129 => 144 | 294 => 135 | 295 => 136 | 296 => 137 | 297 => 138 | 298 => 139 | 299 => 140 | 216 => 112 | 300 => 141 | 301 => 142 | 328 => 154 | 329 => 155 | 330 => 156 | 331 => 157 | 332 => 158 | 215 => 133 | 343 => 162 | n => n, fun | 28 => 29 | 3 => 3 | 46 => 120 | 0 => 0 | 51 => 139 | 53 => 148 | 4 => 4 | 183 => 179 | 182 => 178 | 131 => 111 | 5 => 5 | 9 => 9 | 218 => 192 | 222 => 196 | 228 => 200 | 229 => 99 | n => n, fun | n => n⟩
theorem lays189 : Go.Proofs.Lays.n189 Try.prog lays189_ren := {
  mixed := by kernel_rfl
  f125 := Try.func117.trans (congrArg some (by kernel_rfl))
  f128 := Try.func143.trans (congrArg some (by kernel_rfl))
  f129 := Try.func144.trans (congrArg some (by kernel_rfl))
  f189 := Try.func77.trans (congrArg some (by kernel_rfl))
  f215 := Try.func133.trans (congrArg some (by kernel_rfl))
  f216 := Try.func112.trans (congrArg some (by kernel_rfl))
  f257 := Try.func116.trans (congrArg some (by kernel_rfl))
  f294 := Try.func135.trans (congrArg some (by kernel_rfl))
  f295 := Try.func136.trans (congrArg some (by kernel_rfl))
  f296 := Try.func137.trans (congrArg some (by kernel_rfl))
  f297 := Try.func138.trans (congrArg some (by kernel_rfl))
  f298 := Try.func139.trans (congrArg some (by kernel_rfl))
  f299 := Try.func140.trans (congrArg some (by kernel_rfl))
  f300 := Try.func141.trans (congrArg some (by kernel_rfl))
  f301 := Try.func142.trans (congrArg some (by kernel_rfl))
  f328 := Try.func154.trans (congrArg some (by kernel_rfl))
  f329 := Try.func155.trans (congrArg some (by kernel_rfl))
  f330 := Try.func156.trans (congrArg some (by kernel_rfl))
  f331 := Try.func157.trans (congrArg some (by kernel_rfl))
  f332 := Try.func158.trans (congrArg some (by kernel_rfl))
  f343 := Try.func162.trans (congrArg some (by kernel_rfl))
  t0 := Try.underlying0
  a0 := Try.isAgg0
  z0 := Try.sizeOf0
  v0 := Try.zeroValue0
  t3 := Try.underlying3
  a3 := Try.isAgg3
  z3 := Try.sizeOf3
  v3 := Try.zeroValue3
  t4 := Try.underlying4
  a4 := Try.isAgg4
  z4 := Try.sizeOf4
  v4 := Try.zeroValue4
  t5 := Try.underlying5
  a5 := Try.isAgg5
  z5 := Try.sizeOf5
  v5 := Try.zeroValue5
  t9 := Try.underlying9
  a9 := Try.isAgg9
  z9 := Try.sizeOf9
  v9 := Try.zeroValue9
  t28 := Try.underlying29
  a28 := Try.isAgg29
  z28 := Try.sizeOf29
  v28 := Try.zeroValue29
  t46 := Try.underlying120
  a46 := Try.isAgg120
  z46 := Try.sizeOf120
  v46 := Try.zeroValue120
  t51 := Try.underlying139
  a51 := Try.isAgg139
  z51 := Try.sizeOf139
  v51 := Try.zeroValue139
  t53 := Try.underlying148
  a53 := Try.isAgg148
  z53 := Try.sizeOf148
  v53 := Try.zeroValue148
  t131 := Try.underlying111
  a131 := Try.isAgg111
  z131 := Try.sizeOf111
  v131 := Try.zeroValue111
  t182 := Try.underlying178
  a182 := Try.isAgg178
  z182 := Try.sizeOf178
  v182 := Try.zeroValue178
  t183 := Try.underlying179
  a183 := Try.isAgg179
  z183 := Try.sizeOf179
  v183 := Try.zeroValue179
  t218 := Try.underlying192
  a218 := Try.isAgg192
  z218 := Try.sizeOf192
  v218 := Try.zeroValue192
  t222 := Try.underlying196
  a222 := Try.isAgg196
  z222 := Try.sizeOf196
  v222 := Try.zeroValue196
  t228 := Try.underlying200
  a228 := Try.isAgg200
  z228 := Try.sizeOf200
  v228 := Try.zeroValue200
  t229 := Try.underlying99
  a229 := Try.isAgg99
  z229 := Try.sizeOf99
  v229 := Try.zeroValue99 }
end Go.Proofs.Ytopcnkejobomaaa
namespace Go.Proofs.Ytopcnkejobomaaa
open Go.RowKit Go.Lib
section
variable {H : Hp} {w0 w : World} {L R : List Res} {A K : Option Addr} {a kc cap : Nat} {t : Tr} {v : Value}
theorem ssort_ok (l : List Int) (hl : l.length ≤ 1000000) (hM : Mem H w0 (rowR 3 1 A l.length cap (ints8 l) :: L) w) :
    Calls Try.prog 77 #[.slice A l.length cap] w fun en w' => ∃ v, en = .returned v ∧ v = .tuple #[] ∧ Mem H w0 (rowR 3 1 A l.length cap (ints8 (sortI l)) :: L) w' := sort_own lays189 l hl hM
theorem ints8_one (l : List Int) (x : Int) : ints8 (l ++ [x]) = ints8 l ++ [[.one (.int .i64 x)]] := by simp [ints8]
theorem names_ok (hR : t.Rt) (h : TrF H v t) (hf : Fz H w) : Calls Try.prog 37 #[v] w (Outp H w fun H' r => ∃ K kc, r = .slice K (rnmL t 64).length kc ∧ Sl H' 1 K (ints8 (rnmL t 64))) := by
  obtain ⟨A, a, B, b, q, rfl, h1, h2, h3⟩ := h.ex
  obtain ⟨w1, hw1⟩ : ∃ w1, w1 = w := ⟨_, rfl⟩
  rw [← hw1]
  rw [← hw1] at hf
  have hlen := hR.len
  have hM := Mem.start hf
  refine C_tree_Names ?_
  unfold F_tree_Names
  ((with_reducible (refine mm_box hM ?_; clear hM; intro _ _ hM; refine mm_ld hM ?_)))
  rename_i g1 _
  refine mm_pure hM (sound_ok h1 h2 h3 h.len.1 h.len.2 hM.fz) (fun w hM => ?_)
  rw [if_pos (Tr.rt.2 hR)]
  ((with_reducible (refine mop_c trivial ?_; refine mop_c trivial ?_)))
  have h0 : Mem H w1 (rowR 3 1 none 0 0 (ints8 []) :: _) _ := hM.row0 3 1
  refine ⟨fun v u w' => ∃ (i : Nat) (K : Option Addr) (kc : Nat), v = .slice K (nmL (t.ls.take i)).length kc ∧ u = .int .i64 i ∧ i ≤ t.ls.length ∧ Mem H w1 [rowR 3 1 K (nmL (t.ls.take i)).length kc (ints8 (nmL (t.ls.take i))), fb g1 27 (tfd A t.ls.length a B t.ps.length b)] w', fun _ u _ => match u with | .int _ k => t.ls.length - k.toNat | _ => 0, ⟨0, none, 0, rfl, rfl, by omega, h0⟩, ?_⟩
  clear hM h0
  rintro v u u2 w3 ⟨i, K, kc, rfl, rfl, hi, hM⟩
  have hnl := nmL_len (t.ls.take i)
  rw [List.length_take] at hnl
  ((with_reducible (refine mop_cS trivial ?_ ?_)))
  · intro hlt
    have hlt' : i < t.ls.length := by omega
    have e := nmL_take hlt'
    ((with_reducible (refine mif_true ?_)))
    refine ⟨fun v w' => ∃ (K : Option Addr) (kc : Nat), v = .slice K (nmL (t.ls.take (i + 1))).length kc ∧ Mem H w1 [rowR 3 1 K (nmL (t.ls.take (i + 1))).length kc (ints8 (nmL (t.ls.take (i + 1)))), fb g1 27 (tfd A t.ls.length a B t.ps.length b)] w', ?_, ?_⟩
    · ((with_reducible refine mm_ixs ‹_› ?_ ?_ ?_); (focus (simp only [List.length_map]; omega)); (focus (simp only [List.length_map]; first | done | omega)); (with_reducible (intro _ _ hA)); (cases hA); (with_reducible refine mm_lds0 hM ‹_› (map_atI ?_) ?_); (focus omega); (with_reducible (refine mm_new hM ?_; clear hM; intro _ _ hM; refine mm_st hM ?_; clear hM; intro _ hM; refine mop_c trivial ?_; refine mm_ld hM ?_)))
      ((with_reducible (refine mop_cS trivial ?_ ?_)))
      · intro c
        rw [if_pos c] at e
        rw [e, List.length_append, List.length_singleton, ints8_one]
        ((with_reducible (refine mif_true ?_; refine mop_c trivial ?_; refine mm_ld hM ?_; refine mm_bsl hM ?_ ?_ ?_)); (focus rfl); (focus (constructor <;> simp)); (with_reducible (clear hM; intro _ _ hM; refine mm_appo hM ?_ ?_)); (focus omega); (with_reducible (clear hM; intro _ _ _ hM)))
        rename_i A2 c2 _
        exact ⟨A2, c2, rfl, hM.sub⟩
      · intro c
        rw [if_neg c, List.append_nil] at e
        rw [e]
        ((with_reducible (refine mif_false ?_)))
        exact ⟨K, kc, rfl, hM.sub⟩
    clear hM
    rintro v u5 w5 ⟨K, kc, rfl, hM⟩
    ((with_reducible (refine mop_c ?_ ?_)); (focus omega))
    exact ⟨⟨i + 1, K, kc, rfl, rfl, by omega, hM⟩, by simp only; omega⟩
  · intro hge
    obtain rfl : i = t.ls.length := by omega
    rw [List.take_length] at hM hnl ⊢
    ((with_reducible (refine mif_false ?_)))
    refine mm_own (ssort_ok (nmL t.ls) (by omega) hM) ?_
    rintro v w6 ⟨rfl, hM⟩
    skip
    have el : (nmL t.ls).length = (rnmL t 64).length := by rw [← names_eq hR, sortI_len]
    rw [names_eq hR, el] at hM
    rw [el]
    obtain ⟨H4, l4, hM, hs, -⟩ := hM.fz0
    exact hM.out l4 ⟨K, kc, rfl, hs⟩
end
end Go.Proofs.Ytopcnkejobomaaa
namespace Go.Proofs.Ytopcnkejobomaaa
open Go.RowKit Go.Lib
structure Ac where
  op : Int
  name : Int
  at_ : Int
  key : Int
abbrev Ac.fds (x : Ac) : List Fd := [.one (.int .u8 x.op), .one (.int .i64 x.name), .one (.int .i64 x.at_), .one (.int .u8 x.key)]
def Ac.good (x : Ac) : Prop := (0 ≤ x.op ∧ x.op < 256) ∧ 0 ≤ x.key ∧ x.key < 256
def plcA (n : Nat) (a : Int) : Int := a % 18446744073709551616 % ((n : Int) + 1)
theorem rdr_ac : Rdr Try.prog 53 4 (fun _ fs (x : Ac) => fs = x.fds ∧ x.good) :=
  (rdr_struct (sz := 4) Try.underlying53 (by kernel_rfl) (Rdf.cons rdr_u8 rfl rfl rfl (Rdf.cons rdr_i64 rfl rfl rfl (Rdf.cons rdr_i64 rfl rfl rfl (Rdf.cons rdr_u8 rfl rfl rfl (Rdf.nil _)))))).map fun _ fs x _ h => by
    obtain ⟨g1, h1, rfl, _, ⟨rfl, b1⟩, g2, h2, rfl, _, ⟨rfl, _⟩, g3, h3, rfl, _, ⟨rfl, _⟩, g4, h4, rfl, _, ⟨rfl, b4⟩, rfl⟩ := h
    have := bounds_u8 b1
    have := bounds_u8 b4
    exact ⟨⟨x.1, x.2.1, x.2.2.1, x.2.2.2.1⟩, rfl, ⟨by simp only; omega, by simp only; omega⟩⟩
theorem rdr_acs : Rdr Try.prog 22 1 (fun H fs (xs : List Ac) => ∃ A cap, fs = [.one (.slice A xs.length cap)] ∧ xs.length ≤ maxLen ∧ Sl H 4 A (xs.map Ac.fds) ∧ ∀ x ∈ xs, x.good) :=
  (rdr_slice Try.underlying22 (by kernel_rfl) (by omega) rdr_ac).map fun H fs xs _ ⟨A, cap, ps, h1, h2, h3, h4⟩ => by
    obtain ⟨rfl, hg⟩ := All2.eq_map h4
    exact ⟨xs, A, cap, h1, h2, h3, hg⟩
theorem none_rt : Tr.none.Rt := Tr.rt.1 (by decide)
section
variable {H : Hp} {w0 w : World} {L R : List Res} {t : Tr} {v : Value}
theorem place_c (x : Ac) (hl : t.ls.length ≤ 1000) (h : TrF H v t) (hf : Fz H w) : Calls Try.prog 39 #[v, .agg (fl x.fds).toArray] w fun en w' => en = .returned (.int .i64 (plcA t.ls.length x.at_)) ∧ St w [] w' := by
  obtain ⟨A, a, B, b, q, rfl, -⟩ := h.ex
  have hM := Mem.start hf
  refine C_bevylaw08_place ?_
  unfold F_bevylaw08_place
  ((with_reducible (refine mm_box hM ?_; clear hM; intro _ _ hM; refine mm_box hM ?_; clear hM; intro _ _ hM; refine mop_c trivial ?_; refine mm_ld hM ?_; refine mop_c trivial ?_; refine mop_c trivial ?_; refine mm_ld hM ?_; refine mop_c trivial ?_; refine mop_c ?_ ?_)); (focus omega); (with_reducible (refine mop_c trivial ?_; refine mop_c ?_ ?_)); (focus omega))
  rw [show ((t.ls.length : Int) + 1) % 18446744073709551616 = (t.ls.length : Int) + 1 by omega]
  have hp : 0 ≤ x.at_ % 18446744073709551616 % ((t.ls.length : Int) + 1) ∧ x.at_ % 18446744073709551616 % ((t.ls.length : Int) + 1) < (t.ls.length : Int) + 1 := ⟨Int.emod_nonneg _ (by omega), Int.emod_lt_of_pos _ (by omega)⟩
  have hpe : plcA t.ls.length x.at_ = x.at_ % 18446744073709551616 % ((t.ls.length : Int) + 1) := rfl
  rw [← hpe] at hp ⊢
  ((with_reducible (refine mop_c ?_ ?_)); (focus omega))
  exact ⟨rfl, hM.st⟩
end
end Go.Proofs.Ytopcnkejobomaaa
namespace Go.Proofs.Ytopcnkejobomaaa
open Go.RowKit Go.Lib
section
variable {H : Hp} {w0 w : World} {L R : List Res} {K : Option Addr} {kc : Nat}
theorem place_c2 {t : Tr} {v : Value} (x : Int) (hR : t.Rt) (h : TrF H v t) (hf : Fz H w) : Calls Try.prog 34 #[v, .int .i64 x] w fun en w' => en = .returned (.int .i64 (t.place x)) ∧ St w [] w' := by
  obtain ⟨A, a, B, b, q, rfl, h1, h2, h3⟩ := h.ex
  have := place_ok (a := a) (b := b) x h1 h2 h3 h.len.1 h.len.2 hf
  rwa [show t.sound = t from if_pos (Tr.rt.2 hR)] at this
theorem treeNames_ok (xs : List Ac) (hl : xs.length ≤ maxLen) (hs : Sl H 4 K (xs.map Ac.fds)) (hg : ∀ x ∈ xs, x.good) (hf : Fz H w) :
    Calls Try.prog 9 #[.slice K xs.length kc] w fun en w' => en = .returned (.bool true) ∧ St w [] w' := by
  obtain ⟨wb, hwb⟩ : ∃ wb, wb = w := ⟨_, rfl⟩
  rw [← hwb]
  rw [← hwb] at hf
  have hM := Mem.start hf
  have hl' : xs.length ≤ 9223372036854775807 := hl
  refine C_bevylaw08_TreeNames ?_
  unfold F_bevylaw08_TreeNames
  refine ⟨fun v w' => v = .bool (decide (100 < xs.length)) ∧ hM.now w', ?_, ?_⟩
  · ((with_reducible (refine mm_purC hM ?_ (fun _ hM2 => ?_))); (focus (first | exact trivial | assumption | omega)); (with_reducible (replace hM := hM2; clear hM2; refine mop_c trivial ?_; refine mguard_yes ?_; refine mop_c trivial ?_; refine mguard_yes ?_; refine mop_c trivial ?_; refine mguard_yes ?_)))
    ((with_reducible (refine mop_cS trivial ?_ ?_)))
    · intro h
      ((with_reducible (refine mop_c trivial ?_)))
      exact ⟨by rw [decide_eq_true (by omega)], hM⟩
    · intro h
      ((with_reducible (refine mop_c trivial ?_)))
      exact ⟨by rw [decide_eq_false (by omega)], hM⟩
  rintro v u w2 ⟨rfl, hM⟩
  by_cases hc : 100 < xs.length
  · rw [decide_eq_true hc]
    ((with_reducible (refine mif_true ?_; refine mm_purC hM ?_ ?_)); (focus (first | exact trivial | assumption | omega)); (with_reducible (clear hM; intro _ hM)))
    exact ⟨rfl, hM.st⟩
  rw [decide_eq_false hc]
  ((with_reducible (refine mif_false ?_; refine mop_c trivial ?_; refine mm_new hM ?_; clear hM; intro _ _ hM; refine mm_st hM ?_; clear hM; intro _ hM; refine mm_new hM ?_; clear hM; intro _ _ hM)))
  rename_i g3 _ _ g4 _
  rw [← memV_none] at hM
  refine ⟨fun v w' => ∃ (i : Nat) (t : Tr) (H1 : Hp) (A : Option Addr) (a : Nat) (B : Option Addr) (b : Nat), v = .int .i64 i ∧ i ≤ xs.length ∧ t.Rt ∧ H.le H1 ∧ TrF H1 (tv A t.ls.length a B t.ps.length b) t ∧ Mem H1 wb [fb g4 67 [.arr 65 (memV t)], fb g3 27 (tfd A t.ls.length a B t.ps.length b)] w', fun v _ => match v with | .int _ k => xs.length - k.toNat | _ => 0, ⟨0, Tr.none, H, none, 0, none, 0, rfl, by omega, none_rt, Hp.le.refl _, trF_none _, hM⟩, ?_⟩
  clear hM
  rintro v u w3 ⟨i, t, H1, A, a, B, b, rfl, hi, hR, l1, hT, hM⟩
  have hs1 := hs.mono l1
  have hlen := hR.len
  ((with_reducible (refine mop_c trivial ?_)))
  ((with_reducible (refine mop_cS trivial ?_ ?_)))
  · intro hlt
    have hlt' : i < xs.length := by omega
    have hx := hg _ (List.getElem_mem hlt')
    obtain ⟨hx1, hx2⟩ := hx
    ((with_reducible (refine mif_true ?_)); (with_reducible refine mm_ixs ‹_› ?_ ?_ ?_); (focus (simp only [List.length_map]; omega)); (focus (simp only [List.length_map]; first | done | omega)); (with_reducible (intro _ _ hA)); (cases hA); (with_reducible refine mm_lds0 hM ‹_› (map_atI ?_) ?_); (focus omega); (with_reducible (refine mm_new hM ?_; clear hM; intro _ _ hM; refine mm_st hM ?_; clear hM; intro _ hM; refine mm_ld hM ?_; refine mm_ld hM ?_)))
    rename_i g6 _ _
    refine mm_pure hM (place_c xs[i] (by omega) hT hM.fz) (fun w hM => ?_)
    have hpn : 0 ≤ plcA t.ls.length xs[i].at_ ∧ plcA t.ls.length xs[i].at_ ≤ t.ls.length := by
      have h1 := Int.emod_nonneg (xs[i].at_ % 18446744073709551616) (b := (t.ls.length : Int) + 1) (by omega)
      have h2 := Int.emod_lt_of_pos (xs[i].at_ % 18446744073709551616) (b := (t.ls.length : Int) + 1) (by omega)
      unfold plcA
      omega
    generalize plcA t.ls.length xs[i].at_ = p at hpn ⊢
    refine ⟨fun v w' => v = .int .i64 (nameAt t.ls p) ∧ hM.now w', ?_, ?_⟩
    · obtain ⟨A', a', B', b', q', hve, s1, -⟩ := hT.ex
      cases hve
      ((with_reducible (refine mop_c trivial ?_; refine mm_ld hM ?_; refine mop_c trivial ?_)))
      ((with_reducible (refine mop_cS trivial ?_ ?_)))
      · intro c1
        have hpl : p.toNat < t.ls.length := by omega
        have hna := nameAt_at hpn.1 hpl
        ((with_reducible (refine mif_true ?_; refine mop_c trivial ?_; refine mm_ld hM ?_)); (with_reducible refine mm_ixs ‹_› ?_ ?_ ?_); (focus (simp only [List.length_map]; omega)); (focus (simp only [List.length_map]; first | done | omega)); (with_reducible (intro _ _ hA)); (cases hA); (with_reducible (refine mop_c trivial ?_)); (with_reducible refine mm_lds hM ‹_› (map_at ?_) ?_); (focus omega))
        exact ⟨by rw [hna], hM⟩
      · intro c1
        ((with_reducible (refine mif_false ?_)))
        refine ⟨?_, hM⟩
        unfold nameAt
        rw [List.getElem?_eq_none (by omega)]
    rintro v u w4 ⟨rfl, hM⟩
    ((with_reducible (refine mm_ld hM ?_; refine mm_new hM ?_; clear hM; intro _ _ hM; refine mm_st hM ?_; clear hM; intro _ hM)))
    rename_i g9 _ _
    refine ⟨fun v w' => ∃ (e : Int) (r : Tr) (H2 : Hp) (A2 : Option Addr) (a2 : Nat) (B2 : Option Addr) (b2 : Nat), v = .int .i64 e ∧ (e = 0 → r.Rt) ∧ H1.le H2 ∧ TrF H2 (tv A2 r.ls.length a2 B2 r.ps.length b2) r ∧ Mem H2 wb [fb g9 27 (tfd A2 r.ls.length a2 B2 r.ps.length b2), fb g4 67 [.arr 65 (memV (if e = 0 then r else t))], fb g3 27 (tfd A t.ls.length a B t.ps.length b)] w', ?_, ?_⟩
    · ((with_reducible (refine mop_c trivial ?_; refine mm_ld hM ?_; refine mop_c ?_ ?_)); (focus omega))
      ((with_reducible (refine mop_cS trivial ?_ ?_)))
      · intro k0
        ((with_reducible (refine mif_true ?_; refine mm_ld hM ?_; refine mop_c trivial ?_; refine mm_ld hM ?_; refine mop_c trivial ?_)))
        refine mm_call hM (add_c (leafN xs[i].name) hT hM.fz) ?_
        rintro H2 v w5 l2 hM ⟨v1, rfl, hT2⟩
        rw [add_same hR] at hT2 ⊢
        obtain ⟨A2, a2, B2, b2, q2, rfl, -⟩ := hT2.ex
        ((with_reducible ((iterate 3 refine mop_c trivial ?_); refine mm_st hM ?_; clear hM; intro _ hM)))
        ((with_reducible (refine mop_cS trivial ?_ ?_)))
        · intro c0
          obtain ⟨n1', -, -⟩ := add_parts c0
          have n1 : 1 ≤ xs[i].name ∧ xs[i].name ≤ 64 := n1'
          have hms : (memV t).set xs[i].name.toNat (.bool true) = memV (t.addR (leafN xs[i].name)).1 := memV_add c0
          ((with_reducible (refine mif_true ?_; refine mop_c trivial ?_; refine mm_ld hM ?_; refine mop_c ?_ ?_)); (focus omega); (with_reducible (refine mm_sta hM ?_ ?_)); (focus omega); (with_reducible (clear hM; intro _ hM)))
          rw [hms] at hM
          exact ⟨_, _, H2, A2, a2, B2, b2, rfl, add_rt hR _, l2.le, hT2, by rw [if_pos c0]; exact hM.sub⟩
        · intro c0
          ((with_reducible (refine mif_false ?_)))
          exact ⟨_, _, H2, A2, a2, B2, b2, rfl, fun c => absurd c c0, l2.le, hT2, by rw [if_neg c0]; exact hM.sub⟩
      intro k0
      ((with_reducible (refine mif_false ?_)))
      ((with_reducible (refine mop_cS trivial ?_ ?_)))
      · intro k1
        ((with_reducible (refine mif_true ?_; refine mm_ld hM ?_; refine mop_c trivial ?_; refine mm_ld hM ?_; refine mop_c ?_ ?_)); (focus (simp only [and_true]; omega)))
        refine mm_call hM (renew_c p (hset hzero 0 xs[i].key) hT hM.fz) ?_
        rintro H2 v w5 l2 hM ⟨v1, rfl, hT2⟩
        rw [ren_same hR] at hT2 ⊢
        obtain ⟨A2, a2, B2, b2, q2, rfl, -⟩ := hT2.ex
        ((with_reducible (refine mop_c trivial ?_; refine mop_c trivial ?_; refine mm_st hM ?_; clear hM; intro _ hM)))
        refine ⟨_, _, H2, A2, a2, B2, b2, rfl, ren_rt hR _ _, l2.le, hT2, ?_⟩
        by_cases c0 : (t.renR p (hset hzero 0 xs[i].key)).2 = 0
        · rw [if_pos c0, memV_ren c0]
          exact hM.sub
        · rw [if_neg c0]
          exact hM.sub
      intro k1
      ((with_reducible (refine mif_false ?_)))
      ((with_reducible (refine mop_cS trivial ?_ ?_)))
      · intro k2
        ((with_reducible (refine mif_true ?_; refine mm_ld hM ?_)))
        refine mm_call hM (remove_c p hT hM.fz) ?_
        rintro H2 v w5 l2 hM ⟨v1, rfl, hT2⟩
        rw [rem_same hR] at hT2 ⊢
        obtain ⟨A2, a2, B2, b2, q2, rfl, -⟩ := hT2.ex
        ((with_reducible (refine mop_c trivial ?_; refine mop_c trivial ?_; refine mm_st hM ?_; clear hM; intro _ hM)))
        ((with_reducible (refine mop_cS trivial ?_ ?_)))
        · intro c0
          obtain ⟨n1, hms⟩ := memV_rem hR c0
          ((with_reducible (refine mif_true ?_; refine mop_c ?_ ?_)); (focus omega); (with_reducible (refine mm_sta hM ?_ ?_)); (focus omega); (with_reducible (clear hM; intro _ hM)))
          rw [hms] at hM
          exact ⟨_, _, H2, A2, a2, B2, b2, rfl, rem_rt hR p, l2.le, hT2, by rw [if_pos c0]; exact hM.sub⟩
        · intro c0
          ((with_reducible (refine mif_false ?_)))
          exact ⟨_, _, H2, A2, a2, B2, b2, rfl, fun c => absurd c c0, l2.le, hT2, by rw [if_neg c0]; exact hM.sub⟩
      intro k2
      have k3 : xs[i].op % 4 = 3 := by omega
      ((with_reducible (refine mif_false ?_; refine mop_cT trivial ?_ ?_)); (focus (first | assumption | omega | with_reducible rfl | exact fun h => Bool.noConfusion h)); (with_reducible (refine mif_true ?_; refine dm_ld hM ?_; refine dp_c trivial ?_; refine dm_ld hM ?_; refine dp_c ?_ ?_)); (focus (simp only [and_true]; omega)); (with_reducible (refine dm_ld hM ?_; refine dp_c trivial ?_; refine dm_ld hM ?_)))
      have hkl := keyL_len (dirL t.size p).length xs[i].key
      have hdl := dirL_len t.size p
      refine dm_call hM (fun w hM => keys_ok p xs[i].key hx2 (by omega) hT hM.fz) ?_
      rintro H2 v w5 hxe l2 hM ⟨K2, kc2, rfl, hK⟩
      generalize keyL (dirL t.size p).length xs[i].key = keys at *
      have hppp : t.pathP p (hset hzero 0 xs[i].key) keys = t.pathR p (hset hzero 0 xs[i].key) keys := if_neg (fun hh => hh (Tr.rt.2 hR))
      refine dm_call hM (fun w hM => path_c p (hset hzero 0 xs[i].key) keys (by omega) hK (hT.mono l2.le) hM.fz) ?_
      rintro H3 v w6 hxe l3 hM ⟨v1, rfl, hT2⟩
      rw [hppp] at hT2 ⊢
      obtain ⟨A2, a2, B2, b2, q2, rfl, -⟩ := hT2.ex
      ((with_reducible (refine dp_c trivial ?_; refine dp_c trivial ?_; refine dS_st hM ?_; clear hM; intro _ hM; refine mm_end hM ?_; clear hM; intro _ hM)))
      refine ⟨_, _, H3, A2, a2, B2, b2, rfl, path_rt hR _ _ _, l2.le.trans l3.le, hT2, ?_⟩
      by_cases c0 : (t.pathR p (hset hzero 0 xs[i].key) keys).2 = 0
      · rw [if_pos c0, memV_path c0]
        exact hM.sub
      · rw [if_neg c0]
        exact hM.sub
    clear hM
    rintro v u w7 ⟨e, r, H2, A2, a2, B2, b2, rfl, hrt, l2, hT2, hM⟩
    refine ⟨fun w' => ∃ (r : Tr) (A2 : Option Addr) (a2 : Nat) (B2 : Option Addr) (b2 : Nat), r.Rt ∧ TrF H2 (tv A2 r.ls.length a2 B2 r.ps.length b2) r ∧ Mem H2 wb [fb g4 67 [.arr 65 (memV r)], fb g3 27 (tfd A2 r.ls.length a2 B2 r.ps.length b2)] w', ?_, ?_⟩
    · skip
      ((with_reducible (refine mop_cS trivial ?_ ?_)))
      · intro e0
        rw [if_pos e0] at hM
        ((with_reducible (refine mif_true ?_; refine mm_ld hM ?_; refine mm_st hM ?_; clear hM; intro _ hM)))
        exact ⟨r, A2, a2, B2, b2, hrt e0, hT2, hM.sub⟩
      · intro e0
        rw [if_neg e0] at hM
        ((with_reducible (refine mif_false ?_)))
        exact ⟨t, A, a, B, b, hR, hT.mono l2, hM.sub⟩
    clear hM hT2 hrt
    rintro u w8 ⟨r, A2, a2, B2, b2, hRr, hT2, hM⟩
    refine ⟨fun v u w' => ∃ k : Nat, v = .int .i64 (rnmL r k).length ∧ u = .int .i64 ((k : Int) + 1) ∧ k ≤ 64 ∧ hM.now w', fun _ u _ => match u with | .int _ k => 65 - k.toNat | _ => 0, ⟨0, rfl, rfl, by omega, hM⟩, ?_⟩
    rintro v u u9 w9 ⟨k, rfl, rfl, hk, hM⟩
    have hkl := rnmL_len r k
    ((with_reducible (refine mop_cS trivial ?_ ?_)))
    · intro hlt2
      have hsx := rnmL_succ r k
      have hma := memV_at (t := r) (x := (k : Int) + 1) (by omega)
      ((with_reducible (refine mif_true ?_)))
      refine ⟨fun v w' => v = .int .i64 (rnmL r (k + 1)).length ∧ hM.now w', ?_, ?_⟩
      · ((with_reducible (refine dp_c ?_ ?_)); (focus omega))
        refine dm_lda hM hma ?_
        ((with_reducible (refine dm_ld hM ?_)))
        refine dm_pure hM (fun w hM => place_c2 ((k : Int) + 1) hRr hT2 hM.fz) (fun w' hx hM => ?_)
        refine dp_c trivial ?_
        refine dp_cF trivial (fun c => c rfl) ?_
        ((with_reducible (refine mm_end hM ?_; clear hM; intro _ hM; refine mif_false ?_; refine mop_c ?_ ?_)); (focus omega))
        refine mm_lda hM hma ?_
        by_cases c : 0 ≤ r.place ((k : Int) + 1)
        · rw [decide_eq_true c]
          rw [if_pos c] at hsx
          ((with_reducible (refine mif_true ?_; refine mop_c ?_ ?_)); (focus omega))
          refine ⟨?_, hM⟩
          rw [hsx, List.length_append]
          push_cast
          rfl
        · rw [decide_eq_false c]
          rw [if_neg c, List.append_nil] at hsx
          ((with_reducible (refine mif_false ?_)))
          exact ⟨by rw [hsx], hM⟩
      rintro v u10 w10 ⟨rfl, hM⟩
      ((with_reducible (refine mop_c ?_ ?_)); (focus omega))
      exact ⟨⟨k + 1, rfl, by push_cast; rfl, by omega, hM⟩, by simp only; omega⟩
    · intro hge2
      obtain rfl : k = 64 := by omega
      ((with_reducible (refine mif_false ?_; refine mm_ld hM ?_)))
      refine mm_call hM (names_ok hRr hT2 hM.fz) ?_
      rintro H3 v w10 l3 hM ⟨K3, kc3, rfl, hK3⟩
      ((with_reducible (refine mop_c trivial ?_; refine mop_cF trivial ?_ ?_)); (focus (first | assumption | omega | with_reducible rfl | exact fun h => Bool.noConfusion h)); (with_reducible (refine mif_false ?_; refine mop_c ?_ ?_)); (focus omega))
      exact ⟨⟨i + 1, r, H3, A2, a2, B2, b2, rfl, by omega, hRr, (l1.trans l2).trans l3.le, hT2.mono l3.le, hM.sub⟩, by simp only; omega⟩
  · intro hge
    ((with_reducible (refine mif_false ?_)))
    exact ⟨rfl, hM.st⟩
end
end Go.Proofs.Ytopcnkejobomaaa
namespace Go.Proofs.Ytopcnkejobomaaa
open Go.ChangeShapes Go.WideShapes Go.ChangeAt Go.RowKit
set_option linter.unusedVariables false
theorem fl_arr1 (n : Nat) (l : List Value) : fl [.arr n l] = l := by simp [fl, Fd.cells]
theorem own : ownKnob Try.prog.godebug = none := by kernel_rfl
theorem laidOut : laidOutB Try.prog = true := by kernel_rfl
set_option maxRecDepth 100000 in
theorem treeNames_lifted (os : Os) (started : os.Started) (H : Type) (enc : TypeId × Value → H) :
    ReturnsInHanded {} Try.checked os 9 .any (Rows.treeNamesSpec.pre6 enc Try.prog Try.f9 Rows.treeNamesRow.domain false) (Rows.treeNamesSpec.post enc Try.prog Try.f9 false true false false) := by
  refine returnsInHanded_of_change (C := Try.checked) own started (by kernel_rfl) Try.func9
    (ChangeSpec.witness6 (enc := enc) (C := Try.checked) false ⟨#[], #[.slice none 0 0], []⟩ 8 (by kernel_rfl) (by kernel_rfl) (by kernel_rfl) (by kernel_rfl)) ?_
  intro W base args ds gs before hval0 hW hcnd _
  have hval : ∀ (j : Nat) t v, Try.f9.params[j]? = some t → args[j]? = some v → Value.okWide Try.prog W .any base t v := hval0
  have hW' := hW
  obtain ⟨p, q, hA0, hV, rfl, hfz, hnd⟩ := hW
  have hA : DataW.TrodAll enc Try.prog W 0 (fun _ => true) true Try.f9.params.toList args.toList ds p := hA0
  rw [Try.params9] at hA hval
  obtain ⟨v0, vs0, d0, ds0, p0, q0, hargs, rfl, rfl, h0, r0⟩ := trodAll_cons hA
  obtain ⟨rfl, rfl, rfl⟩ := trodAll_nil r0
  obtain rfl : args = #[v0] := by cases args; simp_all
  obtain ⟨rfl, rfl⟩ := trodVars_none hV
  have k0 := h0
  have lt0 : ∀ x ∈ p0, x.block < W.heap.size := by obtain ⟨m, hm⟩ := k0; exact DataW.trod_lt m _ _ _ hm
  obtain ⟨m0, hm0⟩ := h0
  obtain ⟨fs0, x0, e0, ok0, -, hr0⟩ := (rdr_acs).read enc W 0 _ _ m0 _ _ hm0
  obtain ⟨K, kc, rfl, hkl, hK, hg⟩ := hr0
  obtain rfl := arg_one (t := 22) (by kernel_rfl) (hval 0 22 v0 rfl rfl) e0
  clear hA0 hval0
  have hc := treeNames_ok (kc := kc) x0 hkl hK hg (Fz.of W)
  refine hc.mono fun e W' ⟨he, hst⟩ => ?_
  subst he
  have bel : Below W.heap.size W W' := hst.only.below (Nat.le_refl _) (fun _ _ h => by obtain ⟨_, hb, _⟩ := h; cases hb)
  exact ⟨_, rfl, _, _, _, [], _, [], hW', trodAll_mk1 (shut_bool Try.underlying4 _), (trodAll_cons_mk (Below.trod laidOut (by kernel_rfl) (of_decide_eq_true (by kernel_rfl)) k0 bel lt0) trodAll_mk0), rfl, bel.frame _, fun h => by cases h⟩
theorem treeNames_proved : Rows.TreeNamesSaid :=
  OpenClaim.holds_of_wide 9 Try.f9 rfl rfl rfl rfl rfl rfl rfl ⟨rfl, rfl, rfl, rfl, rfl⟩ rfl rfl rfl rfl rfl (by kernel_rfl) Try.func9 (by kernel_rfl)
    (of_decide_eq_true (by kernel_rfl)) (by unfold Func.isWrapper; first | (rw [if_pos (by decide +kernel)]; kernel_rfl) | (rw [if_neg (by decide +kernel)]; exact ⟨rfl, rfl⟩))
    (fun os started H enc _ => treeNames_lifted os started H enc)
#print axioms treeNames_proved
end Go.Proofs.Ytopcnkejobomaaa
