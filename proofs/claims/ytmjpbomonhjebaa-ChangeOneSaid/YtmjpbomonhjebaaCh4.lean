/- Change: proposals out of bytes; names. -/
import Derived.Test.YtmjpbomonhjebaaWire4
import Derived.Test.YtmjpbomonhjebaaMpn
import Derived.Test.YtmjpbomonhjebaaCh3
namespace Go.Proofs.Ytmjpbomonhjebaa
open Go.RowKit

def q1 (s : RdS) := hsS s
def q2 (s : RdS) := nmS 4611686018427387903 (q1 s).2
def q3 (s : RdS) := nmS 64 (q2 s).2
def q4 (s : RdS) := nmS 4611686018427387903 (q3 s).2
def q5 (s : RdS) := nmS 3 (q4 s).2
def q6 (s : RdS) := nmS 64 (q5 s).2
def q7 (s : RdS) := hsS (q6 s).2
def q8 (s : RdS) := hsS (q7 s).2
def prpR (s : RdS) : Prp := ⟨(q1 s).1, (q2 s).1, (q3 s).1, (q4 s).1, (q5 s).1, (q6 s).1, (q7 s).1, (q8 s).1⟩
def prpE (s : RdS) : Int := endS (q8 s).2
def prpU (s : RdS) : Prp × Int := if prpE s ≠ 0 then (p0, prpE s) else if ¬ (prpR s).right then (p0, 3) else (prpR s, 0)
section
variable {H : Hp} {w0 w : World} {L R : List Res} {g : Nat} {s : RdS}
theorem rtakeP_ok (hM : Mem H w0 (rrO g s :: L) w) : Calls Try.prog 66 #[.pointer (some ⟨g, 0, none⟩)] w fun en w' => en = .returned (.tuple #[prv (prpR s), .bool (decide (prpR s).right)]) ∧ Mem H w0 (rrO g (q8 s).2 :: L) w' := by
  refine C_bevyref10_Take ?_
  unfold F_bevyref10_Take
  ((with_reducible (refine mm_new hM ?_; clear hM; intro _ _ hM; refine mop_c trivial ?_; refine mm_new hM ?_; clear hM; intro _ _ hM; refine mm_st hM ?_; clear hM; intro _ hM; refine mm_ownC hM ?_ ?_)); (focus (first | exact trivial | assumption | omega)); (with_reducible (clear hM; intro _ hM; refine mop_c trivial ?_; refine mm_st hM ?_; clear hM; intro _ hM; refine mm_ownC hM ?_ ?_)); (focus (first | exact trivial | assumption | omega)); (with_reducible (clear hM; intro _ hM; refine mop_c trivial ?_; refine mm_st hM ?_; clear hM; intro _ hM; refine mm_ownC hM ?_ ?_)); (focus (first | exact trivial | assumption | omega)); (with_reducible (clear hM; intro _ hM; refine mop_c trivial ?_; refine mm_st hM ?_; clear hM; intro _ hM; refine mm_ownC hM ?_ ?_)); (focus (first | exact trivial | assumption | omega)); (with_reducible (clear hM; intro _ hM; refine mop_c trivial ?_; refine mm_st hM ?_; clear hM; intro _ hM; refine mm_ownC hM ?_ ?_)); (focus (first | exact trivial | assumption | omega)); (with_reducible (clear hM; intro _ hM; refine mop_c trivial ?_; refine mop_c trivial ?_; refine mm_st hM ?_; clear hM; intro _ hM; refine mm_ownC hM ?_ ?_)); (focus (first | exact trivial | assumption | omega)); (with_reducible (clear hM; intro _ hM; refine mop_c trivial ?_; refine mop_c trivial ?_; refine mm_st hM ?_; clear hM; intro _ hM; refine mm_ownC hM ?_ ?_)); (focus (first | exact trivial | assumption | omega)); (with_reducible (clear hM; intro _ hM; refine mop_c trivial ?_; refine mop_c trivial ?_; refine mm_st hM ?_; clear hM; intro _ hM; refine mm_ownC hM ?_ ?_)); (focus (first | exact trivial | assumption | omega)); (with_reducible (clear hM; intro _ hM; refine mop_c trivial ?_; refine mm_st hM ?_; clear hM; intro _ hM; refine dm_ld hM ?_; refine dm_ld hM ?_)))
  refine dm_pure hM (fun w _ => rright_ok (prpR s) w) (fun w2 _ hM => ?_)
  ((with_reducible (refine dS_st hM ?_; clear hM; intro _ hM; refine mm_end hM ?_; clear hM; intro _ hM; refine rm_ld hM ?_)))
  have hM : Mem H w0 (_ :: _ :: rrO g (q8 s).2 :: L) _ := hM
  exact ⟨rfl, hM.sub⟩
instance (g : Nat) (s : RdS) : OwnC Try.prog 66 [.pointer (some ⟨g, 0, none⟩)] (rrO g s) True (rrO g (q8 s).2) (.tuple #[prv (prpR s), .bool (decide (prpR s).right)]) := ⟨fun _ _ _ _ _ hM => rtakeP_ok hM⟩
theorem runpack_ok (he : s.e = 0) (w : World) : Calls Try.prog 28 #[.string (strOfNums s.l)] w fun en w' => en = .returned (.tuple #[prv (prpU s).1, .int .i64 (prpU s).2]) ∧ St w [] w' := by
  have hM := Mem.start (Fz.of w)
  refine C_bevyref10_Unpack ?_
  unfold F_bevyref10_Unpack
  ((with_reducible (refine mm_new hM ?_; clear hM; intro _ _ hM; refine mop_c trivial ?_; refine mm_box hM ?_; clear hM; intro _ _ hM)))
  rename_i g2 _ g3 w3
  have hM : Mem (Hp.of w) w [rrO g3 s, fb g2 27 p0.fds] w3 := by unfold rrO rdC; rw [he]; exact hM
  ((with_reducible (refine mm_ownC hM ?_ ?_)); (focus (first | exact trivial | assumption | omega)); (with_reducible (clear hM; intro _ hM; refine mop_c trivial ?_; refine mop_c trivial ?_; refine mm_new hM ?_; clear hM; intro _ _ hM; refine mm_st hM ?_; clear hM; intro _ hM; refine mm_ownC hM ?_ ?_)); (focus (first | exact trivial | assumption | omega)); (with_reducible (clear hM; intro _ hM)))
  unfold prpU
  by_cases h1 : prpE s = 0
  · have h1' : endS (q8 s).2 = 0 := h1
    rw [if_neg (by simp [h1])]
    ((with_reducible (refine mop_cF trivial ?_ ?_)); (focus (first | assumption | omega | with_reducible rfl | exact fun h => Bool.noConfusion h)); (with_reducible (refine mif_false ?_; refine mop_c trivial ?_)))
    by_cases h2 : (prpR s).right
    · rw [decide_eq_true h2, if_neg (by simp [h2])]
      ((with_reducible (refine mif_nt ?_; refine mm_ld hM ?_; refine mm_st hM ?_; clear hM; intro _ hM; refine rm_ld hM ?_)))
      exact ⟨rfl, hM.st⟩
    · rw [decide_eq_false h2, if_pos h2]
      ((with_reducible (refine mif_nf ?_; refine mop_c trivial ?_; refine mm_st hM ?_; clear hM; intro _ hM; refine rm_ld hM ?_)))
      exact ⟨rfl, hM.st⟩
  · have h1' : endS (q8 s).2 ≠ 0 := h1
    rw [if_pos h1]
    ((with_reducible (refine mop_cT trivial ?_ ?_)); (focus (first | assumption | omega | with_reducible rfl | exact fun h => Bool.noConfusion h)); (with_reducible (refine mif_true ?_; refine mop_c trivial ?_; refine mm_ownC hM ?_ ?_)); (focus (first | exact trivial | assumption | omega)); (with_reducible (clear hM; intro _ hM; refine mm_st hM ?_; clear hM; intro _ hM; refine rm_ld hM ?_)))
    exact ⟨rfl, hM.st⟩
instance (s : RdS) : PurC Try.prog 28 [.string (strOfNums s.l)] (s.e = 0) (.tuple #[prv (prpU s).1, .int .i64 (prpU s).2]) := ⟨fun h w => runpack_ok h w⟩
/-- The deferred closure behind a panic. -/
theorem unrec_ok {a b : Nat} {RR : Ending → World → Prop} (p : Prp) (e e2 : Int) (hM : Mem H w0 (fb a 27 p.fds :: fb b 37 [.one (.int .i64 e)] :: L) w) (hR : ∀ w', Mem H w0 L w' → RR (.returned (.tuple #[prv p0, .int .i64 e2])) w') :
    CallsD Try.prog 61 #[.pointer (some ⟨a, 0, none⟩), .pointer (some ⟨b, 0, none⟩)] (.panicking [{ v := .iface 89 (.agg (fl [Fd.one (.int .i64 e2)]).toArray), recovered := false }]) w (dres Try.prog [(27, .pointer (some ⟨a, 0, none⟩)), (37, .pointer (some ⟨b, 0, none⟩))] RR) := by
  refine C_change_Unpack_1 ?_
  unfold F_change_Unpack_1
  refine mop_pur (v := .bool true) (fun w => by kernel_rfl) ?_
  ((with_reducible (refine mif_true ?_)))
  refine mop_pur (v := .tuple #[.agg (fl [Fd.one (.int .i64 e2)]).toArray, .bool true]) (fun w => by kernel_rfl) ?_
  ((with_reducible (refine mop_c trivial ?_; refine mop_c trivial ?_; refine mm_new hM ?_; clear hM; intro _ _ hM; refine mm_st hM ?_; clear hM; intro _ hM)))
  rename_i g _ _
  refine ⟨fun w' => hM.now w', ?_, ?_⟩
  · ((with_reducible (refine mop_c trivial ?_; refine mif_false ?_)))
    exact hM
  rintro u w2 hM
  have hne : ¬ g = a := (hM.upB g).neB
  refine ⟨Rl.only fun b => b = a, ?_⟩
  ((with_reducible (refine dp_c trivial ?_; refine dp_c trivial ?_)))
  refine dS_ld hM hne ?_
  refine dS_stX hM (fun w5 hM => ?_)
  ((with_reducible (refine dS_st hM ?_; clear hM; intro _ hM; refine mm_end hM ?_; clear hM; intro _ hM)))
  show retc _ _ _ _
  refine rm_ld (hM.at_ (fb a 27 p0.fds)) ?_
  refine rm_ld (hM.at_ (fb b 37 [.one (.int .i64 e2)])) ?_
  exact hR _ hM.sub
/-- Behind a return. -/
theorem unret_ok {a b : Nat} {RR : Ending → World → Prop} (p : Prp) (e : Int) (hM : Mem H w0 (fb a 27 p.fds :: fb b 37 [.one (.int .i64 e)] :: L) w) (hR : ∀ w', Mem H w0 L w' → RR (.returned (.tuple #[prv p, .int .i64 e])) w') :
    CallsD Try.prog 61 #[.pointer (some ⟨a, 0, none⟩), .pointer (some ⟨b, 0, none⟩)] .returning w (dres Try.prog [(27, .pointer (some ⟨a, 0, none⟩)), (37, .pointer (some ⟨b, 0, none⟩))] RR) := by
  refine C_change_Unpack_1 ?_
  unfold F_change_Unpack_1
  refine mop_pur (v := .bool false) (fun w => by kernel_rfl) ?_
  ((with_reducible (refine mif_false ?_)))
  show retc _ _ _ _
  refine rm_ld hM ?_
  refine rm_ld (hM.at_ (fb b 37 [.one (.int .i64 e)])) ?_
  exact hR _ hM.sub
theorem unpack_ok (he : s.e = 0) (w : World) : Calls Try.prog 27 #[.string (strOfNums s.l)] w fun en w' => en = .returned (.tuple #[prv (prpU s).1, .int .i64 (prpU s).2]) ∧ St w [] w' := by
  have hM := Mem.start (Fz.of w)
  refine C_change_Unpack ?_
  unfold F_change_Unpack
  ((with_reducible (refine mm_new hM ?_; clear hM; intro _ _ hM; refine mm_new hM ?_; clear hM; intro _ _ hM)))
  rename_i g1 _ g2 _
  refine mm_own (from_ok s he hM) ?_
  rintro v w2 ⟨g, rfl, hM⟩
  ((with_reducible (refine mm_ownC hM ?_ ?_)); (focus (first | exact trivial | assumption | omega)); (with_reducible (clear hM; intro _ hM; refine mop_c trivial ?_; refine mm_st hM ?_; clear hM; intro _ hM; refine mm_ownC hM ?_ ?_)); (focus (first | exact trivial | assumption | omega)); (with_reducible (clear hM; intro _ hM; refine mop_c trivial ?_; refine mm_st hM ?_; clear hM; intro _ hM; refine mm_ownC hM ?_ ?_)); (focus (first | exact trivial | assumption | omega)); (with_reducible (clear hM; intro _ hM; refine mop_c trivial ?_; refine mm_st hM ?_; clear hM; intro _ hM; refine mm_ownC hM ?_ ?_)); (focus (first | exact trivial | assumption | omega)); (with_reducible (clear hM; intro _ hM; refine mop_c trivial ?_; refine mm_st hM ?_; clear hM; intro _ hM; refine mm_ownC hM ?_ ?_)); (focus (first | exact trivial | assumption | omega)); (with_reducible (clear hM; intro _ hM; refine mm_ownC hM ?_ ?_)); (focus (first | exact trivial | assumption | omega)); (with_reducible (clear hM; intro _ hM; refine mm_ownC hM ?_ ?_)); (focus (first | exact trivial | assumption | omega)); (with_reducible (clear hM; intro _ hM; refine mop_c trivial ?_; refine mop_c trivial ?_; refine mm_st hM ?_; clear hM; intro _ hM; refine mm_ownC hM ?_ ?_)); (focus (first | exact trivial | assumption | omega)); (with_reducible (clear hM; intro _ hM; refine mop_c trivial ?_; refine mm_st hM ?_; clear hM; intro _ hM)))
  have hM : Mem (Hp.of w) w [rdO g (q8 s).2, fb g2 37 [.one (.int .i64 0)], fb g1 27 (prpR s).fds] _ := hM
  unfold prpU
  refine ⟨fun w' => prpE s = 0 ∧ hM.now w', ?_, ?_⟩
  · ((with_reducible (refine mm_ownC hM ?_ (fun _ hM2 => ?_))); (focus (first | exact trivial | assumption | omega)); (with_reducible (replace hM := hM2; clear hM2)))
    by_cases h1 : prpE s = 0
    · have h1' : endS (q8 s).2 = 0 := h1
      ((with_reducible (refine mop_cF trivial ?_ ?_)); (focus (first | assumption | omega | with_reducible rfl | exact fun h => Bool.noConfusion h)); (with_reducible (refine mif_false ?_)))
      exact ⟨h1, hM⟩
    · have h1' : endS (q8 s).2 ≠ 0 := h1
      rw [if_pos h1]
      ((with_reducible (refine mop_cT trivial ?_ ?_)); (focus (first | assumption | omega | with_reducible rfl | exact fun h => Bool.noConfusion h)); (with_reducible (refine mif_true ?_; refine mop_c trivial ?_)))
      refine mop_pur (v := .iface 89 (.agg (fl [Fd.one (.int .i64 (prpE s))]).toArray)) (fun w => by kernel_rfl) ?_
      skip
      refine mop_panic ?_
      exact unrec_ok (prpR s) 0 (prpE s) (hM.sub (L' := [fb g1 27 (prpR s).fds, fb g2 37 [.one (.int .i64 0)]])) fun w' h => ⟨rfl, h.st⟩
  rintro u w3 ⟨h1, hM⟩
  rw [if_neg (by simp [h1])]
  refine ⟨fun w' => (prpR s).right ∧ hM.now w', ?_, ?_⟩
  · ((with_reducible (refine mm_ld hM ?_; refine mm_purC hM ?_ (fun _ hM2 => ?_))); (focus (first | exact trivial | assumption | omega)); (with_reducible (replace hM := hM2; clear hM2; refine mop_c trivial ?_)))
    by_cases h2 : (prpR s).right
    · rw [decide_eq_true h2]
      ((with_reducible (refine mif_nt ?_)))
      exact ⟨h2, hM⟩
    · rw [decide_eq_false h2, if_pos h2]
      ((with_reducible (refine mif_nf ?_; refine mop_c trivial ?_)))
      refine mop_pur (v := .iface 89 (.agg (fl [Fd.one (.int .i64 3)]).toArray)) (fun w => by kernel_rfl) ?_
      refine mop_panic ?_
      exact unrec_ok (prpR s) 0 3 (hM.sub (L' := [fb g1 27 (prpR s).fds, fb g2 37 [.one (.int .i64 0)]])) fun w' h => ⟨rfl, h.st⟩
  rintro u w4 ⟨h2, hM⟩
  rw [if_neg (by simp [h2])]
  ((with_reducible (refine mm_ld hM ?_; refine mm_st hM ?_; clear hM; intro _ hM; refine mm_st hM ?_; clear hM; intro _ hM)))
  exact unret_ok (prpR s) 0 (hM.sub (L' := [fb g1 27 (prpR s).fds, fb g2 37 [.one (.int .i64 0)]])) fun w' h => ⟨rfl, h.st⟩
instance (s : RdS) : PurC Try.prog 27 [.string (strOfNums s.l)] (s.e = 0) (.tuple #[prv (prpU s).1, .int .i64 (prpU s).2]) := ⟨fun h w => unpack_ok h w⟩
/-! ### Names -/
def idP (p : Prp) : H32 := shaH (ints schange ++ ints (packB p))
theorem cid_ok (p : Prp) (w : World) : Calls Try.prog 29 #[prv p] w fun en w' => en = .returned (.agg (u8s (if p.right then idP p else hzero).1).toArray) ∧ St w [] w' := by
  have hM := Mem.start (Fz.of w)
  have hl := textL_length p
  have l7 := p.sign.2.1
  have hsz : (packB p).size = (textL p ++ p.sign.1).length := strOfNums_size _
  rw [List.length_append] at hsz
  refine C_change_Id ?_
  unfold F_change_Id
  ((with_reducible (refine mm_box hM ?_; clear hM; intro _ _ hM; refine mm_new hM ?_; clear hM; intro _ _ hM; refine mm_ld hM ?_; refine mm_purC hM ?_ ?_)); (focus (first | exact trivial | assumption | omega)); (with_reducible (clear hM; intro _ hM; refine mop_c trivial ?_)))
  by_cases h : p.right
  · rw [decide_eq_true h, if_pos h]
    ((with_reducible (refine mif_nt ?_; refine mm_ld hM ?_; refine mm_purC hM ?_ ?_)); (focus (first | exact trivial | assumption | omega)); (with_reducible (clear hM; intro _ hM; refine mm_bsl hM ?_ ?_ ?_)); (focus rfl); (focus (constructor <;> simp)); (with_reducible (clear hM; intro _ _ hM)))
    rw [if_pos h] at hM
    refine mm_pure hM (sum2_ok schange (packB p) (by rw [hsz]; show 6 + _ < _; omega) hM) (fun w2 hM => ?_)
    ((with_reducible (refine mm_st hM ?_; clear hM; intro _ hM; refine rm_ld hM ?_)))
    exact ⟨rfl, hM.st⟩
  · rw [decide_eq_false h, if_neg h]
    ((with_reducible (refine mif_nf ?_; refine mop_c trivial ?_; refine mm_st hM ?_; clear hM; intro _ hM; refine rm_ld hM ?_)))
    exact ⟨rfl, hM.st⟩
instance (s : ByteArray) : PurC Try.prog 69 [.string s] (s.size < 1099511627776) (.agg (u8s (shaH (ints s)).1).toArray) := ⟨fun h w => refsum_ok s w h⟩
theorem rid_ok (p : Prp) (h : p.right) (w : World) : Calls Try.prog 30 #[prv p] w fun en w' => en = .returned (.agg (u8s (idP p).1).toArray) ∧ St w [] w' := by
  have hM := Mem.start (Fz.of w)
  have hl := textL_length p
  have l7 := p.sign.2.1
  have hsz : (packB p).size = (textL p ++ p.sign.1).length := strOfNums_size _
  rw [List.length_append] at hsz
  refine C_bevyref10_Id ?_
  unfold F_bevyref10_Id
  ((with_reducible (refine mm_box hM ?_; clear hM; intro _ _ hM; refine mm_new hM ?_; clear hM; intro _ _ hM; refine mm_ld hM ?_; refine mm_purC hM ?_ ?_)); (focus (first | exact trivial | assumption | omega)); (with_reducible (clear hM; intro _ hM)))
  refine mop_c (by rw [hsz]; show 6 + _ ≤ _; omega) ?_
  have hs2 : (schange ++ packB p).size < 1099511627776 := by rw [ByteArray.size_append, hsz]; show 6 + _ < _; omega
  ((with_reducible (refine mm_purC hM ?_ ?_)); (focus (first | exact trivial | assumption | omega)); (with_reducible (clear hM; intro _ hM; refine mm_st hM ?_; clear hM; intro _ hM; refine rm_ld hM ?_)))
  refine ⟨?_, hM.st⟩
  rw [ints_append]
  rfl
instance (p : Prp) : PurC Try.prog 29 [prv p] True (.agg (u8s (if p.right then idP p else hzero).1).toArray) := ⟨fun _ w => cid_ok p w⟩
instance (p : Prp) : PurC Try.prog 30 [prv p] p.right (.agg (u8s (idP p).1).toArray) := ⟨fun h w => rid_ok p h w⟩
/-! ### What is read is what was packed -/
theorem prp_read {s : RdS} (h : prpE s = 0) : s.e = 0 ∧ s.l = textL (prpR s) ++ (prpR s).sign.1 := by
  obtain ⟨h8, l9⟩ := endS_ok h
  obtain ⟨h7, l8⟩ := hsS_ok (s := (q7 s).2) h8
  obtain ⟨h6, l7⟩ := hsS_ok (s := (q6 s).2) h7
  obtain ⟨h5, l6⟩ := nmS_ok (s := (q5 s).2) h6
  obtain ⟨h4, l5⟩ := nmS_ok (s := (q4 s).2) h5
  obtain ⟨h3, l4⟩ := nmS_ok (s := (q3 s).2) h4
  obtain ⟨h2, l3⟩ := nmS_ok (s := (q2 s).2) h3
  obtain ⟨h1, l2⟩ := nmS_ok (s := (q1 s).2) h2
  obtain ⟨h0, l1⟩ := hsS_ok (s := s) h1
  refine ⟨h0, ?_⟩
  have l1 : s.l = (prpR s).epoch.1 ++ (q1 s).2.l := l1
  have l2 : (q1 s).2.l = numB (prpR s).depth ++ (q2 s).2.l := l2
  have l3 : (q2 s).2.l = numB (prpR s).author ++ (q3 s).2.l := l3
  have l4 : (q3 s).2.l = numB (prpR s).seq ++ (q4 s).2.l := l4
  have l5 : (q4 s).2.l = numB (prpR s).kind ++ (q5 s).2.l := l5
  have l6 : (q5 s).2.l = numB (prpR s).name ++ (q6 s).2.l := l6
  have l7 : (q6 s).2.l = (prpR s).pub.1 ++ (q7 s).2.l := l7
  have l8 : (q7 s).2.l = (prpR s).sign.1 ++ (q8 s).2.l := l8
  rw [l1, l2, l3, l4, l5, l6, l7, l8, l9]
  simp [textL]
theorem prp_back {s : RdS} {p : Prp} (hp : p.right) (hl : s.l = textL p ++ p.sign.1) (he : s.e = 0) : prpU s = (p, 0) := by
  obtain ⟨hd, ha, hn, hs, hk⟩ := hp
  have hk3 : 0 ≤ p.kind ∧ p.kind ≤ 3 := by
    by_cases h : p.kind = 2
    · omega
    · rw [if_neg h] at hk
      omega
  obtain ⟨e1, l1, h1⟩ := hsS_back (h := p.epoch) (s := s) (r := numB p.depth ++ (numB p.author ++ (numB p.seq ++ (numB p.kind ++ (numB p.name ++ (p.pub.1 ++ p.sign.1)))))) (by rw [hl, textL]; simp only [List.append_assoc]) he
  obtain ⟨e2, l2, h2⟩ := nmS_back (most := 4611686018427387903) (n := p.depth) (s := (q1 s).2) (r := _) (by omega) (by omega) l1 h1
  obtain ⟨e3, l3, h3⟩ := nmS_back (most := 64) (n := p.author) (s := (q2 s).2) (r := _) (by omega) (by omega) l2 h2
  obtain ⟨e4, l4, h4⟩ := nmS_back (most := 4611686018427387903) (n := p.seq) (s := (q3 s).2) (r := _) (by omega) (by omega) l3 h3
  obtain ⟨e5, l5, h5⟩ := nmS_back (most := 3) (n := p.kind) (s := (q4 s).2) (r := _) (by omega) (by omega) l4 h4
  obtain ⟨e6, l6, h6⟩ := nmS_back (most := 64) (n := p.name) (s := (q5 s).2) (r := _) (by omega) (by omega) l5 h5
  obtain ⟨e7, l7, h7⟩ := hsS_back (h := p.pub) (s := (q6 s).2) (r := _) l6 h6
  obtain ⟨e8, l8, h8⟩ := hsS_back (h := p.sign) (s := (q7 s).2) (r := []) (by rw [List.append_nil]; exact l7) h7
  have hp : prpR s = p := by
    obtain ⟨a, b, c, d, e, f, g, h⟩ := p
    simp only [prpR, Prp.mk.injEq]
    exact ⟨e1, e2, e3, e4, e5, e6, e7, e8⟩
  have hE : prpE s = 0 := endS_back l8 h8
  unfold prpU
  rw [if_neg (by simp [hE]), hp, if_neg (by simp; exact ⟨hd, ha, hn, hs, hk⟩)]
end
end Go.Proofs.Ytmjpbomonhjebaa
