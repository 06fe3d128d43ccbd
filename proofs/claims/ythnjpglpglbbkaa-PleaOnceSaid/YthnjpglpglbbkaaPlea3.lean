/- Plea: Move. -/
import Derived.Test.YthnjpglpglbbkaaPlea2
namespace Go.Proofs.Ythnjpglpglbbkaa
open Go.RowKit

/-- What is left, what is asked anew, what was dropped. -/
structure Mvs where
  left : List Ple
  anew : List Ple
  drop : List Ple
def mv1 (head : H32) (done : List Int) (f : Chg → Int) (s : Mvs) (p : Ple) : Mvs :=
  if p.seq ∈ done ∨ p.epoch = head then ⟨s.left ++ [p], s.anew, s.drop⟩
  else if f p.chg ≠ 0 then ⟨s.left, s.anew, s.drop ++ [⟨p.seq, p.chg, p.epoch, f p.chg⟩]⟩
  else ⟨s.left ++ [⟨p.seq, p.chg, head, f p.chg⟩], s.anew ++ [⟨p.seq, p.chg, head, f p.chg⟩], s.drop⟩
def mvs (head : H32) (done : List Int) (f : Chg → Int) (op dr : List Ple) : Mvs := op.foldl (mv1 head done f) ⟨[], [], dr⟩
theorem mvs_succ (head : H32) (done : List Int) (f : Chg → Int) (op dr : List Ple) (i : Nat) (h : i < op.length) : mvs head done f (op.take (i + 1)) dr = mv1 head done f (mvs head done f (op.take i) dr) op[i] := by
  unfold mvs
  rw [List.take_succ_eq_append_getElem h, List.foldl_append]
  rfl
theorem mvs_len (head : H32) (done : List Int) (f : Chg → Int) (op dr : List Ple) : (mvs head done f op dr).left.length ≤ op.length ∧ (mvs head done f op dr).anew.length ≤ op.length ∧ (mvs head done f op dr).drop.length ≤ op.length + dr.length := by
  have key : ∀ (l : List Ple) (s : Mvs), (l.foldl (mv1 head done f) s).left.length ≤ l.length + s.left.length ∧ (l.foldl (mv1 head done f) s).anew.length ≤ l.length + s.anew.length ∧ (l.foldl (mv1 head done f) s).drop.length ≤ l.length + s.drop.length := by
    intro l
    induction l with
    | nil => intro s; simp
    | cons p l ih =>
      intro s
      have := ih (mv1 head done f s p)
      have h1 : (mv1 head done f s p).left.length ≤ s.left.length + 1 ∧ (mv1 head done f s p).anew.length ≤ s.anew.length + 1 ∧ (mv1 head done f s p).drop.length ≤ s.drop.length + 1 := by
        unfold mv1
        split
        · simp
        · split <;> simp
      simp only [List.foldl_cons, List.length_cons]
      omega
  have := key op ⟨[], [], dr⟩
  simpa [mvs] using this
/-- The last so many. -/
def trim (l : List Ple) : List Ple := l.drop (l.length - 32)
section
variable {H : Hp} {w0 w : World} {L R : List Res}
theorem Sl.drop {H : Hp} {sz b o : Nat} {ps : List (List Fd)} (h : Sl H sz (some ⟨b, o, none⟩) ps) (k : Nat) : Sl H sz (some ⟨b, o + k * sz, none⟩) (ps.drop k) := by
  refine ⟨h.els.drop k, ?_⟩
  rcases Nat.lt_or_ge k ps.length with hk | hk
  · rcases h.at_ with rfl | ⟨b', o', c, hA, hH, hc⟩
    · simp at hk
    · cases hA
      refine .inr ⟨b, o + k * sz, c, rfl, hH, fun j u hu => ?_⟩
      have e : fls ps = fls (ps.take k) ++ fls (ps.drop k) := by rw [← fls_app, List.take_append_drop]
      have ht : (fls (ps.take k)).length = k * sz := by rw [(h.els.take k).len, List.length_take, Nat.min_eq_left (by omega)]
      have := hc (k * sz + j) u (by rw [e, List.getElem?_append_right (by omega), ht, show k * sz + j - k * sz = j by omega]; exact hu)
      rwa [show o + k * sz + j = o + (k * sz + j) by omega]
  · exact .inl (List.drop_eq_nil_of_le hk)
theorem move_ok (g : Nat) (last : Int) (op dr : List Ple) (head : H32) (Ad : Option Addr) (cd : Nat) (done : List Int) (cf : Value) (f : Chg → Int) (hf : CloP Try.prog cf cv fun c => .int .i64 (f c)) (hb : op.length < 1000) (hdr : dr.length < 1000) (hd : done.length < 100000)
    (hs : Sl H 1 Ad (i64s done)) (hM : Mem H w0 (listR g last op dr :: L) w) :
    Calls Try.prog 65 #[.pointer (some ⟨g, 0, none⟩), ha head, .slice Ad done.length cd, cf] w fun en w' => ∃ v, en = .returned v ∧ ∃ H' A n c, v = .slice A n c ∧ n = (mvs head done f op dr).anew.length ∧ Le w0 H H' ∧ Sl H' 68 A ((mvs head done f op dr).anew.map Ple.fds) ∧ Mem H' w0 (listR g last (mvs head done f op dr).left (trim (mvs head done f op dr).drop) :: L) w' := by
  obtain ⟨A1, c1, A2, c2, hM⟩ := hM.list
  refine C_plea_List_Move ?_
  unfold F_plea_List_Move
  ((with_reducible (refine mm_box hM ?_; clear hM; intro _ _ hM; refine mop_c trivial ?_; refine mif_false ?_; refine mop_c trivial ?_; refine mop_c trivial ?_; refine mm_ld hM ?_; refine mop_c trivial ?_)))
  rename_i b5 _
  refine ⟨fun x y z w => ∃ (i : Nat) (A3 : Option Addr) (c3 : Nat) (A4 : Option Addr) (c4 : Nat) (A5 : Option Addr) (c5 : Nat), x = .slice A3 (mvs head done f (op.take i) dr).anew.length c3 ∧ y = .slice A4 (mvs head done f (op.take i) dr).left.length c4 ∧ z = .int .i64 i ∧ i ≤ op.length ∧
    Mem H w0 (prow A3 (mvs head done f (op.take i) dr).anew.length c3 (mvs head done f (op.take i) dr).anew :: prow A4 (mvs head done f (op.take i) dr).left.length c4 (mvs head done f (op.take i) dr).left :: fb b5 30 [.arr 32 (u8s head.1)] ::
      fb g 175 [.one (.int .i64 last), .one (.slice A1 op.length c1), .one (.slice A5 (mvs head done f (op.take i) dr).drop.length c5)] :: prow A1 op.length c1 op :: prow A5 (mvs head done f (op.take i) dr).drop.length c5 (mvs head done f (op.take i) dr).drop :: L) w,
    fun _ _ z _ => match z with | .int _ i => op.length - i.toNat | _ => 0, ⟨0, none, 0, none, 0, A2, c2, rfl, rfl, rfl, by omega, (hM.row0 129 68).row0 129 68⟩, ?_⟩
  clear hM
  rintro x y z u w2 ⟨i, A3, c3, A4, c4, A5, c5, rfl, rfl, rfl, hi, hM⟩
  have hlen := mvs_len head done f (op.take i) dr
  rw [List.length_take] at hlen
  ((with_reducible (refine mop_cS trivial ?_ ?_)))
  · intro hlt
    have hlt' : i < op.length := by omega
    ((with_reducible (refine mif_true ?_)))
    refine ⟨fun x y w => ∃ (A3 : Option Addr) (c3 : Nat) (A4 : Option Addr) (c4 : Nat) (A5 : Option Addr) (c5 : Nat), x = .slice A3 (mvs head done f (op.take (i + 1)) dr).anew.length c3 ∧ y = .slice A4 (mvs head done f (op.take (i + 1)) dr).left.length c4 ∧
      Mem H w0 (prow A3 (mvs head done f (op.take (i + 1)) dr).anew.length c3 (mvs head done f (op.take (i + 1)) dr).anew :: prow A4 (mvs head done f (op.take (i + 1)) dr).left.length c4 (mvs head done f (op.take (i + 1)) dr).left :: fb b5 30 [.arr 32 (u8s head.1)] ::
      fb g 175 [.one (.int .i64 last), .one (.slice A1 op.length c1), .one (.slice A5 (mvs head done f (op.take (i + 1)) dr).drop.length c5)] :: prow A1 op.length c1 op :: prow A5 (mvs head done f (op.take (i + 1)) dr).drop.length c5 (mvs head done f (op.take (i + 1)) dr).drop :: L) w, ?_, ?_⟩
    · rw [mvs_succ _ _ _ _ _ _ hlt']
      generalize mvs head done f (op.take i) dr = s at hM hlen ⊢
      ((with_reducible (refine mm_ixr hM ?_ ?_)); (focus omega); (with_reducible (intro _ hA)); (cases hA); (with_reducible (refine mm_ldr0 hM (map_atI ?_) ?_)); (focus omega); (with_reducible (refine mm_new hM ?_; clear hM; intro _ _ hM; refine mm_st hM ?_; clear hM; intro _ hM)))
      rename_i b12 _ _
      refine ⟨fun x w => x = .bool (decide (op[i].seq ∈ done ∨ op[i].epoch = head)) ∧ hM.now w, ?_, ?_⟩
      · ((with_reducible (refine mop_c trivial ?_; refine mm_ld hM ?_)))
        refine mm_pure hM (isin_ok Ad cd _ done op[i].seq rfl (by omega) hs hM.fz) (fun w3 hM => ?_)
        cases hin : decide (op[i].seq ∈ done)
        · simp at hin
          ((with_reducible (refine mguard_yes ?_; refine mop_c trivial ?_; refine mguard_yes ?_; refine mm_ld hM ?_; refine mguard_yes ?_; refine mm_ld hM ?_; refine mguard_yes ?_)))
          ((with_reducible (refine mop_cS trivial ?_ ?_))) <;>
          · intro he
            ((with_reducible (refine mop_c trivial ?_)))
            exact ⟨by simp [hin, he], hM⟩
        · simp at hin
          ((with_reducible ((iterate 4 refine mguard_n1 ?_); refine mop_c trivial ?_)))
          exact ⟨by simp [hin], hM⟩
      · rintro x u w3 ⟨rfl, hM⟩
        by_cases h1 : op[i].seq ∈ done ∨ op[i].epoch = head
        · rw [decide_eq_true h1]
          have e : mv1 head done f s op[i] = ⟨s.left ++ [op[i]], s.anew, s.drop⟩ := by rw [mv1, if_pos h1]
          rw [e]
          simp only [List.length_append, List.length_cons, List.length_nil, Nat.zero_add]
          ((with_reducible (refine mif_true ?_; refine mm_ld hM ?_; refine mm_bsl hM ?_ ?_ ?_)); (focus rfl); (focus (constructor <;> simp)); (with_reducible (clear hM; intro _ _ hM; refine mm_appo hM ?_ ?_)); (focus omega); (with_reducible (clear hM; intro _ _ _ hM)))
          rw [psnoc s.left op[i]] at hM
          exact ⟨A3, c3, _, _, A5, c5, rfl, rfl, (hM.rm b12).up A3⟩
        · rw [decide_eq_false h1]
          ((with_reducible (refine mif_false ?_; refine mop_c trivial ?_; refine mm_ld hM ?_)))
          refine hf op[i].chg _ _ _ _ _ _ hM (fun w4 hM => ?_)
          ((with_reducible (refine mop_c trivial ?_; refine mm_st hM ?_; clear hM; intro _ hM; refine mop_c trivial ?_; refine mm_ld hM ?_)))
          ((with_reducible (refine mop_cS trivial ?_ ?_)))
          · intro h2
            have e : mv1 head done f s op[i] = ⟨s.left, s.anew, s.drop ++ [⟨op[i].seq, op[i].chg, op[i].epoch, f op[i].chg⟩]⟩ := by rw [mv1, if_neg h1, if_pos h2]
            rw [e]
            simp only [List.length_append, List.length_cons, List.length_nil, Nat.zero_add]
            ((with_reducible (refine mif_true ?_; refine dp_c trivial ?_; refine dp_c trivial ?_; refine dm_ld hM ?_; refine dm_ld hM ?_; refine dS_bsl hM ?_ ?_ ?_)); (focus rfl); (focus (constructor <;> simp)); (with_reducible (clear hM; intro _ _ hM; refine dS_appF hM ?_ ?_)); (focus omega); (with_reducible (clear hM; intro _ _ _ hM; refine dp_c trivial ?_; refine dp_c trivial ?_; refine dS_st hM ?_; clear hM; intro _ hM; refine mm_end hM ?_; clear hM; intro _ hM)))
            rename_i A6 c6 _ _ _
            rw [psnoc s.drop ⟨op[i].seq, op[i].chg, op[i].epoch, f op[i].chg⟩] at hM
            exact ⟨A3, c3, A4, c4, A6, c6, rfl, rfl, hM.sub⟩
          · intro h2
            have e : mv1 head done f s op[i] = ⟨s.left ++ [⟨op[i].seq, op[i].chg, head, f op[i].chg⟩], s.anew ++ [⟨op[i].seq, op[i].chg, head, f op[i].chg⟩], s.drop⟩ := by rw [mv1, if_neg h1, if_neg h2]
            rw [e]
            simp only [List.length_append, List.length_cons, List.length_nil, Nat.zero_add]
            ((with_reducible (refine mif_false ?_; refine mm_ld hM ?_; refine mop_c trivial ?_; refine mm_st hM ?_; clear hM; intro _ hM)))
            refine ⟨fun k => A3 = some ⟨k, 0, none⟩, ?_, ?_, ?_⟩
            all_goals
              (first | ((with_reducible (refine dS_ld hM hM.neA ?_; refine dS_ld hM hM.neA ?_; refine dS_bsl hM ?_ ?_ ?_)); (focus rfl); (focus (constructor <;> simp)); (with_reducible (clear hM; intro _ _ hM; refine dS_appo hM ?_ ?_)); (focus omega); (with_reducible (clear hM; intro _ _ _ hM; refine dS_bsl hM ?_ ?_ ?_)); (focus rfl); (focus (constructor <;> simp)); (with_reducible (clear hM; intro _ _ hM; refine dS_appF hM ?_ ?_)); (focus omega); (with_reducible (clear hM; intro _ _ _ hM; refine mm_end hM ?_; clear hM; intro _ hM))) | ((with_reducible (refine dS_ld hM hM.neA ?_; refine dS_ld hM hM.neA ?_; refine dS_bsl hM ?_ ?_ ?_)); (focus rfl); (focus (constructor <;> simp)); (with_reducible (clear hM; intro _ _ hM; refine dS_bsl hM ?_ ?_ ?_)); (focus rfl); (focus (constructor <;> simp)); (with_reducible (clear hM; intro _ _ hM; refine dS_appo hM ?_ ?_)); (focus omega); (with_reducible (clear hM; intro _ _ _ hM; refine dS_appF hM ?_ ?_)); (focus omega); (with_reducible (clear hM; intro _ _ _ hM; refine mm_end hM ?_; clear hM; intro _ hM))))
              rw [psnoc s.left ⟨op[i].seq, op[i].chg, head, f op[i].chg⟩, psnoc s.anew ⟨op[i].seq, op[i].chg, head, f op[i].chg⟩] at hM
              exact ⟨_, _, _, _, A5, c5, rfl, rfl, (hM.rm b12).perm (.swap ..)⟩
    · rintro x y u w3 ⟨A3, c3, A4, c4, A5, c5, rfl, rfl, hM⟩
      ((with_reducible (refine mop_c ?_ ?_)); (focus omega))
      exact ⟨⟨i + 1, A3, c3, A4, c4, A5, c5, rfl, rfl, by simp, by omega, hM⟩, by simp; omega⟩
  · intro hge
    have : i = op.length := by omega
    subst this
    rw [List.take_length] at hM hlen ⊢
    generalize mvs head done f op dr = s at hM hlen ⊢
    ((with_reducible (refine mif_false ?_; refine mop_c trivial ?_; refine mop_c trivial ?_; refine mm_st hM ?_; clear hM; intro _ hM)))
    have hM := (hM.up A1).drop
    refine ⟨fun w' => ∃ (A6 : Option Addr) (c6 : Nat), Mem H w0 (prow A6 (trim s.drop).length c6 (trim s.drop) :: prow A3 s.anew.length c3 s.anew :: fb g 175 [.one (.int .i64 last), .one (.slice A4 s.left.length c4), .one (.slice A6 (trim s.drop).length c6)] :: prow A4 s.left.length c4 s.left :: L) w', ?_, ?_⟩
    · ((with_reducible (refine mop_c trivial ?_; refine mop_c trivial ?_; refine mm_ld hM ?_; refine mop_c trivial ?_; refine mop_c ?_ ?_)); (focus omega))
      ((with_reducible (refine mop_cS trivial ?_ ?_)))
      · intro h32
        ((with_reducible (refine mif_true ?_; refine mop_c trivial ?_; refine mop_c trivial ?_; refine mm_ld hM ?_)))
        have hcl := ((hM.up A5).rowLen ⟨.refl _⟩).2.1
        obtain ⟨g5, rfl⟩ := (hM.up A5).rowAt ⟨.refl _⟩ (by omega)
        ((with_reducible (refine mop_c ?_ ?_)); (focus omega))
        have e : (s.drop.length : Int) - 32 = ((s.drop.length - 32 : Nat) : Int) := by omega
        rw [e, Int.toNat_natCast]
        have hsl := (hM.reads (A := some ⟨g5, 0, none⟩)).drop (s.drop.length - 32)
        rw [← List.map_drop] at hsl
        refine mm_own (pclone_ok (trim s.drop) (by simp [trim]) (by omega) hsl hM) ?_
        rintro v w5 ⟨A6, c6, rfl, _, hM⟩
        ((with_reducible (refine mop_c trivial ?_; refine mop_c trivial ?_; refine mm_st hM ?_; clear hM; intro _ hM)))
        have el : s.drop.length - (s.drop.length - 32) = (trim s.drop).length := by simp [trim]
        rw [el] at hM
        exact ⟨A6, c6, hM.sub⟩
      · intro h32
        have e : trim s.drop = s.drop := by
          unfold trim
          rw [show s.drop.length - 32 = 0 by omega]
          rfl
        rw [e]
        ((with_reducible (refine mif_false ?_)))
        exact ⟨A5, c5, hM.sub⟩
    · rintro u w3 ⟨A6, c6, hM⟩
      skip
      obtain ⟨H', hl, hM, hs3, _⟩ := hM.fz1 A3
      exact ⟨_, rfl, H', A3, _, c3, rfl, rfl, hl, hs3, Mem.unlist ((hM.up A4).upB g) rfl rfl⟩
end
end Go.Proofs.Ythnjpglpglbbkaa
