/- Plea: Settle, what is open, what was dropped; a nil list; what fits. -/
import Derived.Test.YthnjpglpglbbkaaPlea3
namespace Go.Proofs.Ythnjpglpglbbkaa
open Go.RowKit

section
variable {H : Hp} {w0 w : World} {L R : List Res}
theorem settle1_ok (g : Nat) (A : Option Addr) (c : Nat) (l : List Int) (p : Ple) (hb : l.length < 100000) (hs : Sl H 1 A (i64s l)) (hM : Mem H w0 (fb g 41 [.one (.slice A l.length c)] :: R) w) :
    Calls Try.prog 93 #[pv p, .pointer (some ⟨g, 0, none⟩)] w fun e w' => ∃ v, e = .returned v ∧ v = .bool (decide (p.seq ∈ l)) ∧ Mem H w0 (fb g 41 [.one (.slice A l.length c)] :: R) w' := by
  refine C_plea_List_Settle_1 ?_
  unfold F_plea_List_Settle_1
  ((with_reducible (refine mm_box hM ?_; clear hM; intro _ _ hM; refine mm_ld hM ?_; refine mop_c trivial ?_; refine mm_ld hM ?_)))
  refine mm_pure hM (isin_ok A c _ l p.seq rfl (by omega) hs hM.fz) (fun w3 hM => ?_)
  exact ⟨_, rfl, rfl, hM.drop⟩
theorem clo_settle (g : Nat) (A : Option Addr) (c : Nat) (l : List Int) (hb : l.length < 100000) (hs : Sl H 1 A (i64s l)) : Clo Try.prog H w0 (fb g 41 [.one (.slice A l.length c)]) (.func (.func 93) #[] #[.pointer (some ⟨g, 0, none⟩)]) pv (fun p : Ple => decide (p.seq ∈ l)) := fun y R w K X hM hk =>
  mop_callv (settle1_ok g A c l y hb hs hM) (by rintro e w' ⟨v, rfl, rfl, h⟩; exact hk w' h)
theorem settle_ok (g : Nat) (last : Int) (op dr : List Ple) (A : Option Addr) (c : Nat) (l : List Int) (hb : l.length < 100000) (hop : op.length < 100000) (hs : Sl H 1 A (i64s l)) (hM : Mem H w0 (listR g last op dr :: L) w) :
    Calls Try.prog 69 #[.pointer (some ⟨g, 0, none⟩), .slice A l.length c] w fun e w' => ∃ v, e = .returned v ∧ v = .tuple #[] ∧ Mem H w0 (listR g last (op.filter fun p => !decide (p.seq ∈ l)) dr :: L) w' := by
  obtain ⟨A1, c1, A2, c2, hM⟩ := hM.list
  refine C_plea_List_Settle ?_
  unfold F_plea_List_Settle
  ((with_reducible (refine mm_box hM ?_; clear hM; intro _ _ hM; refine mop_c trivial ?_; refine mif_true ?_; refine mop_c trivial ?_; refine mop_c trivial ?_; refine mm_ld hM ?_; refine mop_c trivial ?_)))
  rename_i b _
  refine mm_own (pdel_ok op rfl (clo_settle b A c l hb hs) ((hM.up A1).upB b) (by omega)) ?_
  rintro v w2 ⟨k, rfl, rfl, hM⟩
  ((with_reducible (refine mop_c trivial ?_; refine mop_c trivial ?_; refine mm_st hM ?_; clear hM; intro _ hM)))
  exact ⟨_, rfl, rfl, Mem.unlist ((((hM.rm b).up A2).up A1).upB g) rfl rfl⟩
theorem open_ok (g : Nat) (last : Int) (op dr : List Ple) (hop : op.length < 100000) (hM : Mem H w0 (listR g last op dr :: L) w) :
    Calls Try.prog 64 #[.pointer (some ⟨g, 0, none⟩)] w fun e w' => ∃ v, e = .returned v ∧ ∃ A c n, v = .slice A n c ∧ n = op.length ∧ Ext w w' ∧ Mem H w0 (prow A n c op :: listR g last op dr :: L) w' := by
  obtain ⟨A1, c1, A2, c2, hM⟩ := hM.list
  refine C_plea_List_Open ?_
  unfold F_plea_List_Open
  ((with_reducible (refine mop_c trivial ?_; refine mif_false ?_; refine mop_c trivial ?_; refine mop_c trivial ?_; refine mm_ld hM ?_)))
  refine mm_own (pclone_ok op rfl (by omega) (hM.reads (A := A1)) hM) ?_
  rintro v w2 ⟨A6, c6, rfl, hx, hM⟩
  refine ⟨_, rfl, A6, c6, _, rfl, rfl, hx, ?_⟩
  exact (Mem.unlist (((hM.up A2).up A1).upB g) rfl rfl).perm (.swap ..)
theorem dropped_ok (g : Nat) (last : Int) (op dr : List Ple) (hop : dr.length < 100000) (hM : Mem H w0 (listR g last op dr :: L) w) :
    Calls Try.prog 67 #[.pointer (some ⟨g, 0, none⟩)] w fun e w' => ∃ v, e = .returned v ∧ ∃ A c n, v = .slice A n c ∧ n = dr.length ∧ Ext w w' ∧ Mem H w0 (prow A n c dr :: listR g last op dr :: L) w' := by
  obtain ⟨A1, c1, A2, c2, hM⟩ := hM.list
  refine C_plea_List_Dropped ?_
  unfold F_plea_List_Dropped
  ((with_reducible (refine mop_c trivial ?_; refine mif_false ?_; refine mop_c trivial ?_; refine mop_c trivial ?_; refine mm_ld hM ?_)))
  refine mm_own (pclone_ok dr rfl (by omega) (hM.reads (A := A2)) hM) ?_
  rintro v w2 ⟨A6, c6, rfl, hx, hM⟩
  refine ⟨_, rfl, A6, c6, _, rfl, rfl, hx, ?_⟩
  exact (Mem.unlist (((hM.up A2).up A1).upB g) rfl rfl).perm (.swap ..)
theorem last_ok (g : Nat) (last : Int) (op dr : List Ple) (hM : Mem H w0 (listR g last op dr :: L) w) :
    Calls Try.prog 70 #[.pointer (some ⟨g, 0, none⟩)] w fun e w' => e = .returned (.int .i64 last) ∧ w = w' := by
  obtain ⟨A1, c1, A2, c2, hM⟩ := hM.list
  refine C_plea_List_Last ?_
  unfold F_plea_List_Last
  ((with_reducible (refine mop_c trivial ?_; refine mif_false ?_; refine mop_c trivial ?_; refine mop_c trivial ?_; refine mm_ld hM ?_)))
  exact ⟨rfl, rfl⟩
theorem restore_ok (last : Int) (op dr : List Ple) (A1 A2 : Option Addr) (c1 c2 : Nat) (h1 : op.length < 100000) (h2 : dr.length < 100000) (hM : Mem H w0 (prow A1 op.length c1 op :: prow A2 dr.length c2 dr :: L) w) :
    Calls Try.prog 76 #[.int .i64 last, .slice A1 op.length c1, .slice A2 dr.length c2] w fun e w' => ∃ v, e = .returned v ∧ ∃ g, v = .pointer (some ⟨g, 0, none⟩) ∧ Mem H w0 (listR g last op dr :: L) w' := by
  refine C_plea_Restore ?_
  unfold F_plea_Restore
  refine mm_own (pclone_ok op rfl (by omega) (hM.reads (A := A1)) hM) ?_
  rintro v w2 ⟨A6, c6, rfl, _, hM⟩
  refine mm_own (pclone_ok dr rfl (by omega) (hM.reads (A := A2)) hM) ?_
  rintro v w2 ⟨A7, c7, rfl, _, hM⟩
  ((with_reducible (refine mop_c trivial ?_; refine mm_box hM ?_; clear hM; intro _ _ hM)))
  refine ⟨_, rfl, _, rfl, Mem.unlist (A1 := A6) (A2 := A7) (c1 := c6) (c2 := c7) ?_ rfl rfl⟩
  exact hM.sub
abbrev tfn (t : List Int) : Value := .func (.func 91) #[tv t] #[]
theorem clo_fits (t : List Int) (ht : t.length = 8) : CloP Try.prog (tfn t) cv fun c => .int .i64 (t.getD (slot c) 0) := fun y H w0 L w K X hM hk =>
  mop_callv (fits_ok t ht y hM.fz) (by rintro e w' ⟨rfl, hs⟩; exact hk w' (hM.call0 hs))
theorem mkfits_ok (t : List Int) (ht : t.length = 8) (hf : Fz H w) : Calls Try.prog 66 #[tv t] w fun e w' => e = .returned (tfn t) ∧ St w [] w' := by
  have hM := Mem.start hf
  have : FdOk (.arr 8 (t.map (Value.int .i64))) := ⟨by simp [Fd.cells, Fd.size, ht], fun u hu => by
    simp only [Fd.cells, List.mem_map] at hu
    obtain ⟨_, _, rfl⟩ := hu
    rfl⟩
  refine C_bevylaw17_fits ?_
  unfold F_bevylaw17_fits
  ((with_reducible (refine mm_box hM ?_; clear hM; intro _ _ hM; refine mm_ld hM ?_; refine mop_c trivial ?_; refine mop_c trivial ?_)))
  exact ⟨by simp [tfn, tv, fl, Fd.cells], hM.st⟩
theorem nask_ok (c : Chg) (e : H32) (hf : Fz H w) : Calls Try.prog 63 #[.pointer none, cv c, ha e] w fun en w' => en = .returned (.tuple #[.int .i64 0, .int .i64 1]) ∧ St w [] w' := by
  have hM := Mem.start hf
  refine C_plea_List_Ask ?_
  unfold F_plea_List_Ask
  ((with_reducible (refine mm_box hM ?_; clear hM; intro _ _ hM; refine mm_box hM ?_; clear hM; intro _ _ hM; refine mop_c trivial ?_; refine mif_true ?_)))
  exact ⟨rfl, hM.st⟩
theorem nmove_ok (head : H32) (x y : Value) (hf : Fz H w) : Calls Try.prog 65 #[.pointer none, ha head, x, y] w fun en w' => en = .returned (.slice none 0 0) ∧ St w [] w' := by
  have hM := Mem.start hf
  refine C_plea_List_Move ?_
  unfold F_plea_List_Move
  ((with_reducible (refine mm_box hM ?_; clear hM; intro _ _ hM; refine mop_c trivial ?_; refine mif_true ?_)))
  exact ⟨rfl, hM.st⟩
theorem nsettle_ok (A : Option Addr) (n c : Nat) (hf : Fz H w) : Calls Try.prog 69 #[.pointer none, .slice A n c] w fun en w' => en = .returned (.tuple #[]) ∧ St w [] w' := by
  have hM := Mem.start hf
  refine C_plea_List_Settle ?_
  unfold F_plea_List_Settle
  ((with_reducible (refine mm_box hM ?_; clear hM; intro _ _ hM; refine mop_c trivial ?_; refine mif_false ?_)))
  exact ⟨rfl, hM.st⟩
theorem nopen_ok (hf : Fz H w) : Calls Try.prog 64 #[.pointer none] w fun en w' => en = .returned (.slice none 0 0) ∧ St w [] w' := by
  have hM := Mem.start hf
  refine C_plea_List_Open ?_
  unfold F_plea_List_Open
  ((with_reducible (refine mop_c trivial ?_; refine mif_true ?_)))
  exact ⟨rfl, hM.st⟩
theorem ndropped_ok (hf : Fz H w) : Calls Try.prog 67 #[.pointer none] w fun en w' => en = .returned (.slice none 0 0) ∧ St w [] w' := by
  have hM := Mem.start hf
  refine C_plea_List_Dropped ?_
  unfold F_plea_List_Dropped
  ((with_reducible (refine mop_c trivial ?_; refine mif_true ?_)))
  exact ⟨rfl, hM.st⟩
theorem nlast_ok (hf : Fz H w) : Calls Try.prog 70 #[.pointer none] w fun en w' => en = .returned (.int .i64 0) ∧ St w [] w' := by
  have hM := Mem.start hf
  refine C_plea_List_Last ?_
  unfold F_plea_List_Last
  ((with_reducible (refine mop_c trivial ?_; refine mif_true ?_)))
  exact ⟨rfl, hM.st⟩
end
end Go.Proofs.Ythnjpglpglbbkaa
