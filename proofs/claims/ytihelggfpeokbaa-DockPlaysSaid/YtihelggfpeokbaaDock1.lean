/- Dock: a box. -/
import Derived.Test.YtihelggfpeokbaaF
import Derived.Test.YtihelggfpeokbaaMat
namespace Go.Proofs.Ytihelggfpeokbaa
open Go.RowKit

abbrev bxf (c s : Nat) (cl : Bool) (lost : Int) : List Fd := [.one (.chan (some c)), .one (.chan (some s)), .one (.int .u32 (if cl then 1 else 0)), .one (.int .i64 lost)]
abbrev iv (x : Int) : Value := .int .i64 x
/-- A box of numbers: its room, what waits, is it closed, how many were lost. -/
structure Bx where
  room : Nat
  xs : List Int
  cl : Bool
  lost : Nat
def boxR (g : Nat) (b : Bx) : Res := exR (fun (p : Nat × Nat) => [fb g 68 (bxf p.1 p.2 b.cl b.lost), chR p.1 b.room (b.xs.map iv) false, chR p.2 0 [] b.cl])
section
variable {H : Hp} {w0 w : World} {L R : List Res} {g : Nat} {b : Bx}
theorem Mem.box (h : Mem H w0 (boxR g b :: L) w) : ∃ c s, Mem H w0 (fb g 68 (bxf c s b.cl b.lost) :: chR c b.room (b.xs.map iv) false :: chR s 0 [] b.cl :: L) w := by
  obtain ⟨p, h⟩ := h.unex
  exact ⟨p.1, p.2, h⟩
theorem Mem.unbox {c s : Nat} {cl : Bool} {lost : Int} {room : Nat} {vs : List Value} (h : Mem H w0 (fb g 68 (bxf c s cl lost) :: chR c room vs false :: chR s 0 [] cl :: L) w) (h1 : b.cl = cl) (h2 : (b.lost : Int) = lost) (h3 : b.room = room) (h4 : b.xs.map iv = vs) : Mem H w0 (boxR g b :: L) w := by
  subst h1 h2 h3 h4
  exact Mem.toex (R := fun (p : Nat × Nat) => [fb g 68 (bxf p.1 p.2 b.cl b.lost), chR p.1 b.room (b.xs.map iv) false, chR p.2 0 [] b.cl]) (c, s) h
theorem new_ok (room : Int) (h1 : 1 ≤ room ∧ room ≤ 65536) (hM : Mem H w0 L w) : Calls Try.prog 7 #[.int .i64 room] w fun en w' => ∃ v, en = .returned v ∧ ∃ g, v = .tuple #[.pointer (some ⟨g, 0, none⟩), .int .i64 0] ∧ Mem H w0 (boxR g ⟨room.toNat, [], false, 0⟩ :: L) w' := by
  refine C_dock_New_int ?_
  unfold F_dock_New_int
  refine ⟨fun x w' => x = .bool false ∧ hM.now w', ?_, ?_⟩
  · ((with_reducible (refine mop_cF trivial ?_ ?_)); (focus (first | assumption | omega | with_reducible rfl | exact fun h => Bool.noConfusion h)); (with_reducible (refine mguard_yes ?_; refine mop_c trivial ?_; refine mguard_yes ?_; refine mop_cF trivial ?_ ?_)); (focus (first | assumption | omega | with_reducible rfl | exact fun h => Bool.noConfusion h)); (with_reducible (refine mop_c trivial ?_)))
    exact ⟨rfl, hM⟩
  rintro x u w1 ⟨rfl, hM⟩
  ((with_reducible (refine mif_false ?_)))
  refine ⟨?_, ?_⟩
  · refine dm_mkch hM (by omega) (fun c w2 hM => ?_)
    refine dm_mkch hM (by omega) (fun s w3 hM => ?_)
    ((with_reducible (refine dp_c trivial ?_; refine dm_box hM ?_; clear hM; intro _ _ hM; refine mm_end hM ?_; clear hM; intro _ hM)))
    exact ⟨_, rfl, _, rfl, Mem.unbox (hM.perm (.cons _ (.swap ..))) rfl rfl rfl rfl⟩
  · refine dm_mkch hM (by omega) (fun s w2 hM => ?_)
    refine dm_mkch hM (by omega) (fun c w3 hM => ?_)
    ((with_reducible (refine dp_c trivial ?_; refine dm_box hM ?_; clear hM; intro _ _ hM; refine mm_end hM ?_; clear hM; intro _ hM)))
    exact ⟨_, rfl, _, rfl, Mem.unbox hM rfl rfl rfl rfl⟩
theorem isShut_ok (hM : Mem H w0 (boxR g b :: L) w) : Calls Try.prog 25 #[.pointer (some ⟨g, 0, none⟩)] w fun en w' => en = .returned (.bool b.cl) ∧ w = w' := by
  refine C_dock_Box_int_isShut ?_
  unfold F_dock_Box_int_isShut
  obtain ⟨c, s, hM⟩ := hM.box
  ((with_reducible (refine mop_c trivial ?_; refine mop_c trivial ?_; refine mm_ld hM ?_)))
  cases hcl : b.cl
  · rw [hcl] at hM
    refine mc_none (g := s) hM ?_
    ((with_reducible (refine mop_c trivial ?_; refine mop_cF trivial ?_ ?_)); (focus (first | assumption | omega | with_reducible rfl | exact fun h => Bool.noConfusion h)); (with_reducible (refine mif_false ?_)))
    exact ⟨rfl, rfl⟩
  · rw [hcl] at hM
    refine mc_shut (g := s) hM ?_
    ((with_reducible (refine mop_c trivial ?_; refine mop_cT trivial ?_ ?_)); (focus (first | assumption | omega | with_reducible rfl | exact fun h => Bool.noConfusion h)); (with_reducible (refine mif_true ?_)))
    exact ⟨rfl, rfl⟩
theorem at_add (y : Int) {t' : Nat} {fs fs' : List Fd} {put : Res → List Res} {i : Nat} {x s : Int} (hM : Mem H w0 L w) [a : AtB L g t' fs put] [b1 : Sub fs i 1 [.one (.int .i64 x)]] [p : Put fs i [.one (.int .i64 s)] fs'] (hs : IntKind.i64.wrap (x + y) = s) :
    Calls Try.prog 26 #[.pointer (some ⟨g, i, none⟩), .int .i64 y] w fun en w' => ∃ v, en = .returned v ∧ v = .int .i64 s ∧ Mem H w0 (put (fb g t' fs')) w' := by
  refine C_sync_atomic_Int64_Add ?_
  unfold F_sync_atomic_Int64_Add
  ((with_reducible (refine mop_c trivial ?_; refine mop_c trivial ?_)))
  refine mm_atAdd (fs' := fs') hM Try.func30 (by kernel_rfl) (by kernel_rfl) (by kernel_rfl) (by kernel_rfl) hs (fun w2 hM => ?_)
  exact ⟨_, rfl, rfl, hM⟩
theorem at_load {t' : Nat} {fs : List Fd} {put : Res → List Res} {i : Nat} {x : Int} (hM : Mem H w0 L w) [a : AtB L g t' fs put] [b1 : Sub fs i 1 [.one (.int .i64 x)]] :
    Calls Try.prog 28 #[.pointer (some ⟨g, i, none⟩)] w fun en w' => en = .returned (.int .i64 x) ∧ w = w' := by
  refine C_sync_atomic_Int64_Load ?_
  unfold F_sync_atomic_Int64_Load
  ((with_reducible (refine mop_c trivial ?_; refine mop_c trivial ?_)))
  refine mm_atLoad hM Try.func33 (by kernel_rfl) (by kernel_rfl) (by kernel_rfl) (by kernel_rfl) ?_
  exact ⟨rfl, rfl⟩
theorem b32_ok (b : Bool) (n : Int) (hn : n = if b then 1 else 0) (hM : Mem H w0 L w) : Calls Try.prog 32 #[.bool b] w fun en w' => ∃ v, en = .returned v ∧ v = .int .u32 n ∧ Mem H w0 L w' := by
  refine C_sync_atomic_b32 ?_
  unfold F_sync_atomic_b32
  subst hn
  cases b <;>
  · (first | ((with_reducible (refine mif_false ?_))) | ((with_reducible (refine mif_true ?_))))
    exact ⟨_, rfl, rfl, hM⟩
theorem at_cas {t' : Nat} {fs fs' : List Fd} {put : Res → List Res} {i : Nat} {o : Bool} (hM : Mem H w0 L w) [a : AtB L g t' fs put] [b1 : Sub fs i 1 [.one (.int .u32 (if o then 1 else 0))]] [p : Put fs i [.one (.int .u32 1)] fs'] :
    Calls Try.prog 27 #[.pointer (some ⟨g, i, none⟩), .bool false, .bool true] w fun en w' => ∃ v, en = .returned v ∧ v = .bool (!o) ∧ Mem H w0 (if o then L else put (fb g t' fs')) w' := by
  refine C_sync_atomic_Bool_CompareAndSwap ?_
  unfold F_sync_atomic_Bool_CompareAndSwap
  ((with_reducible (refine dp_c trivial ?_; refine dp_c trivial ?_)))
  simp only [Nat.add_zero]
  refine dm_own hM (fun w hM => b32_ok false 0 rfl hM) ?_
  rintro v w1 ⟨rfl, hM⟩
  refine dm_own hM (fun w hM => b32_ok true 1 rfl hM) ?_
  rintro v w2 ⟨rfl, hM⟩
  refine df_no hM (fun w3 hM => ?_)
  cases o
  · refine mm_atHit (fs' := fs') hM Try.func31 (by kernel_rfl) (by kernel_rfl) (by kernel_rfl) (by kernel_rfl) (fun w4 hM => ?_)
    ((with_reducible (refine mm_end hM ?_; clear hM; intro _ hM)))
    exact ⟨_, rfl, rfl, hM⟩
  · refine mm_atMiss hM Try.func31 (by kernel_rfl) (by kernel_rfl) (by kernel_rfl) (by kernel_rfl) (x := 1) (by simp) ?_
    ((with_reducible (refine mm_end hM ?_; clear hM; intro _ hM)))
    exact ⟨_, rfl, rfl, hM⟩
/-- Post: the answer, the box behind it. -/
def bpost (b : Bx) (x : Int) : Int × Bx :=
  if b.cl then (21, b) else if b.xs.length < b.room then (0, { b with xs := b.xs ++ [x] }) else (9, { b with lost := b.lost + 1 })
theorem post_ok (x : Int) (hl : b.lost < 100000) (hM : Mem H w0 (boxR g b :: L) w) : Calls Try.prog 8 #[.pointer (some ⟨g, 0, none⟩), .int .i64 x] w fun en w' => ∃ v, en = .returned v ∧ v = .int .i64 (bpost b x).1 ∧ Mem H w0 (boxR g (bpost b x).2 :: L) w' := by
  refine C_dock_Box_int_Post ?_
  unfold F_dock_Box_int_Post
  ((with_reducible (refine mop_c trivial ?_; refine mif_false ?_)))
  refine mm_same (isShut_ok hM) ?_
  unfold bpost
  cases hcl : b.cl
  · ((with_reducible (refine mif_false ?_; refine mop_c trivial ?_; refine mop_c trivial ?_)))
    obtain ⟨c, s, hM⟩ := hM.box
    ((with_reducible (refine mm_ld hM ?_)))
    by_cases hr : b.xs.length < b.room
    · refine mc_send (g := c) hM (by simpa using hr) (fun w2 hM => ?_)
      ((with_reducible (refine mop_c trivial ?_; refine mop_cT trivial ?_ ?_)); (focus (first | assumption | omega | with_reducible rfl | exact fun h => Bool.noConfusion h)); (with_reducible (refine mif_true ?_)))
      rw [if_neg (by simp), if_pos hr]
      exact ⟨_, rfl, rfl, Mem.unbox hM hcl.symm rfl rfl (by simp)⟩
    · refine mc_full (g := c) hM (by simp; omega) ?_
      ((with_reducible (refine mop_c trivial ?_; refine mop_cF trivial ?_ ?_)); (focus (first | assumption | omega | with_reducible rfl | exact fun h => Bool.noConfusion h)); (with_reducible (refine mif_false ?_; refine mop_c trivial ?_; refine mop_c trivial ?_)))
      refine mm_own (at_add (fs' := bxf c s b.cl (b.lost + 1)) 1 hM (by simp [IntKind.wrap, IntKind.bits, IntKind.signed]; omega)) ?_
      rintro v w2 ⟨rfl, hM⟩
      rw [if_neg (by simp), if_neg hr]
      exact ⟨_, rfl, rfl, Mem.unbox hM hcl.symm (by simp) rfl rfl⟩
  · ((with_reducible (refine mif_true ?_)))
    exact ⟨_, rfl, rfl, by simpa using hM⟩
theorem take_ok (hM : Mem H w0 (boxR g b :: L) w) : Calls Try.prog 9 #[.pointer (some ⟨g, 0, none⟩)] w fun en w' => ∃ v, en = .returned v ∧ v = .tuple #[.int .i64 (b.xs.headD 0), .bool (!b.xs.isEmpty)] ∧ Mem H w0 (boxR g { b with xs := b.xs.tail } :: L) w' := by
  refine C_dock_Box_int_Take ?_
  unfold F_dock_Box_int_Take
  obtain ⟨c, s, hM⟩ := hM.box
  ((with_reducible (refine mop_c trivial ?_; refine mif_false ?_; refine mop_c trivial ?_; refine mop_c trivial ?_; refine mm_ld hM ?_)))
  cases hx : b.xs with
  | nil =>
    rw [hx] at hM
    refine mc_none (g := c) hM ?_
    ((with_reducible (refine mop_c trivial ?_; refine mop_cF trivial ?_ ?_)); (focus (first | assumption | omega | with_reducible rfl | exact fun h => Bool.noConfusion h)); (with_reducible (refine mif_false ?_)))
    exact ⟨_, rfl, rfl, Mem.unbox hM rfl rfl rfl rfl⟩
  | cons x rest =>
    rw [hx] at hM
    refine mc_recv (g := c) hM (fun w2 hM => ?_)
    ((with_reducible (refine mop_c trivial ?_; refine mop_cT trivial ?_ ?_)); (focus (first | assumption | omega | with_reducible rfl | exact fun h => Bool.noConfusion h)); (with_reducible (refine mif_true ?_; refine mop_c trivial ?_)))
    exact ⟨_, rfl, rfl, Mem.unbox hM rfl rfl rfl rfl⟩
theorem len_ok (hM : Mem H w0 (boxR g b :: L) w) : Calls Try.prog 16 #[.pointer (some ⟨g, 0, none⟩)] w fun en w' => en = .returned (.int .i64 b.xs.length) ∧ w = w' := by
  refine C_dock_Box_int_Len ?_
  unfold F_dock_Box_int_Len
  obtain ⟨c, s, hM⟩ := hM.box
  ((with_reducible (refine mop_c trivial ?_; refine mif_false ?_; refine mop_c trivial ?_; refine mop_c trivial ?_; refine mm_ld hM ?_)))
  refine mm_lench (g := c) hM ?_
  exact ⟨by simp, rfl⟩
theorem lost_ok (hM : Mem H w0 (boxR g b :: L) w) : Calls Try.prog 11 #[.pointer (some ⟨g, 0, none⟩)] w fun en w' => en = .returned (.int .i64 b.lost) ∧ w = w' := by
  refine C_dock_Box_int_Lost ?_
  unfold F_dock_Box_int_Lost
  obtain ⟨c, s, hM⟩ := hM.box
  ((with_reducible (refine mop_c trivial ?_; refine mif_false ?_; refine mop_c trivial ?_; refine mop_c trivial ?_)))
  refine mm_same (at_load (x := (b.lost : Int)) hM) ?_
  exact ⟨rfl, rfl⟩
theorem close_ok (hM : Mem H w0 (boxR g b :: L) w) : Calls Try.prog 10 #[.pointer (some ⟨g, 0, none⟩)] w fun en w' => ∃ v, en = .returned v ∧ v = .tuple #[] ∧ Mem H w0 (boxR g { b with cl := true } :: L) w' := by
  refine C_dock_Box_int_Close ?_
  unfold F_dock_Box_int_Close
  obtain ⟨c, s, hM⟩ := hM.box
  refine ⟨fun x w' => x = .bool (!b.cl) ∧ Mem H w0 (fb g 68 (bxf c s true b.lost) :: chR c b.room (b.xs.map iv) false :: chR s 0 [] b.cl :: L) w', ?_, ?_⟩
  · ((with_reducible (refine mop_c trivial ?_; refine mguard_yes ?_; refine mop_c trivial ?_; refine mguard_yes ?_; refine mop_c trivial ?_; refine mguard_yes ?_; refine mop_c trivial ?_; refine mguard_yes ?_)))
    refine mm_own (at_cas (fs' := bxf c s true b.lost) hM) ?_
    rintro v w2 ⟨rfl, hM⟩
    ((with_reducible (refine mop_c trivial ?_)))
    refine ⟨rfl, ?_⟩
    cases hcl : b.cl <;> simpa [hcl] using hM
  · rintro x u w2 ⟨rfl, hM⟩
    cases hcl : b.cl
    · rw [hcl] at hM
      simp only [Bool.not_false]
      ((with_reducible (refine mif_true ?_; refine mop_c trivial ?_; refine mop_c trivial ?_; refine mm_ld hM ?_)))
      refine mm_close (g := s) hM (fun w3 hM => ?_)
      exact ⟨_, rfl, rfl, Mem.unbox hM rfl rfl rfl rfl⟩
    · rw [hcl] at hM
      simp only [Bool.not_true]
      ((with_reducible (refine mif_false ?_)))
      exact ⟨_, rfl, rfl, Mem.unbox hM rfl rfl rfl rfl⟩
end
end Go.Proofs.Ytihelggfpeokbaa
