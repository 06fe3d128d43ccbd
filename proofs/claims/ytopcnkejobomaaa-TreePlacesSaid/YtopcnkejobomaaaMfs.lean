/- Fields of elements of own rows, stored anew. No program is named here. -/
import Derived.Test.YtopcnkejobomaaaMpn
namespace Go.Proofs.Ytopcnkejobomaaa
open Go.RowKit

theorem qguard_un {want : Bool} {run : (Value → Prop) → Prop} {K : Value → Prop} (h : K undef) : qguard undef want run K := qguard_no (by intro h; cases h) h
theorem mguard_un {want : Bool} {w : World} {run : (Value → World → Prop) → Prop} {K : Value → World → Prop} (h : K undef w) : mguard undef want run w K := mguard_no (by intro h; cases h) h
theorem lay_in (A X B Y : List Value) (o : Nat) (h : o + Y.length ≤ X.length) : lay (A ++ (X ++ B)) Y (A.length + o) = A ++ (lay X Y o ++ B) := by
  unfold lay
  rw [List.take_length_add_append, Nat.add_assoc, List.drop_length_add_append, List.take_append_of_le_length (by omega), List.drop_append_of_le_length (by omega)]
  simp
section
variable {P : Program} {H : Hp} {w0 w : World} {L : List Res} {n cap e sz by_ : Nat} {t : TypeId} {A : Option Addr} {ps : List (List Fd)} {X : List PanicEntry → World → Prop}
theorem Mem.setFld {R1 : List Res} {g k off : Nat} {fs gs fs' : List Fd} (h : Mem H w0 (rowR e sz (some ⟨g, 0, none⟩) n cap ps :: R1) w) (hk : ps[k]? = some fs) (hp : Put fs off gs fs') (hg : FOk gs) : ∃ w', (storeCells ⟨g, 0 + k * sz + off, none⟩ (fl gs) 0).run P w = .ok () w' ∧ Mem H w0 (rowR e sz (some ⟨g, 0, none⟩) n cap (ps.set k fs') :: R1) w' := by
  obtain ⟨B, ⟨B1, B2, rfl, ⟨h1, h2, h3⟩, h4⟩, hs', hb⟩ := h.own
  obtain ⟨hk', rfl⟩ := List.getElem?_eq_some_iff.1 hk
  rcases h3 with ⟨hA, h3, _⟩ | ⟨g', sp, hA, rfl, h5, h6⟩
  · cases hA
  · cases hA
    have hs' : St w0 (⟨g, e, fls ps ++ sp, true⟩ :: B2) w := hs'
    have hfl : (fls ps).length = n * sz := by rw [h1.len, h2]
    obtain ⟨hxo, hxs⟩ := h1.ok ps[k] (List.getElem_mem _)
    obtain ⟨hf', hly, hle0⟩ := hp.cells hxo hg
    have hxl : (fl ps[k]).length = sz := by rw [hxo.len, hxs]
    have hle : k * sz + sz ≤ n * sz := by rw [← Nat.succ_mul]; exact Nat.mul_le_mul_right _ (by omega)
    have hst := run_storeCells_blf (P := P) (0 + k * sz + off) (fl gs) 0 (fls ps ++ sp) w hs'.head (by rw [List.length_append, hfl]; omega) hg.one
    have ht : (fls (ps.take k)).length = k * sz := by rw [(h1.take k).len, List.length_take, Nat.min_eq_left (by omega)]
    have hlay : lay (fls ps ++ sp) (fl gs) (0 + k * sz + off + 0) = fls (ps.set k fs') ++ sp := by
      have e1 : ps = ps.take k ++ ps[k] :: ps.drop (k + 1) := by rw [List.getElem_cons_drop, List.take_append_drop]
      rw [List.set_eq_take_append_cons_drop, if_pos hk']
      conv => lhs; rw [e1]
      rw [show 0 + k * sz + off + 0 = (fls (ps.take k)).length + off by rw [ht]; omega, fls_app, fls_app, fls_cons, fls_cons, ← hly, List.append_assoc, List.append_assoc, lay_in _ _ _ _ _ hle0]
      simp
    refine ⟨_, hst, ?_⟩
    rw [hlay]
    have hl2 : (fls (ps.set k fs') ++ sp).length = (fls ps ++ sp).length := by
      rw [← hlay]
      exact lay_length _ _ _ (by rw [List.length_append, hfl]; omega)
    have hsz' : fsz fs' = sz := by
      have hh := congrArg List.length hly
      rw [lay_length _ _ _ hle0, hxl, hf'.len] at hh
      omega
    have hels : Els sz (ps.set k fs') := ⟨fun q hq => by
      rcases List.mem_or_eq_of_mem_set hq with hq | rfl
      · exact h1.ok q hq
      · exact ⟨hf', hsz'⟩⟩
    have hgg := hb ⟨g, e, fls ps ++ sp, true⟩ (by simp)
    refine ⟨⟨⟨g, e, fls (ps.set k fs') ++ sp, true⟩ :: B2, ⟨[⟨g, e, fls (ps.set k fs') ++ sp, true⟩], B2, rfl, ⟨hels, by simpa using h2, .inr ⟨g, sp, rfl, rfl, by rw [hl2]; exact h5, h6⟩⟩, h4⟩, hs'.setRow hl2, fun b hm => ?_⟩, h.fz.same fun b c hc => setRow_other w g b _ ?_⟩
    · rcases List.mem_cons.1 hm with rfl | hm
      · exact ⟨rfl, hgg.2⟩
      · exact hb b (List.mem_append.2 (.inr hm))
    · rintro rfl
      have := hgg.2
      simp only [hc] at this
      cases this
theorem run_msf {R1 : List Res} {g k off m : Nat} {tt : TypeId} {q : Bool} {v : Value} {fs gs fs' : List Fd} (h : Mem H w0 L w) (c : ShpC P tt q m) (a : AtA L (some ⟨g, 0, none⟩) n cap e sz ps R1) (hk : ps[k]? = some fs) (f : Vf v m gs) (p : Put fs off gs fs') :
    ∃ w', (o_store tt (.pointer (some ⟨g, 0 + k * sz + off, none⟩)) v).run P w = .ok .skip w' ∧ Mem H w0 (rowR e sz (some ⟨g, 0, none⟩) n cap (ps.set k fs') :: R1) w' := by
  obtain ⟨ev, hn, hp⟩ := f.ok
  obtain ⟨w', hr, hm⟩ := (h.perm a.perm).setFld (P := P) hk p hp
  refine ⟨w', ?_, hm⟩
  have e2 : v.cells.size = m := by rw [← Array.length_toList, ev, hp.len, hn]
  simp [o_store, su, Instr.storeAt, Instr.sureAddr, storeVar, run_size (shp_agg (w := w) c.ok).2, ev, e2]
  simp only [Nat.zero_add] at hr
  simp [hr]
theorem mm_stf {R1 : List Res} {g k off m : Nat} {tt : TypeId} {q : Bool} {v : Value} {fs gs fs' : List Fd} {K : Value → World → Prop} (h : Mem H w0 L w) [c : ShpC P tt q m] [a : AtA L (some ⟨g, 0, none⟩) n cap e sz ps R1] (hk : ps[k]? = some fs) [f : Vf v m gs] [p : Put fs off gs fs']
    (hK : ∀ w', Mem H w0 (rowR e sz (some ⟨g, 0, none⟩) n cap (ps.set k fs') :: R1) w' → K undef w') : mop P (o_store tt (.pointer (some ⟨g, 0 + k * sz + off, none⟩)) v) w K X := by
  obtain ⟨w', hr, hm⟩ := run_msf (P := P) h c a hk f p
  exact mop_skip hr (hK w' hm)
theorem dm_stf {R1 : List Res} {g k off m : Nat} {tt : TypeId} {q : Bool} {v : Value} {fs gs fs' : List Fd} {K : Value → World → Prop} (h : Mem H w0 L w) [c : ShpC P tt q m] [a : AtA L (some ⟨g, 0, none⟩) n cap e sz ps R1] (hk : ps[k]? = some fs) [f : Vf v m gs] [p : Put fs off gs fs']
    (hK : ∀ w', Mem H w0 (rowR e sz (some ⟨g, 0, none⟩) n cap (ps.set k fs') :: R1) w' → K undef w') : df P w (o_store tt (.pointer (some ⟨g, 0 + k * sz + off, none⟩)) v) false K := df_mop fun w1 hd => mop_mono (mm_stf (X := fun _ _ => False) (h.drawn hd) hk hK) (fun v w' h => ⟨(fun e => by cases e), h⟩) (fun _ _ h => h)
end
end Go.Proofs.Ytopcnkejobomaaa
