/- Panics with values. No program is named here. -/
import Derived.Test.YtopcnkejobomaaaMow
namespace Go.Proofs.Ytopcnkejobomaaa
open Go.RowKit

theorem mop_panic {P : Program} {w : World} {t : TypeId} {v : Value} {K : Value → World → Prop} {X : List PanicEntry → World → Prop} (hk : X [{ v := .iface t v, recovered := false }] w) : mop P (o_panic (.iface t v)) w K X := by
  refine ⟨?_⟩
  simp only [o_panic, sv, Instr.panic, goPanic]
  exact hk
theorem mif_nt {F G : Prop} (h : G) : mif (.bool (!true)) F G := mif_false h
theorem mif_nf {F G : Prop} (h : F) : mif (.bool (!false)) F G := mif_true h
section
variable {H : Hp} {w0 w : World} {L : List Res}
/-- A store that comes in any order beside loads of other blocks. -/
theorem dS_stX {P : Program} {t tt : TypeId} {q : Bool} {n i k : Nat} {v : Value} {fs gs fs' : List Fd} {put : Res → List Res} {K : Value → World → Prop} (h : Mem H w0 L w) [c : ShpC P t q n] [a : AtB L k tt fs put] [f : Vf v n gs] [p : Put fs i gs fs'] (hk : ∀ w', Mem H w0 (put (fb k tt fs')) w' → K undef w') :
    dfS P (Rl.only fun b => b = k) w (o_store t (.pointer (some ⟨k, i, none⟩)) v) true K := ⟨fun w1 hd => by
  have h := h.drawn hd
  obtain ⟨w', h1, h2⟩ := run_mst h c a f p
  obtain ⟨hb, hf⟩ := h.blf a
  obtain ⟨e, hn, hg⟩ := f.ok
  obtain ⟨_, k2, k3⟩ := p.cells hf hg
  have e2 : v.cells.size = n := by rw [← Array.length_toList, e, hg.len, hn]
  obtain ⟨w2, h3, h4⟩ := run_storeN (P := P) (i := i) (v := v) c.ok (St.oneF hb) e2 (by rw [e]; exact hg.one) (by rw [hg.len, hn] at k3; exact k3)
  rw [h1] at h3
  cases h3
  exact mop_skip h1 ⟨fun _ => (hd.onlyS _).trans1 (h4.only.mono fun j _ ⟨b, hm, _, hj⟩ => by
    rw [List.mem_singleton] at hm
    subst hm
    exact hj.symm), hk w' h2⟩⟩
theorem Mem.neB {a b ta tb : Nat} {fa fb' : List Fd} {R R' : List Res} (h : Mem H w0 (fb a ta fa :: R) w) [k : AtF R b tb fb' R'] : ¬ a = b := by
  rintro rfl
  obtain ⟨B, ⟨B1, B2, rfl, ⟨_, rfl⟩, B3, B4, rfl, ⟨_, rfl⟩, _⟩, hs, _⟩ := (h.perm (k.perm.cons _)).own
  exact (List.pairwise_cons.1 hs.ne).1 ⟨a, tb, fl fb', true⟩ (by simp) rfl
end
end Go.Proofs.Ytopcnkejobomaaa
