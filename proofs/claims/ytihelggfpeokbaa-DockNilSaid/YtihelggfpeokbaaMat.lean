/- Atomic numbers in blocks of one's own; calls of functions without a body. No program is named here. -/
import Derived.Test.YtihelggfpeokbaaMch
namespace Go.Proofs.Ytihelggfpeokbaa
open Go.RowKit

section
variable {P : Program} {H : Hp} {w0 w w' : World} {L R : List Res} {g i f : Nat} {fn : Func} {t' : TypeId} {fs fs' : List Fd} {put : Res → List Res} {K : Value → World → Prop} {X : List PanicEntry → World → Prop} {k : IntKind} {x y s : Int}
theorem mm_same {v : Value} {args : List Value} [hf : FunC P f] (h : Calls P f args.toArray w fun e w' => e = .returned v ∧ w = w') (hk : K v w) : mop P (o_call (fv f) args) w K X := mop_same h hf.ok hk
theorem run_ocall_ext {args : List Value} {v : Value} (h : (callFunc f args.toArray).run P w = .ok (.value v) w') : (o_call (fv f) args).run P w = .ok (.value v) w' := by
  simp [o_call, fv, Deferred.ofValue, invoke, h]
theorem Mem.cell1 {v : Value} (h : Mem H w0 L w) (a : AtB L g t' fs put) (b : Sub fs i 1 [.one v]) : w.cell? ⟨g, i, none⟩ = some v ∧ w.frozen? ⟨g, i, none⟩ = false := by
  obtain ⟨hb, hf⟩ := h.blf a
  obtain ⟨_, _, h3⟩ := b.cells hf
  have h4 := h3 0 v (by simp [fl, Fd.cells])
  rw [Nat.add_zero] at h4
  exact ⟨by rw [hb.cell]; exact h4, hb.frozen i (List.getElem?_eq_some_iff.1 h4).1⟩
theorem Mem.setCell1 {v : Value} (h : Mem H w0 L w) [One v] (a : AtB L g t' fs put) (p : Put fs i [.one v] fs') : Mem H w0 (put (fb g t' fs')) (w.setCell ⟨g, i, none⟩ v) := by
  obtain ⟨hb, hf⟩ := h.blf a
  obtain ⟨h1, h2, h3⟩ := p.cells hf inferInstance
  have hl : (fl fs').length = (fl fs).length := by rw [← h2]; exact lay_length _ _ _ h3
  obtain ⟨fr, hg, _⟩ := id hb
  have e := setCell_eq_setRow w g i (fl fs).toArray t' fr v hg
  have e2 : (fl fs).toArray.setIfInBounds i v = (fl fs').toArray := by
    have h3' : i < (fl fs).length := by simp [fl, Fd.cells] at h3; omega
    rw [List.setIfInBounds_toArray, ← h2]
    congr 1
    show _ = lay (fl fs) [v] i
    unfold lay
    rw [List.set_eq_take_append_cons_drop, if_pos h3']
    simp
  rw [e, e2]
  exact h.setRow a h1 hl
theorem mm_atAdd (h : Mem H w0 L w) [a : AtB L g t' fs put] [b : Sub fs i 1 [.one (.int k x)]] [p : Put fs i [.one (.int k s)] fs'] (hf : P.funcs[f]? = some fn) (hname : (fn.name == "runtime.NumGoroutine") = false) (hb : fn.body.isNone = true) (hn : Extern.findNext fn = none)
    (he : Extern.find fn = some (Extern.Atomic.update (Op.intArith .add) k true)) (hs : k.wrap (x + y) = s) (hk : ∀ w', Mem H w0 (put (fb g t' fs')) w' → K (.int k s) w') : mop P (o_call (fv f) [.pointer (some ⟨g, i, none⟩), .int k y]) w K X := by
  obtain ⟨hc, hz⟩ := h.cell1 a b
  have := run_call_add (P := P) (f := f) hf hname hb hn k he (a := ⟨g, i, none⟩) (y := y) (s := s) hc hz (by simp [go_sem, hs])
  exact mop_run (run_ocall_ext (by simpa using this)) (hk _ (h.setCell1 a p))
theorem mm_atLoad (h : Mem H w0 L w) [a : AtB L g t' fs put] [b : Sub fs i 1 [.one (.int k x)]] (hf : P.funcs[f]? = some fn) (hname : (fn.name == "runtime.NumGoroutine") = false) (hb : fn.body.isNone = true) (hn : Extern.findNext fn = none)
    (he : Extern.find fn = some (Extern.Atomic.loadT (.int k))) (hk : K (.int k x) w) : mop P (o_call (fv f) [.pointer (some ⟨g, i, none⟩)]) w K X := by
  obtain ⟨hc, hz⟩ := h.cell1 a b
  have := run_call_load (P := P) (f := f) hf hname hb hn k he hc
  exact mop_run (run_ocall_ext (by simpa using this)) hk
theorem mm_atHit (h : Mem H w0 L w) [a : AtB L g t' fs put] [b : Sub fs i 1 [.one (.int k x)]] [p : Put fs i [.one (.int k y)] fs'] (hf : P.funcs[f]? = some fn) (hname : (fn.name == "runtime.NumGoroutine") = false) (hb : fn.body.isNone = true) (hn : Extern.findNext fn = none)
    (he : Extern.find fn = some (Extern.Atomic.casT (.int k))) (hk : ∀ w', Mem H w0 (put (fb g t' fs')) w' → K (.bool true) w') : mop P (o_call (fv f) [.pointer (some ⟨g, i, none⟩), .int k x, .int k y]) w K X := by
  obtain ⟨hc, hz⟩ := h.cell1 a b
  have := run_call_cas_hit (P := P) (f := f) hf hname hb hn k he (y := y) hc hz
  exact mop_run (run_ocall_ext (by simpa using this)) (hk _ (h.setCell1 a p))
theorem mm_atMiss {o : Int} (h : Mem H w0 L w) [a : AtB L g t' fs put] [b : Sub fs i 1 [.one (.int k x)]] (hf : P.funcs[f]? = some fn) (hname : (fn.name == "runtime.NumGoroutine") = false) (hb : fn.body.isNone = true) (hn : Extern.findNext fn = none)
    (he : Extern.find fn = some (Extern.Atomic.casT (.int k))) (hne : ¬ x = o) (hk : K (.bool false) w) : mop P (o_call (fv f) [.pointer (some ⟨g, i, none⟩), .int k o, .int k y]) w K X := by
  obtain ⟨hc, hz⟩ := h.cell1 a b
  have := run_call_cas_miss (P := P) (f := f) hf hname hb hn k he (y := y) hc hz hne
  exact mop_run (run_ocall_ext (by simpa using this)) hk
end
end Go.Proofs.Ytihelggfpeokbaa
