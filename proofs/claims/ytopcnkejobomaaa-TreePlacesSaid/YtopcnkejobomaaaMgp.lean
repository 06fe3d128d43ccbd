/- Calls with plain answers that the walk finds by itself. No program is named here. -/
import Derived.Test.YtopcnkejobomaaaMwd
namespace Go.Proofs.Ytopcnkejobomaaa
open Go.RowKit

/-- A call that answers v, if c holds, and leaves what there was. -/
class PurC (P : Program) (f : Nat) (args : List Value) (c : outParam Prop) (v : outParam Value) : Prop where
  ok : c → ∀ (w : World), Calls P f args.toArray w fun en w' => en = .returned v ∧ St w [] w'
section
variable {P : Program} {H K : Hp} {w0 w : World} {L : List Res} {f : Nat} {args : List Value} {c : Prop} {v : Value} {Kt : Value → World → Prop} {X : List PanicEntry → World → Prop}
theorem mm_purC (h : Mem H w0 L w) [hf : FunC P f] [p : PurC P f args c v] (hc : c) (hk : ∀ w', Mem H w0 L w' → Kt v w') : mop P (o_call (fv f) args) w Kt X := mm_pure h (p.ok hc w) hk
theorem dm_purC {ext : Bool} (h : Mem H w0 L w) [hf : FunC P f] [p : PurC P f args c v] (hc : c) (hk : ∀ w', Ext w w' → Mem H w0 L w' → Kt v w') : df P w (o_call (fv f) args) ext Kt := dm_pure h (fun w _ => p.ok hc w) hk
theorem dK_purC {ext : Bool} (h : Mem H w0 L w) [hf : FunC P f] [p : PurC P f args c v] (hF : Fz K w) (hc : c) (hk : ∀ w', Mem H w0 L w' → Fz K w' → Kt v w') : dfS P (Rl.fz K) w (o_call (fv f) args) ext Kt := dK_pure h (fun w _ => p.ok hc w) hF hk
end
end Go.Proofs.Ytopcnkejobomaaa
