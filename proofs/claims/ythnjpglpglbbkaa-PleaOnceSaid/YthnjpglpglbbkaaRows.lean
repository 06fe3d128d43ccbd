/-
  No cell of these rows narrows 'for every input' (looked for: loops, veiled, ifaces, maps, wideKeys, modest, calm, conditions, laid).
  DERIVED. THE GIVEN ROWS OF THIS SEAT. 11 by the template 'for every input the law returns true; each argument reads behind the call as it read before'; 0 by the template 'total and deterministic' (their statements: YthnjpglpglbbkaaTotals.lean).
  GIVEN WITH THE SEED: the statements are not yours to turn. If you find one false, say at which input.
  Laid BY PROGRAM, IN A SANDBOX (cutbox-rows.mjs): the forced cells as the released guide's own fill.sh prints them over the translation 2a2f696ca44319f7… (all of the seat's roots in one cut). By AI agents, Wed Nov 11 2026. No macro, syntax, notation, axiom, sorry.
-/
import Derived.Test.YthnjpglpglbbkaaChecked
import GoSem.Claim
import GoSem.ClaimJoined
import GoSem.ClaimMapViews
import Derived.JoinedTies
import Derived.KernelRfl
namespace Go.Proofs.Ythnjpglpglbbkaa
/- THE CELL 'sum', in the pinned program and in every row, IS THE sha256 OF THE DUMP (.gsa) THAT YthnjpglpglbbkaaProg.lean LOADS. Nothing in Lean hashes anything: it is a label: what it is worth is what the hold of that sum in a sandbox is worth. -/
noncomputable def Try.pinned : Pinned := { name := "ythnjpglpglbbkaa", sum := "2a2f696ca44319f76b41a5fc7e47745b18e71119adf2371af3a212631ee453f3", checked := Try.checked }
namespace Rows
def none {H : Type} : Left H := { results := [], args := [] }

/-- 'bevylaw16.HoldOnce': WHATEVER THE INPUT: true; the input reads as it did. -/
def holdOnceSpec : ChangeSpec := { name := "holdOnce", fn := fun _ => fun
  | [d1, d2] => { results := [.lit (.bool true)], args := [d1, d2] }
  | _ => none }
def holdOnceRow : OpenClaim := { program := "ythnjpglpglbbkaa", sum := "2a2f696ca44319f76b41a5fc7e47745b18e71119adf2371af3a212631ee453f3", func := "bevy/bevylaw16.HoldOnce", spec := "holdOnce", unfollowed := true, recurses := true, apart := false }
def HoldOnceSaid : Prop := holdOnceRow.holds Try.pinned (OpenSpec.ofChange holdOnceSpec)

/-- ITS FALSE NEIGHBOUR: 'it returns false'. Refute it at one input. -/
def holdOnceWrong : ChangeSpec := { name := "holdOnce", fn := fun _ => fun
  | [d1, d2] => { results := [.lit (.bool false)], args := [d1, d2] }
  | _ => none }
def HoldOnceWrongFalsely : Prop := holdOnceRow.holds Try.pinned (OpenSpec.ofChange holdOnceWrong)

/-- 'bevylaw21.NetOnce': WHATEVER THE INPUT: true; the input reads as it did. -/
def netOnceSpec : ChangeSpec := { name := "netOnce", fn := fun _ => fun
  | [d1, d2] => { results := [.lit (.bool true)], args := [d1, d2] }
  | _ => none }
def netOnceRow : OpenClaim := { program := "ythnjpglpglbbkaa", sum := "2a2f696ca44319f76b41a5fc7e47745b18e71119adf2371af3a212631ee453f3", func := "bevy/bevylaw21.NetOnce", spec := "netOnce", apart := false }
def NetOnceSaid : Prop := netOnceRow.holds Try.pinned (OpenSpec.ofChange netOnceSpec)

/-- ITS FALSE NEIGHBOUR: 'it returns false'. Refute it at one input. -/
def netOnceWrong : ChangeSpec := { name := "netOnce", fn := fun _ => fun
  | [d1, d2] => { results := [.lit (.bool false)], args := [d1, d2] }
  | _ => none }
def NetOnceWrongFalsely : Prop := netOnceRow.holds Try.pinned (OpenSpec.ofChange netOnceWrong)

/-- 'bevylaw21.NetPlays': WHATEVER THE INPUT: true; the input reads as it did. -/
def netPlaysSpec : ChangeSpec := { name := "netPlays", fn := fun _ => fun
  | [d1, d2] => { results := [.lit (.bool true)], args := [d1, d2] }
  | _ => none }
def netPlaysRow : OpenClaim := { program := "ythnjpglpglbbkaa", sum := "2a2f696ca44319f76b41a5fc7e47745b18e71119adf2371af3a212631ee453f3", func := "bevy/bevylaw21.NetPlays", spec := "netPlays", apart := false }
def NetPlaysSaid : Prop := netPlaysRow.holds Try.pinned (OpenSpec.ofChange netPlaysSpec)

/-- ITS FALSE NEIGHBOUR: 'it returns false'. Refute it at one input. -/
def netPlaysWrong : ChangeSpec := { name := "netPlays", fn := fun _ => fun
  | [d1, d2] => { results := [.lit (.bool false)], args := [d1, d2] }
  | _ => none }
def NetPlaysWrongFalsely : Prop := netPlaysRow.holds Try.pinned (OpenSpec.ofChange netPlaysWrong)

/-- 'bevylaw18.DockOrders': WHATEVER THE INPUT: true; the input reads as it did. -/
def dockOrdersSpec : ChangeSpec := { name := "dockOrders", fn := fun _ => fun
  | [d1, d2, d3] => { results := [.lit (.bool true)], args := [d1, d2, d3] }
  | _ => none }
def dockOrdersRow : OpenClaim := { program := "ythnjpglpglbbkaa", sum := "2a2f696ca44319f76b41a5fc7e47745b18e71119adf2371af3a212631ee453f3", func := "bevy/bevylaw18.DockOrders", spec := "dockOrders", inPlace := ["sync/atomic.AddInt64", "sync/atomic.LoadInt64", "sync/atomic.CompareAndSwapUint32"], apart := false }
def DockOrdersSaid : Prop := dockOrdersRow.holds Try.pinned (OpenSpec.ofChange dockOrdersSpec)

/-- ITS FALSE NEIGHBOUR: 'it returns false'. Refute it at one input. -/
def dockOrdersWrong : ChangeSpec := { name := "dockOrders", fn := fun _ => fun
  | [d1, d2, d3] => { results := [.lit (.bool false)], args := [d1, d2, d3] }
  | _ => none }
def DockOrdersWrongFalsely : Prop := dockOrdersRow.holds Try.pinned (OpenSpec.ofChange dockOrdersWrong)

/-- 'bevylaw16.HoldPlays': WHATEVER THE INPUT: true; the input reads as it did. -/
def holdPlaysSpec : ChangeSpec := { name := "holdPlays", fn := fun _ => fun
  | [d1, d2] => { results := [.lit (.bool true)], args := [d1, d2] }
  | _ => none }
def holdPlaysRow : OpenClaim := { program := "ythnjpglpglbbkaa", sum := "2a2f696ca44319f76b41a5fc7e47745b18e71119adf2371af3a212631ee453f3", func := "bevy/bevylaw16.HoldPlays", spec := "holdPlays", unfollowed := true, recurses := true, apart := false }
def HoldPlaysSaid : Prop := holdPlaysRow.holds Try.pinned (OpenSpec.ofChange holdPlaysSpec)

/-- ITS FALSE NEIGHBOUR: 'it returns false'. Refute it at one input. -/
def holdPlaysWrong : ChangeSpec := { name := "holdPlays", fn := fun _ => fun
  | [d1, d2] => { results := [.lit (.bool false)], args := [d1, d2] }
  | _ => none }
def HoldPlaysWrongFalsely : Prop := holdPlaysRow.holds Try.pinned (OpenSpec.ofChange holdPlaysWrong)

/-- 'bevylaw16.HoldNil': WHATEVER THE INPUT: true; the input reads as it did. -/
def holdNilSpec : ChangeSpec := { name := "holdNil", fn := fun _ => fun
  | [d] => { results := [.lit (.bool true)], args := [d] }
  | _ => none }
def holdNilRow : OpenClaim := { program := "ythnjpglpglbbkaa", sum := "2a2f696ca44319f76b41a5fc7e47745b18e71119adf2371af3a212631ee453f3", func := "bevy/bevylaw16.HoldNil", spec := "holdNil", unfollowed := true, recurses := true, apart := false }
def HoldNilSaid : Prop := holdNilRow.holds Try.pinned (OpenSpec.ofChange holdNilSpec)

/-- ITS FALSE NEIGHBOUR: 'it returns false'. Refute it at one input. -/
def holdNilWrong : ChangeSpec := { name := "holdNil", fn := fun _ => fun
  | [d] => { results := [.lit (.bool false)], args := [d] }
  | _ => none }
def HoldNilWrongFalsely : Prop := holdNilRow.holds Try.pinned (OpenSpec.ofChange holdNilWrong)

/-- 'bevylaw18.DockPlays': WHATEVER THE INPUT: true; the input reads as it did. -/
def dockPlaysSpec : ChangeSpec := { name := "dockPlays", fn := fun _ => fun
  | [d1, d2] => { results := [.lit (.bool true)], args := [d1, d2] }
  | _ => none }
def dockPlaysRow : OpenClaim := { program := "ythnjpglpglbbkaa", sum := "2a2f696ca44319f76b41a5fc7e47745b18e71119adf2371af3a212631ee453f3", func := "bevy/bevylaw18.DockPlays", spec := "dockPlays", inPlace := ["sync/atomic.AddInt64", "sync/atomic.LoadInt64", "sync/atomic.CompareAndSwapUint32"], apart := false }
def DockPlaysSaid : Prop := dockPlaysRow.holds Try.pinned (OpenSpec.ofChange dockPlaysSpec)

/-- ITS FALSE NEIGHBOUR: 'it returns false'. Refute it at one input. -/
def dockPlaysWrong : ChangeSpec := { name := "dockPlays", fn := fun _ => fun
  | [d1, d2] => { results := [.lit (.bool false)], args := [d1, d2] }
  | _ => none }
def DockPlaysWrongFalsely : Prop := dockPlaysRow.holds Try.pinned (OpenSpec.ofChange dockPlaysWrong)

/-- 'bevylaw18.DockNil': WHATEVER THE INPUT: true; the input reads as it did. -/
def dockNilSpec : ChangeSpec := { name := "dockNil", fn := fun _ => fun
  | [d] => { results := [.lit (.bool true)], args := [d] }
  | _ => none }
def dockNilRow : OpenClaim := { program := "ythnjpglpglbbkaa", sum := "2a2f696ca44319f76b41a5fc7e47745b18e71119adf2371af3a212631ee453f3", func := "bevy/bevylaw18.DockNil", spec := "dockNil", inPlace := ["sync/atomic.AddInt64", "sync/atomic.LoadInt64", "sync/atomic.CompareAndSwapUint32"], apart := false }
def DockNilSaid : Prop := dockNilRow.holds Try.pinned (OpenSpec.ofChange dockNilSpec)

/-- ITS FALSE NEIGHBOUR: 'it returns false'. Refute it at one input. -/
def dockNilWrong : ChangeSpec := { name := "dockNil", fn := fun _ => fun
  | [d] => { results := [.lit (.bool false)], args := [d] }
  | _ => none }
def DockNilWrongFalsely : Prop := dockNilRow.holds Try.pinned (OpenSpec.ofChange dockNilWrong)

/-- 'bevylaw17.PleaOnce': WHATEVER THE INPUT: true; the input reads as it did. -/
def pleaOnceSpec : ChangeSpec := { name := "pleaOnce", fn := fun _ => fun
  | [d] => { results := [.lit (.bool true)], args := [d] }
  | _ => none }
def pleaOnceRow : OpenClaim := { program := "ythnjpglpglbbkaa", sum := "2a2f696ca44319f76b41a5fc7e47745b18e71119adf2371af3a212631ee453f3", func := "bevy/bevylaw17.PleaOnce", spec := "pleaOnce", unfollowed := true, recurses := true, apart := false }
def PleaOnceSaid : Prop := pleaOnceRow.holds Try.pinned (OpenSpec.ofChange pleaOnceSpec)

/-- ITS FALSE NEIGHBOUR: 'it returns false'. Refute it at one input. -/
def pleaOnceWrong : ChangeSpec := { name := "pleaOnce", fn := fun _ => fun
  | [d] => { results := [.lit (.bool false)], args := [d] }
  | _ => none }
def PleaOnceWrongFalsely : Prop := pleaOnceRow.holds Try.pinned (OpenSpec.ofChange pleaOnceWrong)

/-- 'bevylaw17.PleaNil': WHATEVER THE INPUT: true; the input reads as it did. -/
def pleaNilSpec : ChangeSpec := { name := "pleaNil", fn := fun _ => fun
  | [d] => { results := [.lit (.bool true)], args := [d] }
  | _ => none }
def pleaNilRow : OpenClaim := { program := "ythnjpglpglbbkaa", sum := "2a2f696ca44319f76b41a5fc7e47745b18e71119adf2371af3a212631ee453f3", func := "bevy/bevylaw17.PleaNil", spec := "pleaNil", unfollowed := true, recurses := true, apart := false }
def PleaNilSaid : Prop := pleaNilRow.holds Try.pinned (OpenSpec.ofChange pleaNilSpec)

/-- ITS FALSE NEIGHBOUR: 'it returns false'. Refute it at one input. -/
def pleaNilWrong : ChangeSpec := { name := "pleaNil", fn := fun _ => fun
  | [d] => { results := [.lit (.bool false)], args := [d] }
  | _ => none }
def PleaNilWrongFalsely : Prop := pleaNilRow.holds Try.pinned (OpenSpec.ofChange pleaNilWrong)

/-- 'bevylaw17.PleaPlays': WHATEVER THE INPUT: true; the input reads as it did. -/
def pleaPlaysSpec : ChangeSpec := { name := "pleaPlays", fn := fun _ => fun
  | [d] => { results := [.lit (.bool true)], args := [d] }
  | _ => none }
def pleaPlaysRow : OpenClaim := { program := "ythnjpglpglbbkaa", sum := "2a2f696ca44319f76b41a5fc7e47745b18e71119adf2371af3a212631ee453f3", func := "bevy/bevylaw17.PleaPlays", spec := "pleaPlays", unfollowed := true, recurses := true, apart := false }
def PleaPlaysSaid : Prop := pleaPlaysRow.holds Try.pinned (OpenSpec.ofChange pleaPlaysSpec)

/-- ITS FALSE NEIGHBOUR: 'it returns false'. Refute it at one input. -/
def pleaPlaysWrong : ChangeSpec := { name := "pleaPlays", fn := fun _ => fun
  | [d] => { results := [.lit (.bool false)], args := [d] }
  | _ => none }
def PleaPlaysWrongFalsely : Prop := pleaPlaysRow.holds Try.pinned (OpenSpec.ofChange pleaPlaysWrong)

/- THE SECOND FORM. 'bulk': how many values and letters a reading holds, each counted each time it is reached (what is shared counts as often as it is met; a slice's spare places count too). A statement '..UptoSaid' is the law's where the arguments, and the package variables that the reading takes, are together of bulk at most 1048576: NARROWER than '..Said'. Prove '..Said' where nothing that the law and all that it calls make is longer than what came in: it says more and counts as full. Else prove '..UptoSaid'. A law counts once. -/
mutual
def uptoBulk {H : Type} : DataW H → Nat
  | .lit (.string bytes) => bytes.length + 1
  | .lit _ => 1
  | .nil => 1
  | .ptr d => uptoBulk d + 1
  | .slice elems spare => uptoBulkAll elems + uptoBulkAll spare + 1
  | .agg parts => uptoBulkAll parts + 1
  | .iface _ d => uptoBulk d + 1
  | .map entries => uptoBulkEntries entries + 1
  | .held _ => 1
def uptoBulkAll {H : Type} : List (DataW H) → Nat
  | [] => 0
  | d :: r => uptoBulk d + uptoBulkAll r
def uptoBulkEntries {H : Type} : List (Lit × DataW H) → Nat
  | [] => 0
  | x :: r => uptoBulkEntry x + uptoBulkEntries r
def uptoBulkEntry {H : Type} : Lit × DataW H → Nat
  | (.string bytes, d) => bytes.length + uptoBulk d + 1
  | (_, d) => uptoBulk d + 1
 end
def uptoSmall : (H : Type) → List (DataW H) → Bool := fun _ ds => decide (uptoBulkAll ds ≤ 1048576)
def OpenSpec.upto (s : _root_.Go.ChangeSpec) : _root_.Go.OpenSpec := { _root_.Go.OpenSpec.ofChange s with cond := some uptoSmall }

/-- 'bevylaw16.HoldOnce', WHERE WHAT IT READS IS OF BULK AT MOST 1048576: true; the input reads as it did. -/
def holdOnceUptoRow : OpenClaim := { program := "ythnjpglpglbbkaa", sum := "2a2f696ca44319f76b41a5fc7e47745b18e71119adf2371af3a212631ee453f3", func := "bevy/bevylaw16.HoldOnce", spec := "holdOnce", unfollowed := true, recurses := true, apart := false, narrowed := true }
def HoldOnceUptoSaid : Prop := holdOnceUptoRow.holds Try.pinned (OpenSpec.upto holdOnceSpec)

/-- 'bevylaw21.NetOnce', WHERE WHAT IT READS IS OF BULK AT MOST 1048576: true; the input reads as it did. -/
def netOnceUptoRow : OpenClaim := { program := "ythnjpglpglbbkaa", sum := "2a2f696ca44319f76b41a5fc7e47745b18e71119adf2371af3a212631ee453f3", func := "bevy/bevylaw21.NetOnce", spec := "netOnce", apart := false, narrowed := true }
def NetOnceUptoSaid : Prop := netOnceUptoRow.holds Try.pinned (OpenSpec.upto netOnceSpec)

/-- 'bevylaw21.NetPlays', WHERE WHAT IT READS IS OF BULK AT MOST 1048576: true; the input reads as it did. -/
def netPlaysUptoRow : OpenClaim := { program := "ythnjpglpglbbkaa", sum := "2a2f696ca44319f76b41a5fc7e47745b18e71119adf2371af3a212631ee453f3", func := "bevy/bevylaw21.NetPlays", spec := "netPlays", apart := false, narrowed := true }
def NetPlaysUptoSaid : Prop := netPlaysUptoRow.holds Try.pinned (OpenSpec.upto netPlaysSpec)

/-- 'bevylaw18.DockOrders', WHERE WHAT IT READS IS OF BULK AT MOST 1048576: true; the input reads as it did. -/
def dockOrdersUptoRow : OpenClaim := { program := "ythnjpglpglbbkaa", sum := "2a2f696ca44319f76b41a5fc7e47745b18e71119adf2371af3a212631ee453f3", func := "bevy/bevylaw18.DockOrders", spec := "dockOrders", inPlace := ["sync/atomic.AddInt64", "sync/atomic.LoadInt64", "sync/atomic.CompareAndSwapUint32"], apart := false, narrowed := true }
def DockOrdersUptoSaid : Prop := dockOrdersUptoRow.holds Try.pinned (OpenSpec.upto dockOrdersSpec)

/-- 'bevylaw16.HoldPlays', WHERE WHAT IT READS IS OF BULK AT MOST 1048576: true; the input reads as it did. -/
def holdPlaysUptoRow : OpenClaim := { program := "ythnjpglpglbbkaa", sum := "2a2f696ca44319f76b41a5fc7e47745b18e71119adf2371af3a212631ee453f3", func := "bevy/bevylaw16.HoldPlays", spec := "holdPlays", unfollowed := true, recurses := true, apart := false, narrowed := true }
def HoldPlaysUptoSaid : Prop := holdPlaysUptoRow.holds Try.pinned (OpenSpec.upto holdPlaysSpec)

/-- 'bevylaw16.HoldNil', WHERE WHAT IT READS IS OF BULK AT MOST 1048576: true; the input reads as it did. -/
def holdNilUptoRow : OpenClaim := { program := "ythnjpglpglbbkaa", sum := "2a2f696ca44319f76b41a5fc7e47745b18e71119adf2371af3a212631ee453f3", func := "bevy/bevylaw16.HoldNil", spec := "holdNil", unfollowed := true, recurses := true, apart := false, narrowed := true }
def HoldNilUptoSaid : Prop := holdNilUptoRow.holds Try.pinned (OpenSpec.upto holdNilSpec)

/-- 'bevylaw18.DockPlays', WHERE WHAT IT READS IS OF BULK AT MOST 1048576: true; the input reads as it did. -/
def dockPlaysUptoRow : OpenClaim := { program := "ythnjpglpglbbkaa", sum := "2a2f696ca44319f76b41a5fc7e47745b18e71119adf2371af3a212631ee453f3", func := "bevy/bevylaw18.DockPlays", spec := "dockPlays", inPlace := ["sync/atomic.AddInt64", "sync/atomic.LoadInt64", "sync/atomic.CompareAndSwapUint32"], apart := false, narrowed := true }
def DockPlaysUptoSaid : Prop := dockPlaysUptoRow.holds Try.pinned (OpenSpec.upto dockPlaysSpec)

/-- 'bevylaw18.DockNil', WHERE WHAT IT READS IS OF BULK AT MOST 1048576: true; the input reads as it did. -/
def dockNilUptoRow : OpenClaim := { program := "ythnjpglpglbbkaa", sum := "2a2f696ca44319f76b41a5fc7e47745b18e71119adf2371af3a212631ee453f3", func := "bevy/bevylaw18.DockNil", spec := "dockNil", inPlace := ["sync/atomic.AddInt64", "sync/atomic.LoadInt64", "sync/atomic.CompareAndSwapUint32"], apart := false, narrowed := true }
def DockNilUptoSaid : Prop := dockNilUptoRow.holds Try.pinned (OpenSpec.upto dockNilSpec)

/-- 'bevylaw17.PleaOnce', WHERE WHAT IT READS IS OF BULK AT MOST 1048576: true; the input reads as it did. -/
def pleaOnceUptoRow : OpenClaim := { program := "ythnjpglpglbbkaa", sum := "2a2f696ca44319f76b41a5fc7e47745b18e71119adf2371af3a212631ee453f3", func := "bevy/bevylaw17.PleaOnce", spec := "pleaOnce", unfollowed := true, recurses := true, apart := false, narrowed := true }
def PleaOnceUptoSaid : Prop := pleaOnceUptoRow.holds Try.pinned (OpenSpec.upto pleaOnceSpec)

/-- 'bevylaw17.PleaNil', WHERE WHAT IT READS IS OF BULK AT MOST 1048576: true; the input reads as it did. -/
def pleaNilUptoRow : OpenClaim := { program := "ythnjpglpglbbkaa", sum := "2a2f696ca44319f76b41a5fc7e47745b18e71119adf2371af3a212631ee453f3", func := "bevy/bevylaw17.PleaNil", spec := "pleaNil", unfollowed := true, recurses := true, apart := false, narrowed := true }
def PleaNilUptoSaid : Prop := pleaNilUptoRow.holds Try.pinned (OpenSpec.upto pleaNilSpec)

/-- 'bevylaw17.PleaPlays', WHERE WHAT IT READS IS OF BULK AT MOST 1048576: true; the input reads as it did. -/
def pleaPlaysUptoRow : OpenClaim := { program := "ythnjpglpglbbkaa", sum := "2a2f696ca44319f76b41a5fc7e47745b18e71119adf2371af3a212631ee453f3", func := "bevy/bevylaw17.PleaPlays", spec := "pleaPlays", unfollowed := true, recurses := true, apart := false, narrowed := true }
def PleaPlaysUptoSaid : Prop := pleaPlaysUptoRow.holds Try.pinned (OpenSpec.upto pleaPlaysSpec)

end Rows
end Go.Proofs.Ythnjpglpglbbkaa
