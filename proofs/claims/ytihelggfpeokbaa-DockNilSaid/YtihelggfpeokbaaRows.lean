/-
  No cell of these rows narrows 'for every input' (looked for: loops, veiled, ifaces, maps, wideKeys, modest, calm, conditions, laid).
  DERIVED. THE GIVEN ROWS OF THIS SEAT. 3 by the template 'for every input the law returns true; each argument reads behind the call as it read before'; 0 by the template 'total and deterministic' (their statements: YtihelggfpeokbaaTotals.lean).
  GIVEN WITH THE SEED: the statements are not yours to turn. If you find one false, say at which input.
  Laid BY PROGRAM, IN A SANDBOX (cutbox-rows.mjs): the forced cells as the released guide's own fill.sh prints them over the translation badb353446091a2d… (all of the seat's roots in one cut). By AI agents, Wed Nov 11 2026. No macro, syntax, notation, axiom, sorry.
-/
import Derived.Test.YtihelggfpeokbaaChecked
import GoSem.Claim
import GoSem.ClaimJoined
import GoSem.ClaimMapViews
import Derived.JoinedTies
import Derived.KernelRfl
namespace Go.Proofs.Ytihelggfpeokbaa
/- THE CELL 'sum', in the pinned program and in every row, IS THE sha256 OF THE DUMP (.gsa) THAT YtihelggfpeokbaaProg.lean LOADS. Nothing in Lean hashes anything: it is a label: what it is worth is what the hold of that sum in a sandbox is worth. -/
noncomputable def Try.pinned : Pinned := { name := "ytihelggfpeokbaa", sum := "badb353446091a2d1de9e0d35fdfa09e8319a0c3043d63e9837c28d9ecac8103", checked := Try.checked }
namespace Rows
def none {H : Type} : Left H := { results := [], args := [] }

/-- 'bevylaw18.DockOrders': WHATEVER THE INPUT: true; the input reads as it did. -/
def dockOrdersSpec : ChangeSpec := { name := "dockOrders", fn := fun _ => fun
  | [d1, d2, d3] => { results := [.lit (.bool true)], args := [d1, d2, d3] }
  | _ => none }
def dockOrdersRow : OpenClaim := { program := "ytihelggfpeokbaa", sum := "badb353446091a2d1de9e0d35fdfa09e8319a0c3043d63e9837c28d9ecac8103", func := "bevy/bevylaw18.DockOrders", spec := "dockOrders", inPlace := ["sync/atomic.AddInt64", "sync/atomic.LoadInt64", "sync/atomic.CompareAndSwapUint32"], apart := false }
def DockOrdersSaid : Prop := dockOrdersRow.holds Try.pinned (OpenSpec.ofChange dockOrdersSpec)

/-- ITS FALSE NEIGHBOUR: 'it returns false'. Refute it at one input. -/
def dockOrdersWrong : ChangeSpec := { name := "dockOrders", fn := fun _ => fun
  | [d1, d2, d3] => { results := [.lit (.bool false)], args := [d1, d2, d3] }
  | _ => none }
def DockOrdersWrongFalsely : Prop := dockOrdersRow.holds Try.pinned (OpenSpec.ofChange dockOrdersWrong)

/-- 'bevylaw18.DockPlays': WHATEVER THE INPUT: true; the input reads as it did. -/
def dockPlaysSpec : ChangeSpec := { name := "dockPlays", fn := fun _ => fun
  | [d1, d2] => { results := [.lit (.bool true)], args := [d1, d2] }
  | _ => none }
def dockPlaysRow : OpenClaim := { program := "ytihelggfpeokbaa", sum := "badb353446091a2d1de9e0d35fdfa09e8319a0c3043d63e9837c28d9ecac8103", func := "bevy/bevylaw18.DockPlays", spec := "dockPlays", inPlace := ["sync/atomic.AddInt64", "sync/atomic.LoadInt64", "sync/atomic.CompareAndSwapUint32"], apart := false }
def DockPlaysSaid : Prop := dockPlaysRow.holds Try.pinned (OpenSpec.ofChange dockPlaysSpec)

/-- ITS FALSE NEIGHBOUR: 'it returns false'. Refute it at one input. -/
def dockPlaysWrong : ChangeSpec := { name := "dockPlays", fn := fun _ => fun
  | [d1, d2] => { results := [.lit (.bool false)], args := [d1, d2] }
  | _ => none }
def DockPlaysWrongFalsely : Prop := dockPlaysRow.holds Try.pinned (OpenSpec.ofChange dockPlaysWrong)

/-- 'bevylaw18.DockNil': WHATEVER THE INPUT: true; the input reads as it did. -/
def dockNilSpec : ChangeSpec := { name := "dockNil", fn := fun _ => fun
  | [d] => { results := [.lit (.bool true)], args := [d] }
  | _ => none }
def dockNilRow : OpenClaim := { program := "ytihelggfpeokbaa", sum := "badb353446091a2d1de9e0d35fdfa09e8319a0c3043d63e9837c28d9ecac8103", func := "bevy/bevylaw18.DockNil", spec := "dockNil", inPlace := ["sync/atomic.AddInt64", "sync/atomic.LoadInt64", "sync/atomic.CompareAndSwapUint32"], apart := false }
def DockNilSaid : Prop := dockNilRow.holds Try.pinned (OpenSpec.ofChange dockNilSpec)

/-- ITS FALSE NEIGHBOUR: 'it returns false'. Refute it at one input. -/
def dockNilWrong : ChangeSpec := { name := "dockNil", fn := fun _ => fun
  | [d] => { results := [.lit (.bool false)], args := [d] }
  | _ => none }
def DockNilWrongFalsely : Prop := dockNilRow.holds Try.pinned (OpenSpec.ofChange dockNilWrong)

/- THE SECOND FORM. 'bulk': how many values and letters a reading holds, each counted each time it is reached (what is shared counts as often as it is met; a slice's spare places count too). A statement '..UptoSaid' is the law's where the arguments, and the package variables that the reading takes, are together of bulk at most 1048576: NARROWER than '..Said'. Prove '..Said' where nothing that the law and all that it calls make is longer than what came in: it says more and counts as full. Else prove '..UptoSaid'. A law counts once. -/
mutual
def uptoBulk {H : Type} : DataW H → Nat
  | .lit (.string bytes) => bytes.length + 1
  | .lit _ => 1
  | .nil => 1
  | .ptr d => uptoBulk d + 1
  | .slice elems spare => uptoBulkAll elems + uptoBulkAll spare + 1
  | .agg parts => uptoBulkAll parts + 1
  | .iface _ d => uptoBulk d + 1
  | .map entries => uptoBulkEntries entries + 1
  | .held _ => 1
def uptoBulkAll {H : Type} : List (DataW H) → Nat
  | [] => 0
  | d :: r => uptoBulk d + uptoBulkAll r
def uptoBulkEntries {H : Type} : List (Lit × DataW H) → Nat
  | [] => 0
  | x :: r => uptoBulkEntry x + uptoBulkEntries r
def uptoBulkEntry {H : Type} : Lit × DataW H → Nat
  | (.string bytes, d) => bytes.length + uptoBulk d + 1
  | (_, d) => uptoBulk d + 1
 end
def uptoSmall : (H : Type) → List (DataW H) → Bool := fun _ ds => decide (uptoBulkAll ds ≤ 1048576)
def OpenSpec.upto (s : _root_.Go.ChangeSpec) : _root_.Go.OpenSpec := { _root_.Go.OpenSpec.ofChange s with cond := some uptoSmall }

/-- 'bevylaw18.DockOrders', WHERE WHAT IT READS IS OF BULK AT MOST 1048576: true; the input reads as it did. -/
def dockOrdersUptoRow : OpenClaim := { program := "ytihelggfpeokbaa", sum := "badb353446091a2d1de9e0d35fdfa09e8319a0c3043d63e9837c28d9ecac8103", func := "bevy/bevylaw18.DockOrders", spec := "dockOrders", inPlace := ["sync/atomic.AddInt64", "sync/atomic.LoadInt64", "sync/atomic.CompareAndSwapUint32"], apart := false, narrowed := true }
def DockOrdersUptoSaid : Prop := dockOrdersUptoRow.holds Try.pinned (OpenSpec.upto dockOrdersSpec)

/-- 'bevylaw18.DockPlays', WHERE WHAT IT READS IS OF BULK AT MOST 1048576: true; the input reads as it did. -/
def dockPlaysUptoRow : OpenClaim := { program := "ytihelggfpeokbaa", sum := "badb353446091a2d1de9e0d35fdfa09e8319a0c3043d63e9837c28d9ecac8103", func := "bevy/bevylaw18.DockPlays", spec := "dockPlays", inPlace := ["sync/atomic.AddInt64", "sync/atomic.LoadInt64", "sync/atomic.CompareAndSwapUint32"], apart := false, narrowed := true }
def DockPlaysUptoSaid : Prop := dockPlaysUptoRow.holds Try.pinned (OpenSpec.upto dockPlaysSpec)

/-- 'bevylaw18.DockNil', WHERE WHAT IT READS IS OF BULK AT MOST 1048576: true; the input reads as it did. -/
def dockNilUptoRow : OpenClaim := { program := "ytihelggfpeokbaa", sum := "badb353446091a2d1de9e0d35fdfa09e8319a0c3043d63e9837c28d9ecac8103", func := "bevy/bevylaw18.DockNil", spec := "dockNil", inPlace := ["sync/atomic.AddInt64", "sync/atomic.LoadInt64", "sync/atomic.CompareAndSwapUint32"], apart := false, narrowed := true }
def DockNilUptoSaid : Prop := dockNilUptoRow.holds Try.pinned (OpenSpec.upto dockNilSpec)

end Rows
end Go.Proofs.Ytihelggfpeokbaa
