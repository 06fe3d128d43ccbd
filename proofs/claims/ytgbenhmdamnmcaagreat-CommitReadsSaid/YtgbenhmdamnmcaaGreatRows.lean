/-
  No cell of these rows narrows 'for every input' (looked for: loops, veiled, ifaces, maps, wideKeys, modest, calm, conditions, laid).
  DERIVED. THE GIVEN ROWS OF THIS SEAT. 4 by the template 'for every input the law returns true; each argument reads behind the call as it read before'; 0 by the template 'total and deterministic' (their statements: YtgbenhmdamnmcaaGreatTotals.lean).
  GIVEN WITH THE SEED: the statements are not yours to turn. If you find one false, say at which input.
  Laid BY PROGRAM, IN A SANDBOX (cutbox-rows.mjs): the forced cells as the released guide's own fill.sh prints them over the translation 439a9e5bc5200c0e… (all of the seat's roots in one cut). By AI agents, Wed Nov 11 2026. No macro, syntax, notation, axiom, sorry.
-/
import Derived.Test.YtgbenhmdamnmcaaGreatChecked
import GoSem.Claim
import GoSem.ClaimJoined
import GoSem.ClaimMapViews
import Derived.JoinedTies
import Derived.KernelRfl
namespace Go.Proofs.YtgbenhmdamnmcaaGreat
/- THE CELL 'sum', in the pinned program and in every row, IS THE sha256 OF THE DUMP (.gsa) THAT YtgbenhmdamnmcaaGreatProg.lean LOADS. Nothing in Lean hashes anything: it is a label: what it is worth is what the hold of that sum in a sandbox is worth. -/
noncomputable def Tryz.pinned : Pinned := { name := "ytgbenhmdamnmcaagreat", sum := "439a9e5bc5200c0e3575cec1068f88e3b21645a5cca00f6bd2ea7a50fca57d19", checked := Tryz.checked }
namespace Rows
def none {H : Type} : Left H := { results := [], args := [] }

/-- 'bevylaw13.CommitRights': WHATEVER THE INPUT: true; the input reads as it did. -/
def commitRightsSpec : ChangeSpec := { name := "commitRights", fn := fun _ => fun
  | [d] => { results := [.lit (.bool true)], args := [d] }
  | _ => none }
def commitRightsRow : OpenClaim := { program := "ytgbenhmdamnmcaagreat", sum := "439a9e5bc5200c0e3575cec1068f88e3b21645a5cca00f6bd2ea7a50fca57d19", func := "bevy/bevylaw13.CommitRights", spec := "commitRights", inPlace := ["slices.overlaps[int]"], unfollowed := true, recurses := true, plainKeys := false, apart := false }
def CommitRightsSaid : Prop := commitRightsRow.holds Tryz.pinned (OpenSpec.ofChange commitRightsSpec)

/-- ITS FALSE NEIGHBOUR: 'it returns false'. Refute it at one input. -/
def commitRightsWrong : ChangeSpec := { name := "commitRights", fn := fun _ => fun
  | [d] => { results := [.lit (.bool false)], args := [d] }
  | _ => none }
def CommitRightsWrongFalsely : Prop := commitRightsRow.holds Tryz.pinned (OpenSpec.ofChange commitRightsWrong)

/-- 'bevylaw13.CommitIds': WHATEVER THE INPUT: true; the input reads as it did. -/
def commitIdsSpec : ChangeSpec := { name := "commitIds", fn := fun _ => fun
  | [d] => { results := [.lit (.bool true)], args := [d] }
  | _ => none }
def commitIdsRow : OpenClaim := { program := "ytgbenhmdamnmcaagreat", sum := "439a9e5bc5200c0e3575cec1068f88e3b21645a5cca00f6bd2ea7a50fca57d19", func := "bevy/bevylaw13.CommitIds", spec := "commitIds", inPlace := ["slices.overlaps[int]"], unfollowed := true, recurses := true, plainKeys := false, apart := false }
def CommitIdsSaid : Prop := commitIdsRow.holds Tryz.pinned (OpenSpec.ofChange commitIdsSpec)

/-- ITS FALSE NEIGHBOUR: 'it returns false'. Refute it at one input. -/
def commitIdsWrong : ChangeSpec := { name := "commitIds", fn := fun _ => fun
  | [d] => { results := [.lit (.bool false)], args := [d] }
  | _ => none }
def CommitIdsWrongFalsely : Prop := commitIdsRow.holds Tryz.pinned (OpenSpec.ofChange commitIdsWrong)

/-- 'bevylaw13.CommitForms': WHATEVER THE INPUT: true; the input reads as it did. -/
def commitFormsSpec : ChangeSpec := { name := "commitForms", fn := fun _ => fun
  | [d] => { results := [.lit (.bool true)], args := [d] }
  | _ => none }
def commitFormsRow : OpenClaim := { program := "ytgbenhmdamnmcaagreat", sum := "439a9e5bc5200c0e3575cec1068f88e3b21645a5cca00f6bd2ea7a50fca57d19", func := "bevy/bevylaw13.CommitForms", spec := "commitForms", inPlace := ["slices.overlaps[int]"], unfollowed := true, recurses := true, plainKeys := false, apart := false }
def CommitFormsSaid : Prop := commitFormsRow.holds Tryz.pinned (OpenSpec.ofChange commitFormsSpec)

/-- ITS FALSE NEIGHBOUR: 'it returns false'. Refute it at one input. -/
def commitFormsWrong : ChangeSpec := { name := "commitForms", fn := fun _ => fun
  | [d] => { results := [.lit (.bool false)], args := [d] }
  | _ => none }
def CommitFormsWrongFalsely : Prop := commitFormsRow.holds Tryz.pinned (OpenSpec.ofChange commitFormsWrong)

/-- 'bevylaw13.CommitReads': WHATEVER THE INPUT: true; the input reads as it did. -/
def commitReadsSpec : ChangeSpec := { name := "commitReads", fn := fun _ => fun
  | [d] => { results := [.lit (.bool true)], args := [d] }
  | _ => none }
def commitReadsRow : OpenClaim := { program := "ytgbenhmdamnmcaagreat", sum := "439a9e5bc5200c0e3575cec1068f88e3b21645a5cca00f6bd2ea7a50fca57d19", func := "bevy/bevylaw13.CommitReads", spec := "commitReads", inPlace := ["slices.overlaps[int]"], unfollowed := true, recurses := true, plainKeys := false, apart := false }
def CommitReadsSaid : Prop := commitReadsRow.holds Tryz.pinned (OpenSpec.ofChange commitReadsSpec)

/-- ITS FALSE NEIGHBOUR: 'it returns false'. Refute it at one input. -/
def commitReadsWrong : ChangeSpec := { name := "commitReads", fn := fun _ => fun
  | [d] => { results := [.lit (.bool false)], args := [d] }
  | _ => none }
def CommitReadsWrongFalsely : Prop := commitReadsRow.holds Tryz.pinned (OpenSpec.ofChange commitReadsWrong)

/- THE SECOND FORM. 'bulk': how many values and letters a reading holds, each counted each time it is reached (what is shared counts as often as it is met; a slice's spare places count too). A statement '..UptoSaid' is the law's where the arguments, and the package variables that the reading takes, are together of bulk at most 1048576: NARROWER than '..Said'. Prove '..Said' where nothing that the law and all that it calls make is longer than what came in: it says more and counts as full. Else prove '..UptoSaid'. A law counts once. -/
mutual
def uptoBulk {H : Type} : DataW H → Nat
  | .lit (.string bytes) => bytes.length + 1
  | .lit _ => 1
  | .nil => 1
  | .ptr d => uptoBulk d + 1
  | .slice elems spare => uptoBulkAll elems + uptoBulkAll spare + 1
  | .agg parts => uptoBulkAll parts + 1
  | .iface _ d => uptoBulk d + 1
  | .map entries => uptoBulkEntries entries + 1
  | .held _ => 1
def uptoBulkAll {H : Type} : List (DataW H) → Nat
  | [] => 0
  | d :: r => uptoBulk d + uptoBulkAll r
def uptoBulkEntries {H : Type} : List (Lit × DataW H) → Nat
  | [] => 0
  | x :: r => uptoBulkEntry x + uptoBulkEntries r
def uptoBulkEntry {H : Type} : Lit × DataW H → Nat
  | (.string bytes, d) => bytes.length + uptoBulk d + 1
  | (_, d) => uptoBulk d + 1
 end
def uptoSmall : (H : Type) → List (DataW H) → Bool := fun _ ds => decide (uptoBulkAll ds ≤ 1048576)
def OpenSpec.upto (s : _root_.Go.ChangeSpec) : _root_.Go.OpenSpec := { _root_.Go.OpenSpec.ofChange s with cond := some uptoSmall }

/-- 'bevylaw13.CommitRights', WHERE WHAT IT READS IS OF BULK AT MOST 1048576: true; the input reads as it did. -/
def commitRightsUptoRow : OpenClaim := { program := "ytgbenhmdamnmcaagreat", sum := "439a9e5bc5200c0e3575cec1068f88e3b21645a5cca00f6bd2ea7a50fca57d19", func := "bevy/bevylaw13.CommitRights", spec := "commitRights", inPlace := ["slices.overlaps[int]"], unfollowed := true, recurses := true, plainKeys := false, apart := false, narrowed := true }
def CommitRightsUptoSaid : Prop := commitRightsUptoRow.holds Tryz.pinned (OpenSpec.upto commitRightsSpec)

/-- 'bevylaw13.CommitIds', WHERE WHAT IT READS IS OF BULK AT MOST 1048576: true; the input reads as it did. -/
def commitIdsUptoRow : OpenClaim := { program := "ytgbenhmdamnmcaagreat", sum := "439a9e5bc5200c0e3575cec1068f88e3b21645a5cca00f6bd2ea7a50fca57d19", func := "bevy/bevylaw13.CommitIds", spec := "commitIds", inPlace := ["slices.overlaps[int]"], unfollowed := true, recurses := true, plainKeys := false, apart := false, narrowed := true }
def CommitIdsUptoSaid : Prop := commitIdsUptoRow.holds Tryz.pinned (OpenSpec.upto commitIdsSpec)

/-- 'bevylaw13.CommitForms', WHERE WHAT IT READS IS OF BULK AT MOST 1048576: true; the input reads as it did. -/
def commitFormsUptoRow : OpenClaim := { program := "ytgbenhmdamnmcaagreat", sum := "439a9e5bc5200c0e3575cec1068f88e3b21645a5cca00f6bd2ea7a50fca57d19", func := "bevy/bevylaw13.CommitForms", spec := "commitForms", inPlace := ["slices.overlaps[int]"], unfollowed := true, recurses := true, plainKeys := false, apart := false, narrowed := true }
def CommitFormsUptoSaid : Prop := commitFormsUptoRow.holds Tryz.pinned (OpenSpec.upto commitFormsSpec)

/-- 'bevylaw13.CommitReads', WHERE WHAT IT READS IS OF BULK AT MOST 1048576: true; the input reads as it did. -/
def commitReadsUptoRow : OpenClaim := { program := "ytgbenhmdamnmcaagreat", sum := "439a9e5bc5200c0e3575cec1068f88e3b21645a5cca00f6bd2ea7a50fca57d19", func := "bevy/bevylaw13.CommitReads", spec := "commitReads", inPlace := ["slices.overlaps[int]"], unfollowed := true, recurses := true, plainKeys := false, apart := false, narrowed := true }
def CommitReadsUptoSaid : Prop := commitReadsUptoRow.holds Tryz.pinned (OpenSpec.upto commitReadsSpec)

end Rows
end Go.Proofs.YtgbenhmdamnmcaaGreat
