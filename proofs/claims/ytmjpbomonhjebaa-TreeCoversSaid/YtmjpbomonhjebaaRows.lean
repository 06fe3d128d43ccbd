/-
  No cell of these rows narrows 'for every input' (looked for: loops, veiled, ifaces, maps, wideKeys, modest, calm, conditions, laid).
  DERIVED. THE GIVEN ROWS OF THIS SEAT. 12 by the template 'for every input the law returns true; each argument reads behind the call as it read before'; 0 by the template 'total and deterministic' (their statements: YtmjpbomonhjebaaTotals.lean).
  GIVEN WITH THE SEED: the statements are not yours to turn. If you find one false, say at which input.
  Laid BY PROGRAM, IN A SANDBOX (cutbox-rows.mjs): the forced cells as the released guide's own fill.sh prints them over the translation 2a66faf7087f077e… (all of the seat's roots in one cut). By AI agents, Wed Nov 11 2026. No macro, syntax, notation, axiom, sorry.
-/
import Derived.Test.YtmjpbomonhjebaaChecked
import GoSem.Claim
import GoSem.ClaimJoined
import GoSem.ClaimMapViews
import Derived.JoinedTies
import Derived.KernelRfl
namespace Go.Proofs.Ytmjpbomonhjebaa
/- THE CELL 'sum', in the pinned program and in every row, IS THE sha256 OF THE DUMP (.gsa) THAT YtmjpbomonhjebaaProg.lean LOADS. Nothing in Lean hashes anything: it is a label: what it is worth is what the hold of that sum in a sandbox is worth. -/
noncomputable def Try.pinned : Pinned := { name := "ytmjpbomonhjebaa", sum := "2a66faf7087f077ed751e6678c58198c0a90e3581e9d3abedc148ba515851f0b", checked := Try.checked }
namespace Rows
def none {H : Type} : Left H := { results := [], args := [] }

/-- 'bevylaw10.ChangeOrders': WHATEVER THE INPUT: true; the input reads as it did. -/
def changeOrdersSpec : ChangeSpec := { name := "changeOrders", fn := fun _ => fun
  | [d1, d2, d3] => { results := [.lit (.bool true)], args := [d1, d2, d3] }
  | _ => none }
def changeOrdersRow : OpenClaim := { program := "ytmjpbomonhjebaa", sum := "2a66faf7087f077ed751e6678c58198c0a90e3581e9d3abedc148ba515851f0b", func := "bevy/bevylaw10.ChangeOrders", spec := "changeOrders", apart := false }
def ChangeOrdersSaid : Prop := changeOrdersRow.holds Try.pinned (OpenSpec.ofChange changeOrdersSpec)

/-- ITS FALSE NEIGHBOUR: 'it returns false'. Refute it at one input. -/
def changeOrdersWrong : ChangeSpec := { name := "changeOrders", fn := fun _ => fun
  | [d1, d2, d3] => { results := [.lit (.bool false)], args := [d1, d2, d3] }
  | _ => none }
def ChangeOrdersWrongFalsely : Prop := changeOrdersRow.holds Try.pinned (OpenSpec.ofChange changeOrdersWrong)

/-- 'bevylaw10.ChangeSigns': WHATEVER THE INPUT: true; the input reads as it did. -/
def changeSignsSpec : ChangeSpec := { name := "changeSigns", fn := fun _ => fun
  | [d1, d2, d3] => { results := [.lit (.bool true)], args := [d1, d2, d3] }
  | _ => none }
def changeSignsRow : OpenClaim := { program := "ytmjpbomonhjebaa", sum := "2a66faf7087f077ed751e6678c58198c0a90e3581e9d3abedc148ba515851f0b", func := "bevy/bevylaw10.ChangeSigns", spec := "changeSigns", apart := false }
def ChangeSignsSaid : Prop := changeSignsRow.holds Try.pinned (OpenSpec.ofChange changeSignsSpec)

/-- ITS FALSE NEIGHBOUR: 'it returns false'. Refute it at one input. -/
def changeSignsWrong : ChangeSpec := { name := "changeSigns", fn := fun _ => fun
  | [d1, d2, d3] => { results := [.lit (.bool false)], args := [d1, d2, d3] }
  | _ => none }
def ChangeSignsWrongFalsely : Prop := changeSignsRow.holds Try.pinned (OpenSpec.ofChange changeSignsWrong)

/-- 'bevylaw10.ChangeRights': WHATEVER THE INPUT: true; the input reads as it did. -/
def changeRightsSpec : ChangeSpec := { name := "changeRights", fn := fun _ => fun
  | [d] => { results := [.lit (.bool true)], args := [d] }
  | _ => none }
def changeRightsRow : OpenClaim := { program := "ytmjpbomonhjebaa", sum := "2a66faf7087f077ed751e6678c58198c0a90e3581e9d3abedc148ba515851f0b", func := "bevy/bevylaw10.ChangeRights", spec := "changeRights", apart := false }
def ChangeRightsSaid : Prop := changeRightsRow.holds Try.pinned (OpenSpec.ofChange changeRightsSpec)

/-- ITS FALSE NEIGHBOUR: 'it returns false'. Refute it at one input. -/
def changeRightsWrong : ChangeSpec := { name := "changeRights", fn := fun _ => fun
  | [d] => { results := [.lit (.bool false)], args := [d] }
  | _ => none }
def ChangeRightsWrongFalsely : Prop := changeRightsRow.holds Try.pinned (OpenSpec.ofChange changeRightsWrong)

/-- 'bevylaw10.ChangeReads': WHATEVER THE INPUT: true; the input reads as it did. -/
def changeReadsSpec : ChangeSpec := { name := "changeReads", fn := fun _ => fun
  | [d] => { results := [.lit (.bool true)], args := [d] }
  | _ => none }
def changeReadsRow : OpenClaim := { program := "ytmjpbomonhjebaa", sum := "2a66faf7087f077ed751e6678c58198c0a90e3581e9d3abedc148ba515851f0b", func := "bevy/bevylaw10.ChangeReads", spec := "changeReads", unfollowed := true, recurses := true, apart := false }
def ChangeReadsSaid : Prop := changeReadsRow.holds Try.pinned (OpenSpec.ofChange changeReadsSpec)

/-- ITS FALSE NEIGHBOUR: 'it returns false'. Refute it at one input. -/
def changeReadsWrong : ChangeSpec := { name := "changeReads", fn := fun _ => fun
  | [d] => { results := [.lit (.bool false)], args := [d] }
  | _ => none }
def ChangeReadsWrongFalsely : Prop := changeReadsRow.holds Try.pinned (OpenSpec.ofChange changeReadsWrong)

/-- 'bevylaw10.ChangeOne': WHATEVER THE INPUT: true; the input reads as it did. -/
def changeOneSpec : ChangeSpec := { name := "changeOne", fn := fun _ => fun
  | [d1, d2, d3, d4] => { results := [.lit (.bool true)], args := [d1, d2, d3, d4] }
  | _ => none }
def changeOneRow : OpenClaim := { program := "ytmjpbomonhjebaa", sum := "2a66faf7087f077ed751e6678c58198c0a90e3581e9d3abedc148ba515851f0b", func := "bevy/bevylaw10.ChangeOne", spec := "changeOne", unfollowed := true, recurses := true, apart := false }
def ChangeOneSaid : Prop := changeOneRow.holds Try.pinned (OpenSpec.ofChange changeOneSpec)

/-- ITS FALSE NEIGHBOUR: 'it returns false'. Refute it at one input. -/
def changeOneWrong : ChangeSpec := { name := "changeOne", fn := fun _ => fun
  | [d1, d2, d3, d4] => { results := [.lit (.bool false)], args := [d1, d2, d3, d4] }
  | _ => none }
def ChangeOneWrongFalsely : Prop := changeOneRow.holds Try.pinned (OpenSpec.ofChange changeOneWrong)

/-- 'bevylaw08.TreeRights': WHATEVER THE INPUT: true; the input reads as it did. -/
def treeRightsSpec : ChangeSpec := { name := "treeRights", fn := fun _ => fun
  | [d] => { results := [.lit (.bool true)], args := [d] }
  | _ => none }
def treeRightsRow : OpenClaim := { program := "ytmjpbomonhjebaa", sum := "2a66faf7087f077ed751e6678c58198c0a90e3581e9d3abedc148ba515851f0b", func := "bevy/bevylaw08.TreeRights", spec := "treeRights", inPlace := ["slices.overlaps[int]"], unfollowed := true, recurses := true, apart := false }
def TreeRightsSaid : Prop := treeRightsRow.holds Try.pinned (OpenSpec.ofChange treeRightsSpec)

/-- ITS FALSE NEIGHBOUR: 'it returns false'. Refute it at one input. -/
def treeRightsWrong : ChangeSpec := { name := "treeRights", fn := fun _ => fun
  | [d] => { results := [.lit (.bool false)], args := [d] }
  | _ => none }
def TreeRightsWrongFalsely : Prop := treeRightsRow.holds Try.pinned (OpenSpec.ofChange treeRightsWrong)

/-- 'bevylaw08.TreeAdds': WHATEVER THE INPUT: true; the input reads as it did. -/
def treeAddsSpec : ChangeSpec := { name := "treeAdds", fn := fun _ => fun
  | [d1, d2] => { results := [.lit (.bool true)], args := [d1, d2] }
  | _ => none }
def treeAddsRow : OpenClaim := { program := "ytmjpbomonhjebaa", sum := "2a66faf7087f077ed751e6678c58198c0a90e3581e9d3abedc148ba515851f0b", func := "bevy/bevylaw08.TreeAdds", spec := "treeAdds", inPlace := ["slices.overlaps[int]"], unfollowed := true, recurses := true, apart := false }
def TreeAddsSaid : Prop := treeAddsRow.holds Try.pinned (OpenSpec.ofChange treeAddsSpec)

/-- ITS FALSE NEIGHBOUR: 'it returns false'. Refute it at one input. -/
def treeAddsWrong : ChangeSpec := { name := "treeAdds", fn := fun _ => fun
  | [d1, d2] => { results := [.lit (.bool false)], args := [d1, d2] }
  | _ => none }
def TreeAddsWrongFalsely : Prop := treeAddsRow.holds Try.pinned (OpenSpec.ofChange treeAddsWrong)

/-- 'bevylaw08.TreeRemoves': WHATEVER THE INPUT: true; the input reads as it did. -/
def treeRemovesSpec : ChangeSpec := { name := "treeRemoves", fn := fun _ => fun
  | [d1, d2] => { results := [.lit (.bool true)], args := [d1, d2] }
  | _ => none }
def treeRemovesRow : OpenClaim := { program := "ytmjpbomonhjebaa", sum := "2a66faf7087f077ed751e6678c58198c0a90e3581e9d3abedc148ba515851f0b", func := "bevy/bevylaw08.TreeRemoves", spec := "treeRemoves", inPlace := ["slices.overlaps[int]"], unfollowed := true, recurses := true, apart := false }
def TreeRemovesSaid : Prop := treeRemovesRow.holds Try.pinned (OpenSpec.ofChange treeRemovesSpec)

/-- ITS FALSE NEIGHBOUR: 'it returns false'. Refute it at one input. -/
def treeRemovesWrong : ChangeSpec := { name := "treeRemoves", fn := fun _ => fun
  | [d1, d2] => { results := [.lit (.bool false)], args := [d1, d2] }
  | _ => none }
def TreeRemovesWrongFalsely : Prop := treeRemovesRow.holds Try.pinned (OpenSpec.ofChange treeRemovesWrong)

/-- 'bevylaw08.TreeRenews': WHATEVER THE INPUT: true; the input reads as it did. -/
def treeRenewsSpec : ChangeSpec := { name := "treeRenews", fn := fun _ => fun
  | [d1, d2, d3] => { results := [.lit (.bool true)], args := [d1, d2, d3] }
  | _ => none }
def treeRenewsRow : OpenClaim := { program := "ytmjpbomonhjebaa", sum := "2a66faf7087f077ed751e6678c58198c0a90e3581e9d3abedc148ba515851f0b", func := "bevy/bevylaw08.TreeRenews", spec := "treeRenews", inPlace := ["slices.overlaps[int]"], unfollowed := true, recurses := true, apart := false }
def TreeRenewsSaid : Prop := treeRenewsRow.holds Try.pinned (OpenSpec.ofChange treeRenewsSpec)

/-- ITS FALSE NEIGHBOUR: 'it returns false'. Refute it at one input. -/
def treeRenewsWrong : ChangeSpec := { name := "treeRenews", fn := fun _ => fun
  | [d1, d2, d3] => { results := [.lit (.bool false)], args := [d1, d2, d3] }
  | _ => none }
def TreeRenewsWrongFalsely : Prop := treeRenewsRow.holds Try.pinned (OpenSpec.ofChange treeRenewsWrong)

/-- 'bevylaw08.TreeCovers': WHATEVER THE INPUT: true; the input reads as it did. -/
def treeCoversSpec : ChangeSpec := { name := "treeCovers", fn := fun _ => fun
  | [d] => { results := [.lit (.bool true)], args := [d] }
  | _ => none }
def treeCoversRow : OpenClaim := { program := "ytmjpbomonhjebaa", sum := "2a66faf7087f077ed751e6678c58198c0a90e3581e9d3abedc148ba515851f0b", func := "bevy/bevylaw08.TreeCovers", spec := "treeCovers", inPlace := ["slices.overlaps[int]"], unfollowed := true, recurses := true, apart := false }
def TreeCoversSaid : Prop := treeCoversRow.holds Try.pinned (OpenSpec.ofChange treeCoversSpec)

/-- ITS FALSE NEIGHBOUR: 'it returns false'. Refute it at one input. -/
def treeCoversWrong : ChangeSpec := { name := "treeCovers", fn := fun _ => fun
  | [d] => { results := [.lit (.bool false)], args := [d] }
  | _ => none }
def TreeCoversWrongFalsely : Prop := treeCoversRow.holds Try.pinned (OpenSpec.ofChange treeCoversWrong)

/-- 'bevylaw08.TreeHashes': WHATEVER THE INPUT: true; the input reads as it did. -/
def treeHashesSpec : ChangeSpec := { name := "treeHashes", fn := fun _ => fun
  | [d] => { results := [.lit (.bool true)], args := [d] }
  | _ => none }
def treeHashesRow : OpenClaim := { program := "ytmjpbomonhjebaa", sum := "2a66faf7087f077ed751e6678c58198c0a90e3581e9d3abedc148ba515851f0b", func := "bevy/bevylaw08.TreeHashes", spec := "treeHashes", inPlace := ["slices.overlaps[int]"], unfollowed := true, recurses := true, apart := false }
def TreeHashesSaid : Prop := treeHashesRow.holds Try.pinned (OpenSpec.ofChange treeHashesSpec)

/-- ITS FALSE NEIGHBOUR: 'it returns false'. Refute it at one input. -/
def treeHashesWrong : ChangeSpec := { name := "treeHashes", fn := fun _ => fun
  | [d] => { results := [.lit (.bool false)], args := [d] }
  | _ => none }
def TreeHashesWrongFalsely : Prop := treeHashesRow.holds Try.pinned (OpenSpec.ofChange treeHashesWrong)

/-- 'bevylaw08.TreePaths': WHATEVER THE INPUT: true; the input reads as it did. -/
def treePathsSpec : ChangeSpec := { name := "treePaths", fn := fun _ => fun
  | [d1, d2, d3, d4] => { results := [.lit (.bool true)], args := [d1, d2, d3, d4] }
  | _ => none }
def treePathsRow : OpenClaim := { program := "ytmjpbomonhjebaa", sum := "2a66faf7087f077ed751e6678c58198c0a90e3581e9d3abedc148ba515851f0b", func := "bevy/bevylaw08.TreePaths", spec := "treePaths", inPlace := ["slices.overlaps[int]"], unfollowed := true, recurses := true, apart := false }
def TreePathsSaid : Prop := treePathsRow.holds Try.pinned (OpenSpec.ofChange treePathsSpec)

/-- ITS FALSE NEIGHBOUR: 'it returns false'. Refute it at one input. -/
def treePathsWrong : ChangeSpec := { name := "treePaths", fn := fun _ => fun
  | [d1, d2, d3, d4] => { results := [.lit (.bool false)], args := [d1, d2, d3, d4] }
  | _ => none }
def TreePathsWrongFalsely : Prop := treePathsRow.holds Try.pinned (OpenSpec.ofChange treePathsWrong)

/- THE SECOND FORM. 'bulk': how many values and letters a reading holds, each counted each time it is reached (what is shared counts as often as it is met; a slice's spare places count too). A statement '..UptoSaid' is the law's where the arguments, and the package variables that the reading takes, are together of bulk at most 1048576: NARROWER than '..Said'. Prove '..Said' where nothing that the law and all that it calls make is longer than what came in: it says more and counts as full. Else prove '..UptoSaid'. A law counts once. -/
mutual
def uptoBulk {H : Type} : DataW H → Nat
  | .lit (.string bytes) => bytes.length + 1
  | .lit _ => 1
  | .nil => 1
  | .ptr d => uptoBulk d + 1
  | .slice elems spare => uptoBulkAll elems + uptoBulkAll spare + 1
  | .agg parts => uptoBulkAll parts + 1
  | .iface _ d => uptoBulk d + 1
  | .map entries => uptoBulkEntries entries + 1
  | .held _ => 1
def uptoBulkAll {H : Type} : List (DataW H) → Nat
  | [] => 0
  | d :: r => uptoBulk d + uptoBulkAll r
def uptoBulkEntries {H : Type} : List (Lit × DataW H) → Nat
  | [] => 0
  | x :: r => uptoBulkEntry x + uptoBulkEntries r
def uptoBulkEntry {H : Type} : Lit × DataW H → Nat
  | (.string bytes, d) => bytes.length + uptoBulk d + 1
  | (_, d) => uptoBulk d + 1
 end
def uptoSmall : (H : Type) → List (DataW H) → Bool := fun _ ds => decide (uptoBulkAll ds ≤ 1048576)
def OpenSpec.upto (s : _root_.Go.ChangeSpec) : _root_.Go.OpenSpec := { _root_.Go.OpenSpec.ofChange s with cond := some uptoSmall }

/-- 'bevylaw10.ChangeOrders', WHERE WHAT IT READS IS OF BULK AT MOST 1048576: true; the input reads as it did. -/
def changeOrdersUptoRow : OpenClaim := { program := "ytmjpbomonhjebaa", sum := "2a66faf7087f077ed751e6678c58198c0a90e3581e9d3abedc148ba515851f0b", func := "bevy/bevylaw10.ChangeOrders", spec := "changeOrders", apart := false, narrowed := true }
def ChangeOrdersUptoSaid : Prop := changeOrdersUptoRow.holds Try.pinned (OpenSpec.upto changeOrdersSpec)

/-- 'bevylaw10.ChangeSigns', WHERE WHAT IT READS IS OF BULK AT MOST 1048576: true; the input reads as it did. -/
def changeSignsUptoRow : OpenClaim := { program := "ytmjpbomonhjebaa", sum := "2a66faf7087f077ed751e6678c58198c0a90e3581e9d3abedc148ba515851f0b", func := "bevy/bevylaw10.ChangeSigns", spec := "changeSigns", apart := false, narrowed := true }
def ChangeSignsUptoSaid : Prop := changeSignsUptoRow.holds Try.pinned (OpenSpec.upto changeSignsSpec)

/-- 'bevylaw10.ChangeRights', WHERE WHAT IT READS IS OF BULK AT MOST 1048576: true; the input reads as it did. -/
def changeRightsUptoRow : OpenClaim := { program := "ytmjpbomonhjebaa", sum := "2a66faf7087f077ed751e6678c58198c0a90e3581e9d3abedc148ba515851f0b", func := "bevy/bevylaw10.ChangeRights", spec := "changeRights", apart := false, narrowed := true }
def ChangeRightsUptoSaid : Prop := changeRightsUptoRow.holds Try.pinned (OpenSpec.upto changeRightsSpec)

/-- 'bevylaw10.ChangeReads', WHERE WHAT IT READS IS OF BULK AT MOST 1048576: true; the input reads as it did. -/
def changeReadsUptoRow : OpenClaim := { program := "ytmjpbomonhjebaa", sum := "2a66faf7087f077ed751e6678c58198c0a90e3581e9d3abedc148ba515851f0b", func := "bevy/bevylaw10.ChangeReads", spec := "changeReads", unfollowed := true, recurses := true, apart := false, narrowed := true }
def ChangeReadsUptoSaid : Prop := changeReadsUptoRow.holds Try.pinned (OpenSpec.upto changeReadsSpec)

/-- 'bevylaw10.ChangeOne', WHERE WHAT IT READS IS OF BULK AT MOST 1048576: true; the input reads as it did. -/
def changeOneUptoRow : OpenClaim := { program := "ytmjpbomonhjebaa", sum := "2a66faf7087f077ed751e6678c58198c0a90e3581e9d3abedc148ba515851f0b", func := "bevy/bevylaw10.ChangeOne", spec := "changeOne", unfollowed := true, recurses := true, apart := false, narrowed := true }
def ChangeOneUptoSaid : Prop := changeOneUptoRow.holds Try.pinned (OpenSpec.upto changeOneSpec)

/-- 'bevylaw08.TreeRights', WHERE WHAT IT READS IS OF BULK AT MOST 1048576: true; the input reads as it did. -/
def treeRightsUptoRow : OpenClaim := { program := "ytmjpbomonhjebaa", sum := "2a66faf7087f077ed751e6678c58198c0a90e3581e9d3abedc148ba515851f0b", func := "bevy/bevylaw08.TreeRights", spec := "treeRights", inPlace := ["slices.overlaps[int]"], unfollowed := true, recurses := true, apart := false, narrowed := true }
def TreeRightsUptoSaid : Prop := treeRightsUptoRow.holds Try.pinned (OpenSpec.upto treeRightsSpec)

/-- 'bevylaw08.TreeAdds', WHERE WHAT IT READS IS OF BULK AT MOST 1048576: true; the input reads as it did. -/
def treeAddsUptoRow : OpenClaim := { program := "ytmjpbomonhjebaa", sum := "2a66faf7087f077ed751e6678c58198c0a90e3581e9d3abedc148ba515851f0b", func := "bevy/bevylaw08.TreeAdds", spec := "treeAdds", inPlace := ["slices.overlaps[int]"], unfollowed := true, recurses := true, apart := false, narrowed := true }
def TreeAddsUptoSaid : Prop := treeAddsUptoRow.holds Try.pinned (OpenSpec.upto treeAddsSpec)

/-- 'bevylaw08.TreeRemoves', WHERE WHAT IT READS IS OF BULK AT MOST 1048576: true; the input reads as it did. -/
def treeRemovesUptoRow : OpenClaim := { program := "ytmjpbomonhjebaa", sum := "2a66faf7087f077ed751e6678c58198c0a90e3581e9d3abedc148ba515851f0b", func := "bevy/bevylaw08.TreeRemoves", spec := "treeRemoves", inPlace := ["slices.overlaps[int]"], unfollowed := true, recurses := true, apart := false, narrowed := true }
def TreeRemovesUptoSaid : Prop := treeRemovesUptoRow.holds Try.pinned (OpenSpec.upto treeRemovesSpec)

/-- 'bevylaw08.TreeRenews', WHERE WHAT IT READS IS OF BULK AT MOST 1048576: true; the input reads as it did. -/
def treeRenewsUptoRow : OpenClaim := { program := "ytmjpbomonhjebaa", sum := "2a66faf7087f077ed751e6678c58198c0a90e3581e9d3abedc148ba515851f0b", func := "bevy/bevylaw08.TreeRenews", spec := "treeRenews", inPlace := ["slices.overlaps[int]"], unfollowed := true, recurses := true, apart := false, narrowed := true }
def TreeRenewsUptoSaid : Prop := treeRenewsUptoRow.holds Try.pinned (OpenSpec.upto treeRenewsSpec)

/-- 'bevylaw08.TreeCovers', WHERE WHAT IT READS IS OF BULK AT MOST 1048576: true; the input reads as it did. -/
def treeCoversUptoRow : OpenClaim := { program := "ytmjpbomonhjebaa", sum := "2a66faf7087f077ed751e6678c58198c0a90e3581e9d3abedc148ba515851f0b", func := "bevy/bevylaw08.TreeCovers", spec := "treeCovers", inPlace := ["slices.overlaps[int]"], unfollowed := true, recurses := true, apart := false, narrowed := true }
def TreeCoversUptoSaid : Prop := treeCoversUptoRow.holds Try.pinned (OpenSpec.upto treeCoversSpec)

/-- 'bevylaw08.TreeHashes', WHERE WHAT IT READS IS OF BULK AT MOST 1048576: true; the input reads as it did. -/
def treeHashesUptoRow : OpenClaim := { program := "ytmjpbomonhjebaa", sum := "2a66faf7087f077ed751e6678c58198c0a90e3581e9d3abedc148ba515851f0b", func := "bevy/bevylaw08.TreeHashes", spec := "treeHashes", inPlace := ["slices.overlaps[int]"], unfollowed := true, recurses := true, apart := false, narrowed := true }
def TreeHashesUptoSaid : Prop := treeHashesUptoRow.holds Try.pinned (OpenSpec.upto treeHashesSpec)

/-- 'bevylaw08.TreePaths', WHERE WHAT IT READS IS OF BULK AT MOST 1048576: true; the input reads as it did. -/
def treePathsUptoRow : OpenClaim := { program := "ytmjpbomonhjebaa", sum := "2a66faf7087f077ed751e6678c58198c0a90e3581e9d3abedc148ba515851f0b", func := "bevy/bevylaw08.TreePaths", spec := "treePaths", inPlace := ["slices.overlaps[int]"], unfollowed := true, recurses := true, apart := false, narrowed := true }
def TreePathsUptoSaid : Prop := treePathsUptoRow.holds Try.pinned (OpenSpec.upto treePathsSpec)

end Rows
end Go.Proofs.Ytmjpbomonhjebaa
