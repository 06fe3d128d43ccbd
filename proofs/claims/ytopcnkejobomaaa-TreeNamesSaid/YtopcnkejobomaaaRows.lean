/-
  No cell of these rows narrows 'for every input' (looked for: loops, veiled, ifaces, maps, wideKeys, modest, calm, conditions, laid).
  DERIVED. THE GIVEN ROWS OF THIS SEAT. 10 by the template 'for every input the law returns true; each argument reads behind the call as it read before'; 0 by the template 'total and deterministic' (their statements: YtopcnkejobomaaaTotals.lean).
  GIVEN WITH THE SEED: the statements are not yours to turn. If you find one false, say at which input.
  Laid BY PROGRAM, IN A SANDBOX (cutbox-rows.mjs): the forced cells as the released guide's own fill.sh prints them over the translation 152e6fe16e20ddf8… (all of the seat's roots in one cut). By AI agents, Wed Nov 11 2026. No macro, syntax, notation, axiom, sorry.
-/
import Derived.Test.YtopcnkejobomaaaChecked
import GoSem.Claim
import GoSem.ClaimJoined
import GoSem.ClaimMapViews
import Derived.JoinedTies
import Derived.KernelRfl
namespace Go.Proofs.Ytopcnkejobomaaa
/- THE CELL 'sum', in the pinned program and in every row, IS THE sha256 OF THE DUMP (.gsa) THAT YtopcnkejobomaaaProg.lean LOADS. Nothing in Lean hashes anything: it is a label: what it is worth is what the hold of that sum in a sandbox is worth. -/
noncomputable def Try.pinned : Pinned := { name := "ytopcnkejobomaaa", sum := "152e6fe16e20ddf8defa1f44cfde91fdc7fb907822ca2612e6dd056901bd04ff", checked := Try.checked }
namespace Rows
def none {H : Type} : Left H := { results := [], args := [] }

/-- 'bevylaw08.TreeCovers': WHATEVER THE INPUT: true; the input reads as it did. -/
def treeCoversSpec : ChangeSpec := { name := "treeCovers", fn := fun _ => fun
  | [d] => { results := [.lit (.bool true)], args := [d] }
  | _ => none }
def treeCoversRow : OpenClaim := { program := "ytopcnkejobomaaa", sum := "152e6fe16e20ddf8defa1f44cfde91fdc7fb907822ca2612e6dd056901bd04ff", func := "bevy/bevylaw08.TreeCovers", spec := "treeCovers", inPlace := ["slices.overlaps[int]"], unfollowed := true, recurses := true, apart := false }
def TreeCoversSaid : Prop := treeCoversRow.holds Try.pinned (OpenSpec.ofChange treeCoversSpec)

/-- ITS FALSE NEIGHBOUR: 'it returns false'. Refute it at one input. -/
def treeCoversWrong : ChangeSpec := { name := "treeCovers", fn := fun _ => fun
  | [d] => { results := [.lit (.bool false)], args := [d] }
  | _ => none }
def TreeCoversWrongFalsely : Prop := treeCoversRow.holds Try.pinned (OpenSpec.ofChange treeCoversWrong)

/-- 'bevylaw08.TreeHashes': WHATEVER THE INPUT: true; the input reads as it did. -/
def treeHashesSpec : ChangeSpec := { name := "treeHashes", fn := fun _ => fun
  | [d] => { results := [.lit (.bool true)], args := [d] }
  | _ => none }
def treeHashesRow : OpenClaim := { program := "ytopcnkejobomaaa", sum := "152e6fe16e20ddf8defa1f44cfde91fdc7fb907822ca2612e6dd056901bd04ff", func := "bevy/bevylaw08.TreeHashes", spec := "treeHashes", inPlace := ["slices.overlaps[int]"], unfollowed := true, recurses := true, apart := false }
def TreeHashesSaid : Prop := treeHashesRow.holds Try.pinned (OpenSpec.ofChange treeHashesSpec)

/-- ITS FALSE NEIGHBOUR: 'it returns false'. Refute it at one input. -/
def treeHashesWrong : ChangeSpec := { name := "treeHashes", fn := fun _ => fun
  | [d] => { results := [.lit (.bool false)], args := [d] }
  | _ => none }
def TreeHashesWrongFalsely : Prop := treeHashesRow.holds Try.pinned (OpenSpec.ofChange treeHashesWrong)

/-- 'bevylaw08.TreePaths': WHATEVER THE INPUT: true; the input reads as it did. -/
def treePathsSpec : ChangeSpec := { name := "treePaths", fn := fun _ => fun
  | [d1, d2, d3, d4] => { results := [.lit (.bool true)], args := [d1, d2, d3, d4] }
  | _ => none }
def treePathsRow : OpenClaim := { program := "ytopcnkejobomaaa", sum := "152e6fe16e20ddf8defa1f44cfde91fdc7fb907822ca2612e6dd056901bd04ff", func := "bevy/bevylaw08.TreePaths", spec := "treePaths", inPlace := ["slices.overlaps[int]"], unfollowed := true, recurses := true, apart := false }
def TreePathsSaid : Prop := treePathsRow.holds Try.pinned (OpenSpec.ofChange treePathsSpec)

/-- ITS FALSE NEIGHBOUR: 'it returns false'. Refute it at one input. -/
def treePathsWrong : ChangeSpec := { name := "treePaths", fn := fun _ => fun
  | [d1, d2, d3, d4] => { results := [.lit (.bool false)], args := [d1, d2, d3, d4] }
  | _ => none }
def TreePathsWrongFalsely : Prop := treePathsRow.holds Try.pinned (OpenSpec.ofChange treePathsWrong)

/-- 'bevylaw08.TreePlays': WHATEVER THE INPUT: true; the input reads as it did. -/
def treePlaysSpec : ChangeSpec := { name := "treePlays", fn := fun _ => fun
  | [d] => { results := [.lit (.bool true)], args := [d] }
  | _ => none }
def treePlaysRow : OpenClaim := { program := "ytopcnkejobomaaa", sum := "152e6fe16e20ddf8defa1f44cfde91fdc7fb907822ca2612e6dd056901bd04ff", func := "bevy/bevylaw08.TreePlays", spec := "treePlays", inPlace := ["slices.overlaps[int]"], unfollowed := true, recurses := true, apart := false }
def TreePlaysSaid : Prop := treePlaysRow.holds Try.pinned (OpenSpec.ofChange treePlaysSpec)

/-- ITS FALSE NEIGHBOUR: 'it returns false'. Refute it at one input. -/
def treePlaysWrong : ChangeSpec := { name := "treePlays", fn := fun _ => fun
  | [d] => { results := [.lit (.bool false)], args := [d] }
  | _ => none }
def TreePlaysWrongFalsely : Prop := treePlaysRow.holds Try.pinned (OpenSpec.ofChange treePlaysWrong)

/-- 'bevylaw08.TreeRefuses': WHATEVER THE INPUT: true; the input reads as it did. -/
def treeRefusesSpec : ChangeSpec := { name := "treeRefuses", fn := fun _ => fun
  | [d1, d2, d3, d4] => { results := [.lit (.bool true)], args := [d1, d2, d3, d4] }
  | _ => none }
def treeRefusesRow : OpenClaim := { program := "ytopcnkejobomaaa", sum := "152e6fe16e20ddf8defa1f44cfde91fdc7fb907822ca2612e6dd056901bd04ff", func := "bevy/bevylaw08.TreeRefuses", spec := "treeRefuses", inPlace := ["slices.overlaps[int]"], unfollowed := true, recurses := true, apart := false }
def TreeRefusesSaid : Prop := treeRefusesRow.holds Try.pinned (OpenSpec.ofChange treeRefusesSpec)

/-- ITS FALSE NEIGHBOUR: 'it returns false'. Refute it at one input. -/
def treeRefusesWrong : ChangeSpec := { name := "treeRefuses", fn := fun _ => fun
  | [d1, d2, d3, d4] => { results := [.lit (.bool false)], args := [d1, d2, d3, d4] }
  | _ => none }
def TreeRefusesWrongFalsely : Prop := treeRefusesRow.holds Try.pinned (OpenSpec.ofChange treeRefusesWrong)

/-- 'bevylaw08.TreePlaces': WHATEVER THE INPUT: true; the input reads as it did. -/
def treePlacesSpec : ChangeSpec := { name := "treePlaces", fn := fun _ => fun
  | [d1, d2] => { results := [.lit (.bool true)], args := [d1, d2] }
  | _ => none }
def treePlacesRow : OpenClaim := { program := "ytopcnkejobomaaa", sum := "152e6fe16e20ddf8defa1f44cfde91fdc7fb907822ca2612e6dd056901bd04ff", func := "bevy/bevylaw08.TreePlaces", spec := "treePlaces", inPlace := ["slices.overlaps[int]"], unfollowed := true, recurses := true, apart := false }
def TreePlacesSaid : Prop := treePlacesRow.holds Try.pinned (OpenSpec.ofChange treePlacesSpec)

/-- ITS FALSE NEIGHBOUR: 'it returns false'. Refute it at one input. -/
def treePlacesWrong : ChangeSpec := { name := "treePlaces", fn := fun _ => fun
  | [d1, d2] => { results := [.lit (.bool false)], args := [d1, d2] }
  | _ => none }
def TreePlacesWrongFalsely : Prop := treePlacesRow.holds Try.pinned (OpenSpec.ofChange treePlacesWrong)

/-- 'bevylaw08.TreeNames': WHATEVER THE INPUT: true; the input reads as it did. -/
def treeNamesSpec : ChangeSpec := { name := "treeNames", fn := fun _ => fun
  | [d] => { results := [.lit (.bool true)], args := [d] }
  | _ => none }
def treeNamesRow : OpenClaim := { program := "ytopcnkejobomaaa", sum := "152e6fe16e20ddf8defa1f44cfde91fdc7fb907822ca2612e6dd056901bd04ff", func := "bevy/bevylaw08.TreeNames", spec := "treeNames", inPlace := ["slices.overlaps[int]"], unfollowed := true, recurses := true, apart := false }
def TreeNamesSaid : Prop := treeNamesRow.holds Try.pinned (OpenSpec.ofChange treeNamesSpec)

/-- ITS FALSE NEIGHBOUR: 'it returns false'. Refute it at one input. -/
def treeNamesWrong : ChangeSpec := { name := "treeNames", fn := fun _ => fun
  | [d] => { results := [.lit (.bool false)], args := [d] }
  | _ => none }
def TreeNamesWrongFalsely : Prop := treeNamesRow.holds Try.pinned (OpenSpec.ofChange treeNamesWrong)

/-- 'bevylaw10.ChangeApplies': WHATEVER THE INPUT: true; the input reads as it did. -/
def changeAppliesSpec : ChangeSpec := { name := "changeApplies", fn := fun _ => fun
  | [d1, d2] => { results := [.lit (.bool true)], args := [d1, d2] }
  | _ => none }
def changeAppliesRow : OpenClaim := { program := "ytopcnkejobomaaa", sum := "152e6fe16e20ddf8defa1f44cfde91fdc7fb907822ca2612e6dd056901bd04ff", func := "bevy/bevylaw10.ChangeApplies", spec := "changeApplies", inPlace := ["slices.overlaps[int]"], unfollowed := true, recurses := true, apart := false }
def ChangeAppliesSaid : Prop := changeAppliesRow.holds Try.pinned (OpenSpec.ofChange changeAppliesSpec)

/-- ITS FALSE NEIGHBOUR: 'it returns false'. Refute it at one input. -/
def changeAppliesWrong : ChangeSpec := { name := "changeApplies", fn := fun _ => fun
  | [d1, d2] => { results := [.lit (.bool false)], args := [d1, d2] }
  | _ => none }
def ChangeAppliesWrongFalsely : Prop := changeAppliesRow.holds Try.pinned (OpenSpec.ofChange changeAppliesWrong)

/-- 'bevylaw10.ChangeNames': WHATEVER THE INPUT: true; the input reads as it did. -/
def changeNamesSpec : ChangeSpec := { name := "changeNames", fn := fun _ => fun
  | [d1, d2] => { results := [.lit (.bool true)], args := [d1, d2] }
  | _ => none }
def changeNamesRow : OpenClaim := { program := "ytopcnkejobomaaa", sum := "152e6fe16e20ddf8defa1f44cfde91fdc7fb907822ca2612e6dd056901bd04ff", func := "bevy/bevylaw10.ChangeNames", spec := "changeNames", inPlace := ["slices.overlaps[int]"], unfollowed := true, recurses := true, apart := false }
def ChangeNamesSaid : Prop := changeNamesRow.holds Try.pinned (OpenSpec.ofChange changeNamesSpec)

/-- ITS FALSE NEIGHBOUR: 'it returns false'. Refute it at one input. -/
def changeNamesWrong : ChangeSpec := { name := "changeNames", fn := fun _ => fun
  | [d1, d2] => { results := [.lit (.bool false)], args := [d1, d2] }
  | _ => none }
def ChangeNamesWrongFalsely : Prop := changeNamesRow.holds Try.pinned (OpenSpec.ofChange changeNamesWrong)

/-- 'bevylaw10.ChangeFits': WHATEVER THE INPUT: true; the input reads as it did. -/
def changeFitsSpec : ChangeSpec := { name := "changeFits", fn := fun _ => fun
  | [d1, d2] => { results := [.lit (.bool true)], args := [d1, d2] }
  | _ => none }
def changeFitsRow : OpenClaim := { program := "ytopcnkejobomaaa", sum := "152e6fe16e20ddf8defa1f44cfde91fdc7fb907822ca2612e6dd056901bd04ff", func := "bevy/bevylaw10.ChangeFits", spec := "changeFits", inPlace := ["slices.overlaps[int]"], unfollowed := true, recurses := true, apart := false }
def ChangeFitsSaid : Prop := changeFitsRow.holds Try.pinned (OpenSpec.ofChange changeFitsSpec)

/-- ITS FALSE NEIGHBOUR: 'it returns false'. Refute it at one input. -/
def changeFitsWrong : ChangeSpec := { name := "changeFits", fn := fun _ => fun
  | [d1, d2] => { results := [.lit (.bool false)], args := [d1, d2] }
  | _ => none }
def ChangeFitsWrongFalsely : Prop := changeFitsRow.holds Try.pinned (OpenSpec.ofChange changeFitsWrong)

/- THE SECOND FORM. 'bulk': how many values and letters a reading holds, each counted each time it is reached (what is shared counts as often as it is met; a slice's spare places count too). A statement '..UptoSaid' is the law's where the arguments, and the package variables that the reading takes, are together of bulk at most 1048576: NARROWER than '..Said'. Prove '..Said' where nothing that the law and all that it calls make is longer than what came in: it says more and counts as full. Else prove '..UptoSaid'. A law counts once. -/
mutual
def uptoBulk {H : Type} : DataW H → Nat
  | .lit (.string bytes) => bytes.length + 1
  | .lit _ => 1
  | .nil => 1
  | .ptr d => uptoBulk d + 1
  | .slice elems spare => uptoBulkAll elems + uptoBulkAll spare + 1
  | .agg parts => uptoBulkAll parts + 1
  | .iface _ d => uptoBulk d + 1
  | .map entries => uptoBulkEntries entries + 1
  | .held _ => 1
def uptoBulkAll {H : Type} : List (DataW H) → Nat
  | [] => 0
  | d :: r => uptoBulk d + uptoBulkAll r
def uptoBulkEntries {H : Type} : List (Lit × DataW H) → Nat
  | [] => 0
  | x :: r => uptoBulkEntry x + uptoBulkEntries r
def uptoBulkEntry {H : Type} : Lit × DataW H → Nat
  | (.string bytes, d) => bytes.length + uptoBulk d + 1
  | (_, d) => uptoBulk d + 1
 end
def uptoSmall : (H : Type) → List (DataW H) → Bool := fun _ ds => decide (uptoBulkAll ds ≤ 1048576)
def OpenSpec.upto (s : _root_.Go.ChangeSpec) : _root_.Go.OpenSpec := { _root_.Go.OpenSpec.ofChange s with cond := some uptoSmall }

/-- 'bevylaw08.TreeCovers', WHERE WHAT IT READS IS OF BULK AT MOST 1048576: true; the input reads as it did. -/
def treeCoversUptoRow : OpenClaim := { program := "ytopcnkejobomaaa", sum := "152e6fe16e20ddf8defa1f44cfde91fdc7fb907822ca2612e6dd056901bd04ff", func := "bevy/bevylaw08.TreeCovers", spec := "treeCovers", inPlace := ["slices.overlaps[int]"], unfollowed := true, recurses := true, apart := false, narrowed := true }
def TreeCoversUptoSaid : Prop := treeCoversUptoRow.holds Try.pinned (OpenSpec.upto treeCoversSpec)

/-- 'bevylaw08.TreeHashes', WHERE WHAT IT READS IS OF BULK AT MOST 1048576: true; the input reads as it did. -/
def treeHashesUptoRow : OpenClaim := { program := "ytopcnkejobomaaa", sum := "152e6fe16e20ddf8defa1f44cfde91fdc7fb907822ca2612e6dd056901bd04ff", func := "bevy/bevylaw08.TreeHashes", spec := "treeHashes", inPlace := ["slices.overlaps[int]"], unfollowed := true, recurses := true, apart := false, narrowed := true }
def TreeHashesUptoSaid : Prop := treeHashesUptoRow.holds Try.pinned (OpenSpec.upto treeHashesSpec)

/-- 'bevylaw08.TreePaths', WHERE WHAT IT READS IS OF BULK AT MOST 1048576: true; the input reads as it did. -/
def treePathsUptoRow : OpenClaim := { program := "ytopcnkejobomaaa", sum := "152e6fe16e20ddf8defa1f44cfde91fdc7fb907822ca2612e6dd056901bd04ff", func := "bevy/bevylaw08.TreePaths", spec := "treePaths", inPlace := ["slices.overlaps[int]"], unfollowed := true, recurses := true, apart := false, narrowed := true }
def TreePathsUptoSaid : Prop := treePathsUptoRow.holds Try.pinned (OpenSpec.upto treePathsSpec)

/-- 'bevylaw08.TreePlays', WHERE WHAT IT READS IS OF BULK AT MOST 1048576: true; the input reads as it did. -/
def treePlaysUptoRow : OpenClaim := { program := "ytopcnkejobomaaa", sum := "152e6fe16e20ddf8defa1f44cfde91fdc7fb907822ca2612e6dd056901bd04ff", func := "bevy/bevylaw08.TreePlays", spec := "treePlays", inPlace := ["slices.overlaps[int]"], unfollowed := true, recurses := true, apart := false, narrowed := true }
def TreePlaysUptoSaid : Prop := treePlaysUptoRow.holds Try.pinned (OpenSpec.upto treePlaysSpec)

/-- 'bevylaw08.TreeRefuses', WHERE WHAT IT READS IS OF BULK AT MOST 1048576: true; the input reads as it did. -/
def treeRefusesUptoRow : OpenClaim := { program := "ytopcnkejobomaaa", sum := "152e6fe16e20ddf8defa1f44cfde91fdc7fb907822ca2612e6dd056901bd04ff", func := "bevy/bevylaw08.TreeRefuses", spec := "treeRefuses", inPlace := ["slices.overlaps[int]"], unfollowed := true, recurses := true, apart := false, narrowed := true }
def TreeRefusesUptoSaid : Prop := treeRefusesUptoRow.holds Try.pinned (OpenSpec.upto treeRefusesSpec)

/-- 'bevylaw08.TreePlaces', WHERE WHAT IT READS IS OF BULK AT MOST 1048576: true; the input reads as it did. -/
def treePlacesUptoRow : OpenClaim := { program := "ytopcnkejobomaaa", sum := "152e6fe16e20ddf8defa1f44cfde91fdc7fb907822ca2612e6dd056901bd04ff", func := "bevy/bevylaw08.TreePlaces", spec := "treePlaces", inPlace := ["slices.overlaps[int]"], unfollowed := true, recurses := true, apart := false, narrowed := true }
def TreePlacesUptoSaid : Prop := treePlacesUptoRow.holds Try.pinned (OpenSpec.upto treePlacesSpec)

/-- 'bevylaw08.TreeNames', WHERE WHAT IT READS IS OF BULK AT MOST 1048576: true; the input reads as it did. -/
def treeNamesUptoRow : OpenClaim := { program := "ytopcnkejobomaaa", sum := "152e6fe16e20ddf8defa1f44cfde91fdc7fb907822ca2612e6dd056901bd04ff", func := "bevy/bevylaw08.TreeNames", spec := "treeNames", inPlace := ["slices.overlaps[int]"], unfollowed := true, recurses := true, apart := false, narrowed := true }
def TreeNamesUptoSaid : Prop := treeNamesUptoRow.holds Try.pinned (OpenSpec.upto treeNamesSpec)

/-- 'bevylaw10.ChangeApplies', WHERE WHAT IT READS IS OF BULK AT MOST 1048576: true; the input reads as it did. -/
def changeAppliesUptoRow : OpenClaim := { program := "ytopcnkejobomaaa", sum := "152e6fe16e20ddf8defa1f44cfde91fdc7fb907822ca2612e6dd056901bd04ff", func := "bevy/bevylaw10.ChangeApplies", spec := "changeApplies", inPlace := ["slices.overlaps[int]"], unfollowed := true, recurses := true, apart := false, narrowed := true }
def ChangeAppliesUptoSaid : Prop := changeAppliesUptoRow.holds Try.pinned (OpenSpec.upto changeAppliesSpec)

/-- 'bevylaw10.ChangeNames', WHERE WHAT IT READS IS OF BULK AT MOST 1048576: true; the input reads as it did. -/
def changeNamesUptoRow : OpenClaim := { program := "ytopcnkejobomaaa", sum := "152e6fe16e20ddf8defa1f44cfde91fdc7fb907822ca2612e6dd056901bd04ff", func := "bevy/bevylaw10.ChangeNames", spec := "changeNames", inPlace := ["slices.overlaps[int]"], unfollowed := true, recurses := true, apart := false, narrowed := true }
def ChangeNamesUptoSaid : Prop := changeNamesUptoRow.holds Try.pinned (OpenSpec.upto changeNamesSpec)

/-- 'bevylaw10.ChangeFits', WHERE WHAT IT READS IS OF BULK AT MOST 1048576: true; the input reads as it did. -/
def changeFitsUptoRow : OpenClaim := { program := "ytopcnkejobomaaa", sum := "152e6fe16e20ddf8defa1f44cfde91fdc7fb907822ca2612e6dd056901bd04ff", func := "bevy/bevylaw10.ChangeFits", spec := "changeFits", inPlace := ["slices.overlaps[int]"], unfollowed := true, recurses := true, apart := false, narrowed := true }
def ChangeFitsUptoSaid : Prop := changeFitsUptoRow.holds Try.pinned (OpenSpec.upto changeFitsSpec)

end Rows
end Go.Proofs.Ytopcnkejobomaaa
