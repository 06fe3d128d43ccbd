/-
  No cell of these rows narrows 'for every input' (looked for: loops, veiled, ifaces, maps, wideKeys, modest, calm, conditions, laid).
  DERIVED. THE GIVEN ROWS OF THIS SEAT. 11 by the template 'for every input the law returns true; each argument reads behind the call as it read before'; 0 by the template 'total and deterministic' (their statements: YtdefecbaineneaaTotals.lean).
  GIVEN WITH THE SEED: the statements are not yours to turn. If you find one false, say at which input.
  Laid BY PROGRAM, IN A SANDBOX (cutbox-rows.mjs): the forced cells as the released guide's own fill.sh prints them over the translation 1ddf15e45ad44f10… (all of the seat's roots in one cut). By AI agents, Wed Nov 11 2026. No macro, syntax, notation, axiom, sorry.
-/
import Derived.Test.YtdefecbaineneaaChecked
import GoSem.Claim
import GoSem.ClaimJoined
import GoSem.ClaimMapViews
import Derived.JoinedTies
import Derived.KernelRfl
namespace Go.Proofs.Ytdefecbaineneaa
/- THE CELL 'sum', in the pinned program and in every row, IS THE sha256 OF THE DUMP (.gsa) THAT YtdefecbaineneaaProg.lean LOADS. Nothing in Lean hashes anything: it is a label: what it is worth is what the hold of that sum in a sandbox is worth. -/
noncomputable def Try.pinned : Pinned := { name := "ytdefecbaineneaa", sum := "1ddf15e45ad44f10e98344f0ffcc65aa0c8bc3f131ad984fa173eb249bcaf694", checked := Try.checked }
namespace Rows
def none {H : Type} : Left H := { results := [], args := [] }

/-- 'bevylaw02.ShaOne': WHATEVER THE INPUT: true; the input reads as it did. -/
def shaOneSpec : ChangeSpec := { name := "shaOne", fn := fun _ => fun
  | [d] => { results := [.lit (.bool true)], args := [d] }
  | _ => none }
def shaOneRow : OpenClaim := { program := "ytdefecbaineneaa", sum := "1ddf15e45ad44f10e98344f0ffcc65aa0c8bc3f131ad984fa173eb249bcaf694", func := "bevy/bevylaw02.ShaOne", spec := "shaOne", apart := false }
def ShaOneSaid : Prop := shaOneRow.holds Try.pinned (OpenSpec.ofChange shaOneSpec)

/-- ITS FALSE NEIGHBOUR: 'it returns false'. Refute it at one input. -/
def shaOneWrong : ChangeSpec := { name := "shaOne", fn := fun _ => fun
  | [d] => { results := [.lit (.bool false)], args := [d] }
  | _ => none }
def ShaOneWrongFalsely : Prop := shaOneRow.holds Try.pinned (OpenSpec.ofChange shaOneWrong)

/-- 'bevylaw02.ShaSums': WHATEVER THE INPUT: true; the input reads as it did. -/
def shaSumsSpec : ChangeSpec := { name := "shaSums", fn := fun _ => fun
  | [d] => { results := [.lit (.bool true)], args := [d] }
  | _ => none }
def shaSumsRow : OpenClaim := { program := "ytdefecbaineneaa", sum := "1ddf15e45ad44f10e98344f0ffcc65aa0c8bc3f131ad984fa173eb249bcaf694", func := "bevy/bevylaw02.ShaSums", spec := "shaSums", apart := false }
def ShaSumsSaid : Prop := shaSumsRow.holds Try.pinned (OpenSpec.ofChange shaSumsSpec)

/-- ITS FALSE NEIGHBOUR: 'it returns false'. Refute it at one input. -/
def shaSumsWrong : ChangeSpec := { name := "shaSums", fn := fun _ => fun
  | [d] => { results := [.lit (.bool false)], args := [d] }
  | _ => none }
def ShaSumsWrongFalsely : Prop := shaSumsRow.holds Try.pinned (OpenSpec.ofChange shaSumsWrong)

/-- 'bevylaw02.ShaHex': WHATEVER THE INPUT: true; the input reads as it did. -/
def shaHexSpec : ChangeSpec := { name := "shaHex", fn := fun _ => fun
  | [d] => { results := [.lit (.bool true)], args := [d] }
  | _ => none }
def shaHexRow : OpenClaim := { program := "ytdefecbaineneaa", sum := "1ddf15e45ad44f10e98344f0ffcc65aa0c8bc3f131ad984fa173eb249bcaf694", func := "bevy/bevylaw02.ShaHex", spec := "shaHex", apart := false }
def ShaHexSaid : Prop := shaHexRow.holds Try.pinned (OpenSpec.ofChange shaHexSpec)

/-- ITS FALSE NEIGHBOUR: 'it returns false'. Refute it at one input. -/
def shaHexWrong : ChangeSpec := { name := "shaHex", fn := fun _ => fun
  | [d] => { results := [.lit (.bool false)], args := [d] }
  | _ => none }
def ShaHexWrongFalsely : Prop := shaHexRow.holds Try.pinned (OpenSpec.ofChange shaHexWrong)

/-- 'bevylaw02.ShaOrders': WHATEVER THE INPUT: true; the input reads as it did. -/
def shaOrdersSpec : ChangeSpec := { name := "shaOrders", fn := fun _ => fun
  | [d1, d2, d3] => { results := [.lit (.bool true)], args := [d1, d2, d3] }
  | _ => none }
def shaOrdersRow : OpenClaim := { program := "ytdefecbaineneaa", sum := "1ddf15e45ad44f10e98344f0ffcc65aa0c8bc3f131ad984fa173eb249bcaf694", func := "bevy/bevylaw02.ShaOrders", spec := "shaOrders", apart := false }
def ShaOrdersSaid : Prop := shaOrdersRow.holds Try.pinned (OpenSpec.ofChange shaOrdersSpec)

/-- ITS FALSE NEIGHBOUR: 'it returns false'. Refute it at one input. -/
def shaOrdersWrong : ChangeSpec := { name := "shaOrders", fn := fun _ => fun
  | [d1, d2, d3] => { results := [.lit (.bool false)], args := [d1, d2, d3] }
  | _ => none }
def ShaOrdersWrongFalsely : Prop := shaOrdersRow.holds Try.pinned (OpenSpec.ofChange shaOrdersWrong)

/-- 'bevylaw03.MacCodes': WHATEVER THE INPUT: true; the input reads as it did. -/
def macCodesSpec : ChangeSpec := { name := "macCodes", fn := fun _ => fun
  | [d1, d2] => { results := [.lit (.bool true)], args := [d1, d2] }
  | _ => none }
def macCodesRow : OpenClaim := { program := "ytdefecbaineneaa", sum := "1ddf15e45ad44f10e98344f0ffcc65aa0c8bc3f131ad984fa173eb249bcaf694", func := "bevy/bevylaw03.MacCodes", spec := "macCodes", apart := false }
def MacCodesSaid : Prop := macCodesRow.holds Try.pinned (OpenSpec.ofChange macCodesSpec)

/-- ITS FALSE NEIGHBOUR: 'it returns false'. Refute it at one input. -/
def macCodesWrong : ChangeSpec := { name := "macCodes", fn := fun _ => fun
  | [d1, d2] => { results := [.lit (.bool false)], args := [d1, d2] }
  | _ => none }
def MacCodesWrongFalsely : Prop := macCodesRow.holds Try.pinned (OpenSpec.ofChange macCodesWrong)

/-- 'bevylaw03.MacMixes': WHATEVER THE INPUT: true; the input reads as it did. -/
def macMixesSpec : ChangeSpec := { name := "macMixes", fn := fun _ => fun
  | [d1, d2] => { results := [.lit (.bool true)], args := [d1, d2] }
  | _ => none }
def macMixesRow : OpenClaim := { program := "ytdefecbaineneaa", sum := "1ddf15e45ad44f10e98344f0ffcc65aa0c8bc3f131ad984fa173eb249bcaf694", func := "bevy/bevylaw03.MacMixes", spec := "macMixes", apart := false }
def MacMixesSaid : Prop := macMixesRow.holds Try.pinned (OpenSpec.ofChange macMixesSpec)

/-- ITS FALSE NEIGHBOUR: 'it returns false'. Refute it at one input. -/
def macMixesWrong : ChangeSpec := { name := "macMixes", fn := fun _ => fun
  | [d1, d2] => { results := [.lit (.bool false)], args := [d1, d2] }
  | _ => none }
def MacMixesWrongFalsely : Prop := macMixesRow.holds Try.pinned (OpenSpec.ofChange macMixesWrong)

/-- 'bevylaw02.ShaDigits': WHATEVER THE INPUT: true; the input reads as it did. -/
def shaDigitsSpec : ChangeSpec := { name := "shaDigits", fn := fun _ => fun
  | [d1, d2] => { results := [.lit (.bool true)], args := [d1, d2] }
  | _ => none }
def shaDigitsRow : OpenClaim := { program := "ytdefecbaineneaa", sum := "1ddf15e45ad44f10e98344f0ffcc65aa0c8bc3f131ad984fa173eb249bcaf694", func := "bevy/bevylaw02.ShaDigits", spec := "shaDigits", apart := false }
def ShaDigitsSaid : Prop := shaDigitsRow.holds Try.pinned (OpenSpec.ofChange shaDigitsSpec)

/-- ITS FALSE NEIGHBOUR: 'it returns false'. Refute it at one input. -/
def shaDigitsWrong : ChangeSpec := { name := "shaDigits", fn := fun _ => fun
  | [d1, d2] => { results := [.lit (.bool false)], args := [d1, d2] }
  | _ => none }
def ShaDigitsWrongFalsely : Prop := shaDigitsRow.holds Try.pinned (OpenSpec.ofChange shaDigitsWrong)

/-- 'bevylaw03.MacDerives': WHATEVER THE INPUT: true; the input reads as it did. -/
def macDerivesSpec : ChangeSpec := { name := "macDerives", fn := fun _ => fun
  | [d1, d2, d3] => { results := [.lit (.bool true)], args := [d1, d2, d3] }
  | _ => none }
def macDerivesRow : OpenClaim := { program := "ytdefecbaineneaa", sum := "1ddf15e45ad44f10e98344f0ffcc65aa0c8bc3f131ad984fa173eb249bcaf694", func := "bevy/bevylaw03.MacDerives", spec := "macDerives", apart := false }
def MacDerivesSaid : Prop := macDerivesRow.holds Try.pinned (OpenSpec.ofChange macDerivesSpec)

/-- ITS FALSE NEIGHBOUR: 'it returns false'. Refute it at one input. -/
def macDerivesWrong : ChangeSpec := { name := "macDerives", fn := fun _ => fun
  | [d1, d2, d3] => { results := [.lit (.bool false)], args := [d1, d2, d3] }
  | _ => none }
def MacDerivesWrongFalsely : Prop := macDerivesRow.holds Try.pinned (OpenSpec.ofChange macDerivesWrong)

/-- 'bevylaw03.MacMakes': WHATEVER THE INPUT: true; the input reads as it did. -/
def macMakesSpec : ChangeSpec := { name := "macMakes", fn := fun _ => fun
  | [d1, d2, d3, d4] => { results := [.lit (.bool true)], args := [d1, d2, d3, d4] }
  | _ => none }
def macMakesRow : OpenClaim := { program := "ytdefecbaineneaa", sum := "1ddf15e45ad44f10e98344f0ffcc65aa0c8bc3f131ad984fa173eb249bcaf694", func := "bevy/bevylaw03.MacMakes", spec := "macMakes", apart := false }
def MacMakesSaid : Prop := macMakesRow.holds Try.pinned (OpenSpec.ofChange macMakesSpec)

/-- ITS FALSE NEIGHBOUR: 'it returns false'. Refute it at one input. -/
def macMakesWrong : ChangeSpec := { name := "macMakes", fn := fun _ => fun
  | [d1, d2, d3, d4] => { results := [.lit (.bool false)], args := [d1, d2, d3, d4] }
  | _ => none }
def MacMakesWrongFalsely : Prop := macMakesRow.holds Try.pinned (OpenSpec.ofChange macMakesWrong)

/-- 'bevylaw03.MacParts': WHATEVER THE INPUT: true; the input reads as it did. -/
def macPartsSpec : ChangeSpec := { name := "macParts", fn := fun _ => fun
  | [d1, d2, d3] => { results := [.lit (.bool true)], args := [d1, d2, d3] }
  | _ => none }
def macPartsRow : OpenClaim := { program := "ytdefecbaineneaa", sum := "1ddf15e45ad44f10e98344f0ffcc65aa0c8bc3f131ad984fa173eb249bcaf694", func := "bevy/bevylaw03.MacParts", spec := "macParts", apart := false }
def MacPartsSaid : Prop := macPartsRow.holds Try.pinned (OpenSpec.ofChange macPartsSpec)

/-- ITS FALSE NEIGHBOUR: 'it returns false'. Refute it at one input. -/
def macPartsWrong : ChangeSpec := { name := "macParts", fn := fun _ => fun
  | [d1, d2, d3] => { results := [.lit (.bool false)], args := [d1, d2, d3] }
  | _ => none }
def MacPartsWrongFalsely : Prop := macPartsRow.holds Try.pinned (OpenSpec.ofChange macPartsWrong)

/-- 'bevylaw03.MacRows': WHATEVER THE INPUT: true; the input reads as it did. -/
def macRowsSpec : ChangeSpec := { name := "macRows", fn := fun _ => fun
  | [d1, d2, d3] => { results := [.lit (.bool true)], args := [d1, d2, d3] }
  | _ => none }
def macRowsRow : OpenClaim := { program := "ytdefecbaineneaa", sum := "1ddf15e45ad44f10e98344f0ffcc65aa0c8bc3f131ad984fa173eb249bcaf694", func := "bevy/bevylaw03.MacRows", spec := "macRows", apart := false }
def MacRowsSaid : Prop := macRowsRow.holds Try.pinned (OpenSpec.ofChange macRowsSpec)

/-- ITS FALSE NEIGHBOUR: 'it returns false'. Refute it at one input. -/
def macRowsWrong : ChangeSpec := { name := "macRows", fn := fun _ => fun
  | [d1, d2, d3] => { results := [.lit (.bool false)], args := [d1, d2, d3] }
  | _ => none }
def MacRowsWrongFalsely : Prop := macRowsRow.holds Try.pinned (OpenSpec.ofChange macRowsWrong)

/- THE SECOND FORM. 'bulk': how many values and letters a reading holds, each counted each time it is reached (what is shared counts as often as it is met; a slice's spare places count too). A statement '..UptoSaid' is the law's where the arguments, and the package variables that the reading takes, are together of bulk at most 1048576: NARROWER than '..Said'. Prove '..Said' where nothing that the law and all that it calls make is longer than what came in: it says more and counts as full. Else prove '..UptoSaid'. A law counts once. -/
mutual
def uptoBulk {H : Type} : DataW H → Nat
  | .lit (.string bytes) => bytes.length + 1
  | .lit _ => 1
  | .nil => 1
  | .ptr d => uptoBulk d + 1
  | .slice elems spare => uptoBulkAll elems + uptoBulkAll spare + 1
  | .agg parts => uptoBulkAll parts + 1
  | .iface _ d => uptoBulk d + 1
  | .map entries => uptoBulkEntries entries + 1
  | .held _ => 1
def uptoBulkAll {H : Type} : List (DataW H) → Nat
  | [] => 0
  | d :: r => uptoBulk d + uptoBulkAll r
def uptoBulkEntries {H : Type} : List (Lit × DataW H) → Nat
  | [] => 0
  | x :: r => uptoBulkEntry x + uptoBulkEntries r
def uptoBulkEntry {H : Type} : Lit × DataW H → Nat
  | (.string bytes, d) => bytes.length + uptoBulk d + 1
  | (_, d) => uptoBulk d + 1
 end
def uptoSmall : (H : Type) → List (DataW H) → Bool := fun _ ds => decide (uptoBulkAll ds ≤ 1048576)
def OpenSpec.upto (s : _root_.Go.ChangeSpec) : _root_.Go.OpenSpec := { _root_.Go.OpenSpec.ofChange s with cond := some uptoSmall }

/-- 'bevylaw02.ShaOne', WHERE WHAT IT READS IS OF BULK AT MOST 1048576: true; the input reads as it did. -/
def shaOneUptoRow : OpenClaim := { program := "ytdefecbaineneaa", sum := "1ddf15e45ad44f10e98344f0ffcc65aa0c8bc3f131ad984fa173eb249bcaf694", func := "bevy/bevylaw02.ShaOne", spec := "shaOne", apart := false, narrowed := true }
def ShaOneUptoSaid : Prop := shaOneUptoRow.holds Try.pinned (OpenSpec.upto shaOneSpec)

/-- 'bevylaw02.ShaSums', WHERE WHAT IT READS IS OF BULK AT MOST 1048576: true; the input reads as it did. -/
def shaSumsUptoRow : OpenClaim := { program := "ytdefecbaineneaa", sum := "1ddf15e45ad44f10e98344f0ffcc65aa0c8bc3f131ad984fa173eb249bcaf694", func := "bevy/bevylaw02.ShaSums", spec := "shaSums", apart := false, narrowed := true }
def ShaSumsUptoSaid : Prop := shaSumsUptoRow.holds Try.pinned (OpenSpec.upto shaSumsSpec)

/-- 'bevylaw02.ShaHex', WHERE WHAT IT READS IS OF BULK AT MOST 1048576: true; the input reads as it did. -/
def shaHexUptoRow : OpenClaim := { program := "ytdefecbaineneaa", sum := "1ddf15e45ad44f10e98344f0ffcc65aa0c8bc3f131ad984fa173eb249bcaf694", func := "bevy/bevylaw02.ShaHex", spec := "shaHex", apart := false, narrowed := true }
def ShaHexUptoSaid : Prop := shaHexUptoRow.holds Try.pinned (OpenSpec.upto shaHexSpec)

/-- 'bevylaw02.ShaOrders', WHERE WHAT IT READS IS OF BULK AT MOST 1048576: true; the input reads as it did. -/
def shaOrdersUptoRow : OpenClaim := { program := "ytdefecbaineneaa", sum := "1ddf15e45ad44f10e98344f0ffcc65aa0c8bc3f131ad984fa173eb249bcaf694", func := "bevy/bevylaw02.ShaOrders", spec := "shaOrders", apart := false, narrowed := true }
def ShaOrdersUptoSaid : Prop := shaOrdersUptoRow.holds Try.pinned (OpenSpec.upto shaOrdersSpec)

/-- 'bevylaw03.MacCodes', WHERE WHAT IT READS IS OF BULK AT MOST 1048576: true; the input reads as it did. -/
def macCodesUptoRow : OpenClaim := { program := "ytdefecbaineneaa", sum := "1ddf15e45ad44f10e98344f0ffcc65aa0c8bc3f131ad984fa173eb249bcaf694", func := "bevy/bevylaw03.MacCodes", spec := "macCodes", apart := false, narrowed := true }
def MacCodesUptoSaid : Prop := macCodesUptoRow.holds Try.pinned (OpenSpec.upto macCodesSpec)

/-- 'bevylaw03.MacMixes', WHERE WHAT IT READS IS OF BULK AT MOST 1048576: true; the input reads as it did. -/
def macMixesUptoRow : OpenClaim := { program := "ytdefecbaineneaa", sum := "1ddf15e45ad44f10e98344f0ffcc65aa0c8bc3f131ad984fa173eb249bcaf694", func := "bevy/bevylaw03.MacMixes", spec := "macMixes", apart := false, narrowed := true }
def MacMixesUptoSaid : Prop := macMixesUptoRow.holds Try.pinned (OpenSpec.upto macMixesSpec)

/-- 'bevylaw02.ShaDigits', WHERE WHAT IT READS IS OF BULK AT MOST 1048576: true; the input reads as it did. -/
def shaDigitsUptoRow : OpenClaim := { program := "ytdefecbaineneaa", sum := "1ddf15e45ad44f10e98344f0ffcc65aa0c8bc3f131ad984fa173eb249bcaf694", func := "bevy/bevylaw02.ShaDigits", spec := "shaDigits", apart := false, narrowed := true }
def ShaDigitsUptoSaid : Prop := shaDigitsUptoRow.holds Try.pinned (OpenSpec.upto shaDigitsSpec)

/-- 'bevylaw03.MacDerives', WHERE WHAT IT READS IS OF BULK AT MOST 1048576: true; the input reads as it did. -/
def macDerivesUptoRow : OpenClaim := { program := "ytdefecbaineneaa", sum := "1ddf15e45ad44f10e98344f0ffcc65aa0c8bc3f131ad984fa173eb249bcaf694", func := "bevy/bevylaw03.MacDerives", spec := "macDerives", apart := false, narrowed := true }
def MacDerivesUptoSaid : Prop := macDerivesUptoRow.holds Try.pinned (OpenSpec.upto macDerivesSpec)

/-- 'bevylaw03.MacMakes', WHERE WHAT IT READS IS OF BULK AT MOST 1048576: true; the input reads as it did. -/
def macMakesUptoRow : OpenClaim := { program := "ytdefecbaineneaa", sum := "1ddf15e45ad44f10e98344f0ffcc65aa0c8bc3f131ad984fa173eb249bcaf694", func := "bevy/bevylaw03.MacMakes", spec := "macMakes", apart := false, narrowed := true }
def MacMakesUptoSaid : Prop := macMakesUptoRow.holds Try.pinned (OpenSpec.upto macMakesSpec)

/-- 'bevylaw03.MacParts', WHERE WHAT IT READS IS OF BULK AT MOST 1048576: true; the input reads as it did. -/
def macPartsUptoRow : OpenClaim := { program := "ytdefecbaineneaa", sum := "1ddf15e45ad44f10e98344f0ffcc65aa0c8bc3f131ad984fa173eb249bcaf694", func := "bevy/bevylaw03.MacParts", spec := "macParts", apart := false, narrowed := true }
def MacPartsUptoSaid : Prop := macPartsUptoRow.holds Try.pinned (OpenSpec.upto macPartsSpec)

/-- 'bevylaw03.MacRows', WHERE WHAT IT READS IS OF BULK AT MOST 1048576: true; the input reads as it did. -/
def macRowsUptoRow : OpenClaim := { program := "ytdefecbaineneaa", sum := "1ddf15e45ad44f10e98344f0ffcc65aa0c8bc3f131ad984fa173eb249bcaf694", func := "bevy/bevylaw03.MacRows", spec := "macRows", apart := false, narrowed := true }
def MacRowsUptoSaid : Prop := macRowsUptoRow.holds Try.pinned (OpenSpec.upto macRowsSpec)

end Rows
end Go.Proofs.Ytdefecbaineneaa
