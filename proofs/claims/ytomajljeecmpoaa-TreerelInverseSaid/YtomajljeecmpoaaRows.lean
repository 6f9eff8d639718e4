/-
  No cell of these rows narrows 'for every input' (looked for: loops, veiled, ifaces, maps, wideKeys, modest, calm, conditions, laid).
  DERIVED. THE GIVEN ROWS OF THIS SEAT. 8 by the template 'for every input the law returns true; each argument reads behind the call as it read before'; 0 by the template 'total and deterministic' (their statements: YtomajljeecmpoaaTotals.lean).
  GIVEN WITH THE SEED: the statements are not yours to turn. If you find one false, say at which input.
  Laid BY PROGRAM, IN A SANDBOX (cutbox-rows.mjs): the forced cells as the released guide's own fill.sh prints them over the translation 22421ec42525f0d8… (all of the seat's roots in one cut). By AI agents, Wed Nov 11 2026. No macro, syntax, notation, axiom, sorry.
-/
import Derived.Test.YtomajljeecmpoaaChecked
import GoSem.Claim
import GoSem.ClaimJoined
import GoSem.ClaimMapViews
import Derived.JoinedTies
import Derived.KernelRfl
namespace Go.Proofs.Ytomajljeecmpoaa
/- THE CELL 'sum', in the pinned program and in every row, IS THE sha256 OF THE DUMP (.gsa) THAT YtomajljeecmpoaaProg.lean LOADS. Nothing in Lean hashes anything: it is a label: what it is worth is what the hold of that sum in a sandbox is worth. -/
noncomputable def Try.pinned : Pinned := { name := "ytomajljeecmpoaa", sum := "22421ec42525f0d8d40552393e4e9b072200bac56b61d5d8eeff614ccd4da24d", checked := Try.checked }
namespace Rows
def none {H : Type} : Left H := { results := [], args := [] }

/-- 'corporalaw29.TreerelHeads': WHATEVER THE INPUT: true; the input reads as it did. -/
def treerelHeadsSpec : ChangeSpec := { name := "treerelHeads", fn := fun _ => fun
  | [d1, d2] => { results := [.lit (.bool true)], args := [d1, d2] }
  | _ => none }
def treerelHeadsRow : OpenClaim := { program := "ytomajljeecmpoaa", sum := "22421ec42525f0d8d40552393e4e9b072200bac56b61d5d8eeff614ccd4da24d", func := "corpora/corporalaw29.TreerelHeads", spec := "treerelHeads", apart := false }
def TreerelHeadsSaid : Prop := treerelHeadsRow.holds Try.pinned (OpenSpec.ofChange treerelHeadsSpec)

/-- ITS FALSE NEIGHBOUR: 'it returns false'. Refute it at one input. -/
def treerelHeadsWrong : ChangeSpec := { name := "treerelHeads", fn := fun _ => fun
  | [d1, d2] => { results := [.lit (.bool false)], args := [d1, d2] }
  | _ => none }
def TreerelHeadsWrongFalsely : Prop := treerelHeadsRow.holds Try.pinned (OpenSpec.ofChange treerelHeadsWrong)

/-- 'corporalaw29.TreerelInverse': WHATEVER THE INPUT: true; the input reads as it did. -/
def treerelInverseSpec : ChangeSpec := { name := "treerelInverse", fn := fun _ => fun
  | [d1, d2] => { results := [.lit (.bool true)], args := [d1, d2] }
  | _ => none }
def treerelInverseRow : OpenClaim := { program := "ytomajljeecmpoaa", sum := "22421ec42525f0d8d40552393e4e9b072200bac56b61d5d8eeff614ccd4da24d", func := "corpora/corporalaw29.TreerelInverse", spec := "treerelInverse", apart := false }
def TreerelInverseSaid : Prop := treerelInverseRow.holds Try.pinned (OpenSpec.ofChange treerelInverseSpec)

/-- ITS FALSE NEIGHBOUR: 'it returns false'. Refute it at one input. -/
def treerelInverseWrong : ChangeSpec := { name := "treerelInverse", fn := fun _ => fun
  | [d1, d2] => { results := [.lit (.bool false)], args := [d1, d2] }
  | _ => none }
def TreerelInverseWrongFalsely : Prop := treerelInverseRow.holds Try.pinned (OpenSpec.ofChange treerelInverseWrong)

/-- 'corporalaw29.TreerelParts': WHATEVER THE INPUT: true; the input reads as it did. -/
def treerelPartsSpec : ChangeSpec := { name := "treerelParts", fn := fun _ => fun
  | [d] => { results := [.lit (.bool true)], args := [d] }
  | _ => none }
def treerelPartsRow : OpenClaim := { program := "ytomajljeecmpoaa", sum := "22421ec42525f0d8d40552393e4e9b072200bac56b61d5d8eeff614ccd4da24d", func := "corpora/corporalaw29.TreerelParts", spec := "treerelParts", apart := false }
def TreerelPartsSaid : Prop := treerelPartsRow.holds Try.pinned (OpenSpec.ofChange treerelPartsSpec)

/-- ITS FALSE NEIGHBOUR: 'it returns false'. Refute it at one input. -/
def treerelPartsWrong : ChangeSpec := { name := "treerelParts", fn := fun _ => fun
  | [d] => { results := [.lit (.bool false)], args := [d] }
  | _ => none }
def TreerelPartsWrongFalsely : Prop := treerelPartsRow.holds Try.pinned (OpenSpec.ofChange treerelPartsWrong)

/-- 'corporalaw29.TreerelWays': WHATEVER THE INPUT: true; the input reads as it did. -/
def treerelWaysSpec : ChangeSpec := { name := "treerelWays", fn := fun _ => fun
  | [d1, d2, d3] => { results := [.lit (.bool true)], args := [d1, d2, d3] }
  | _ => none }
def treerelWaysRow : OpenClaim := { program := "ytomajljeecmpoaa", sum := "22421ec42525f0d8d40552393e4e9b072200bac56b61d5d8eeff614ccd4da24d", func := "corpora/corporalaw29.TreerelWays", spec := "treerelWays", apart := false }
def TreerelWaysSaid : Prop := treerelWaysRow.holds Try.pinned (OpenSpec.ofChange treerelWaysSpec)

/-- ITS FALSE NEIGHBOUR: 'it returns false'. Refute it at one input. -/
def treerelWaysWrong : ChangeSpec := { name := "treerelWays", fn := fun _ => fun
  | [d1, d2, d3] => { results := [.lit (.bool false)], args := [d1, d2, d3] }
  | _ => none }
def TreerelWaysWrongFalsely : Prop := treerelWaysRow.holds Try.pinned (OpenSpec.ofChange treerelWaysWrong)

/-- 'corporalaw29.TreerelRoutes': WHATEVER THE INPUT: true; the input reads as it did. -/
def treerelRoutesSpec : ChangeSpec := { name := "treerelRoutes", fn := fun _ => fun
  | [d1, d2, d3] => { results := [.lit (.bool true)], args := [d1, d2, d3] }
  | _ => none }
def treerelRoutesRow : OpenClaim := { program := "ytomajljeecmpoaa", sum := "22421ec42525f0d8d40552393e4e9b072200bac56b61d5d8eeff614ccd4da24d", func := "corpora/corporalaw29.TreerelRoutes", spec := "treerelRoutes", apart := false }
def TreerelRoutesSaid : Prop := treerelRoutesRow.holds Try.pinned (OpenSpec.ofChange treerelRoutesSpec)

/-- ITS FALSE NEIGHBOUR: 'it returns false'. Refute it at one input. -/
def treerelRoutesWrong : ChangeSpec := { name := "treerelRoutes", fn := fun _ => fun
  | [d1, d2, d3] => { results := [.lit (.bool false)], args := [d1, d2, d3] }
  | _ => none }
def TreerelRoutesWrongFalsely : Prop := treerelRoutesRow.holds Try.pinned (OpenSpec.ofChange treerelRoutesWrong)

/-- 'corporalaw29.TreerelMeets': WHATEVER THE INPUT: true; the input reads as it did. -/
def treerelMeetsSpec : ChangeSpec := { name := "treerelMeets", fn := fun _ => fun
  | [d1, d2, d3] => { results := [.lit (.bool true)], args := [d1, d2, d3] }
  | _ => none }
def treerelMeetsRow : OpenClaim := { program := "ytomajljeecmpoaa", sum := "22421ec42525f0d8d40552393e4e9b072200bac56b61d5d8eeff614ccd4da24d", func := "corpora/corporalaw29.TreerelMeets", spec := "treerelMeets", apart := false }
def TreerelMeetsSaid : Prop := treerelMeetsRow.holds Try.pinned (OpenSpec.ofChange treerelMeetsSpec)

/-- ITS FALSE NEIGHBOUR: 'it returns false'. Refute it at one input. -/
def treerelMeetsWrong : ChangeSpec := { name := "treerelMeets", fn := fun _ => fun
  | [d1, d2, d3] => { results := [.lit (.bool false)], args := [d1, d2, d3] }
  | _ => none }
def TreerelMeetsWrongFalsely : Prop := treerelMeetsRow.holds Try.pinned (OpenSpec.ofChange treerelMeetsWrong)

/-- 'corporalaw29.TreerelChains': WHATEVER THE INPUT: true; the input reads as it did. -/
def treerelChainsSpec : ChangeSpec := { name := "treerelChains", fn := fun _ => fun
  | [d1, d2, d3] => { results := [.lit (.bool true)], args := [d1, d2, d3] }
  | _ => none }
def treerelChainsRow : OpenClaim := { program := "ytomajljeecmpoaa", sum := "22421ec42525f0d8d40552393e4e9b072200bac56b61d5d8eeff614ccd4da24d", func := "corpora/corporalaw29.TreerelChains", spec := "treerelChains", apart := false }
def TreerelChainsSaid : Prop := treerelChainsRow.holds Try.pinned (OpenSpec.ofChange treerelChainsSpec)

/-- ITS FALSE NEIGHBOUR: 'it returns false'. Refute it at one input. -/
def treerelChainsWrong : ChangeSpec := { name := "treerelChains", fn := fun _ => fun
  | [d1, d2, d3] => { results := [.lit (.bool false)], args := [d1, d2, d3] }
  | _ => none }
def TreerelChainsWrongFalsely : Prop := treerelChainsRow.holds Try.pinned (OpenSpec.ofChange treerelChainsWrong)

/-- 'corporalaw29.TreerelNodes': WHATEVER THE INPUT: true; the input reads as it did. -/
def treerelNodesSpec : ChangeSpec := { name := "treerelNodes", fn := fun _ => fun
  | [d1, d2, d3] => { results := [.lit (.bool true)], args := [d1, d2, d3] }
  | _ => none }
def treerelNodesRow : OpenClaim := { program := "ytomajljeecmpoaa", sum := "22421ec42525f0d8d40552393e4e9b072200bac56b61d5d8eeff614ccd4da24d", func := "corpora/corporalaw29.TreerelNodes", spec := "treerelNodes", apart := false }
def TreerelNodesSaid : Prop := treerelNodesRow.holds Try.pinned (OpenSpec.ofChange treerelNodesSpec)

/-- ITS FALSE NEIGHBOUR: 'it returns false'. Refute it at one input. -/
def treerelNodesWrong : ChangeSpec := { name := "treerelNodes", fn := fun _ => fun
  | [d1, d2, d3] => { results := [.lit (.bool false)], args := [d1, d2, d3] }
  | _ => none }
def TreerelNodesWrongFalsely : Prop := treerelNodesRow.holds Try.pinned (OpenSpec.ofChange treerelNodesWrong)

/- THE SECOND FORM. 'bulk': how many values and letters a reading holds, each counted each time it is reached (what is shared counts as often as it is met; a slice's spare places count too). A statement '..UptoSaid' is the law's where the arguments, and the package variables that the reading takes, are together of bulk at most 1048576: NARROWER than '..Said'. Prove '..Said' where nothing that the law and all that it calls make is longer than what came in: it says more and counts as full. Else prove '..UptoSaid'. A law counts once. -/
mutual
def uptoBulk {H : Type} : DataW H → Nat
  | .lit (.string bytes) => bytes.length + 1
  | .lit _ => 1
  | .nil => 1
  | .ptr d => uptoBulk d + 1
  | .slice elems spare => uptoBulkAll elems + uptoBulkAll spare + 1
  | .agg parts => uptoBulkAll parts + 1
  | .iface _ d => uptoBulk d + 1
  | .map entries => uptoBulkEntries entries + 1
  | .held _ => 1
def uptoBulkAll {H : Type} : List (DataW H) → Nat
  | [] => 0
  | d :: r => uptoBulk d + uptoBulkAll r
def uptoBulkEntries {H : Type} : List (Lit × DataW H) → Nat
  | [] => 0
  | x :: r => uptoBulkEntry x + uptoBulkEntries r
def uptoBulkEntry {H : Type} : Lit × DataW H → Nat
  | (.string bytes, d) => bytes.length + uptoBulk d + 1
  | (_, d) => uptoBulk d + 1
 end
def uptoSmall : (H : Type) → List (DataW H) → Bool := fun _ ds => decide (uptoBulkAll ds ≤ 1048576)
def OpenSpec.upto (s : _root_.Go.ChangeSpec) : _root_.Go.OpenSpec := { _root_.Go.OpenSpec.ofChange s with cond := some uptoSmall }

/-- 'corporalaw29.TreerelHeads', WHERE WHAT IT READS IS OF BULK AT MOST 1048576: true; the input reads as it did. -/
def treerelHeadsUptoRow : OpenClaim := { program := "ytomajljeecmpoaa", sum := "22421ec42525f0d8d40552393e4e9b072200bac56b61d5d8eeff614ccd4da24d", func := "corpora/corporalaw29.TreerelHeads", spec := "treerelHeads", apart := false, narrowed := true }
def TreerelHeadsUptoSaid : Prop := treerelHeadsUptoRow.holds Try.pinned (OpenSpec.upto treerelHeadsSpec)

/-- 'corporalaw29.TreerelInverse', WHERE WHAT IT READS IS OF BULK AT MOST 1048576: true; the input reads as it did. -/
def treerelInverseUptoRow : OpenClaim := { program := "ytomajljeecmpoaa", sum := "22421ec42525f0d8d40552393e4e9b072200bac56b61d5d8eeff614ccd4da24d", func := "corpora/corporalaw29.TreerelInverse", spec := "treerelInverse", apart := false, narrowed := true }
def TreerelInverseUptoSaid : Prop := treerelInverseUptoRow.holds Try.pinned (OpenSpec.upto treerelInverseSpec)

/-- 'corporalaw29.TreerelParts', WHERE WHAT IT READS IS OF BULK AT MOST 1048576: true; the input reads as it did. -/
def treerelPartsUptoRow : OpenClaim := { program := "ytomajljeecmpoaa", sum := "22421ec42525f0d8d40552393e4e9b072200bac56b61d5d8eeff614ccd4da24d", func := "corpora/corporalaw29.TreerelParts", spec := "treerelParts", apart := false, narrowed := true }
def TreerelPartsUptoSaid : Prop := treerelPartsUptoRow.holds Try.pinned (OpenSpec.upto treerelPartsSpec)

/-- 'corporalaw29.TreerelWays', WHERE WHAT IT READS IS OF BULK AT MOST 1048576: true; the input reads as it did. -/
def treerelWaysUptoRow : OpenClaim := { program := "ytomajljeecmpoaa", sum := "22421ec42525f0d8d40552393e4e9b072200bac56b61d5d8eeff614ccd4da24d", func := "corpora/corporalaw29.TreerelWays", spec := "treerelWays", apart := false, narrowed := true }
def TreerelWaysUptoSaid : Prop := treerelWaysUptoRow.holds Try.pinned (OpenSpec.upto treerelWaysSpec)

/-- 'corporalaw29.TreerelRoutes', WHERE WHAT IT READS IS OF BULK AT MOST 1048576: true; the input reads as it did. -/
def treerelRoutesUptoRow : OpenClaim := { program := "ytomajljeecmpoaa", sum := "22421ec42525f0d8d40552393e4e9b072200bac56b61d5d8eeff614ccd4da24d", func := "corpora/corporalaw29.TreerelRoutes", spec := "treerelRoutes", apart := false, narrowed := true }
def TreerelRoutesUptoSaid : Prop := treerelRoutesUptoRow.holds Try.pinned (OpenSpec.upto treerelRoutesSpec)

/-- 'corporalaw29.TreerelMeets', WHERE WHAT IT READS IS OF BULK AT MOST 1048576: true; the input reads as it did. -/
def treerelMeetsUptoRow : OpenClaim := { program := "ytomajljeecmpoaa", sum := "22421ec42525f0d8d40552393e4e9b072200bac56b61d5d8eeff614ccd4da24d", func := "corpora/corporalaw29.TreerelMeets", spec := "treerelMeets", apart := false, narrowed := true }
def TreerelMeetsUptoSaid : Prop := treerelMeetsUptoRow.holds Try.pinned (OpenSpec.upto treerelMeetsSpec)

/-- 'corporalaw29.TreerelChains', WHERE WHAT IT READS IS OF BULK AT MOST 1048576: true; the input reads as it did. -/
def treerelChainsUptoRow : OpenClaim := { program := "ytomajljeecmpoaa", sum := "22421ec42525f0d8d40552393e4e9b072200bac56b61d5d8eeff614ccd4da24d", func := "corpora/corporalaw29.TreerelChains", spec := "treerelChains", apart := false, narrowed := true }
def TreerelChainsUptoSaid : Prop := treerelChainsUptoRow.holds Try.pinned (OpenSpec.upto treerelChainsSpec)

/-- 'corporalaw29.TreerelNodes', WHERE WHAT IT READS IS OF BULK AT MOST 1048576: true; the input reads as it did. -/
def treerelNodesUptoRow : OpenClaim := { program := "ytomajljeecmpoaa", sum := "22421ec42525f0d8d40552393e4e9b072200bac56b61d5d8eeff614ccd4da24d", func := "corpora/corporalaw29.TreerelNodes", spec := "treerelNodes", apart := false, narrowed := true }
def TreerelNodesUptoSaid : Prop := treerelNodesUptoRow.holds Try.pinned (OpenSpec.upto treerelNodesSpec)

end Rows
end Go.Proofs.Ytomajljeecmpoaa
