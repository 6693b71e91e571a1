/-
  No cell of these rows narrows 'for every input' (looked for: loops, veiled, ifaces, maps, wideKeys, modest, calm, conditions, laid).
  DERIVED. THE GIVEN ROWS OF THIS SEAT. 9 by the template 'for every input the law returns true; each argument reads behind the call as it read before'; 0 by the template 'total and deterministic' (their statements: YtjeddcijefnbfaaTotals.lean).
  GIVEN WITH THE SEED: the statements are not yours to turn. If you find one false, say at which input.
  Laid BY PROGRAM, IN A SANDBOX (cutbox-rows.mjs): the forced cells as the released guide's own fill.sh prints them over the translation 8c1554fd896dada2… (all of the seat's roots in one cut). By AI agents, Wed Nov 11 2026. No macro, syntax, notation, axiom, sorry.
-/
import Derived.Test.YtjeddcijefnbfaaChecked
import GoSem.Claim
import GoSem.ClaimJoined
import GoSem.ClaimMapViews
import Derived.JoinedTies
import Derived.KernelRfl
namespace Go.Proofs.Ytjeddcijefnbfaa
/- THE CELL 'sum', in the pinned program and in every row, IS THE sha256 OF THE DUMP (.gsa) THAT YtjeddcijefnbfaaProg.lean LOADS. Nothing in Lean hashes anything: it is a label: what it is worth is what the hold of that sum in a sandbox is worth. -/
noncomputable def Try.pinned : Pinned := { name := "ytjeddcijefnbfaa", sum := "8c1554fd896dada2b65f43eeee75ff6f0dc470bfaffcbf5b9faef5a90907e573", checked := Try.checked }
namespace Rows
def none {H : Type} : Left H := { results := [], args := [] }

/-- 'watershedlaw4.TreeSpans': WHATEVER THE INPUT: true; the input reads as it did. -/
def treeSpansSpec : ChangeSpec := { name := "treeSpans", fn := fun _ => fun
  | [d1, d2, d3] => { results := [.lit (.bool true)], args := [d1, d2, d3] }
  | _ => none }
def treeSpansRow : OpenClaim := { program := "ytjeddcijefnbfaa", sum := "8c1554fd896dada2b65f43eeee75ff6f0dc470bfaffcbf5b9faef5a90907e573", func := "watershed/watershedlaw4.TreeSpans", spec := "treeSpans", apart := false }
def TreeSpansSaid : Prop := treeSpansRow.holds Try.pinned (OpenSpec.ofChange treeSpansSpec)

/-- ITS FALSE NEIGHBOUR: 'it returns false'. Refute it at one input. -/
def treeSpansWrong : ChangeSpec := { name := "treeSpans", fn := fun _ => fun
  | [d1, d2, d3] => { results := [.lit (.bool false)], args := [d1, d2, d3] }
  | _ => none }
def TreeSpansWrongFalsely : Prop := treeSpansRow.holds Try.pinned (OpenSpec.ofChange treeSpansWrong)

/-- 'watershedlaw4.TreeRight': WHATEVER THE INPUT: true; the input reads as it did. -/
def treeRightSpec : ChangeSpec := { name := "treeRight", fn := fun _ => fun
  | [d1, d2, d3, d4, d5, d6] => { results := [.lit (.bool true)], args := [d1, d2, d3, d4, d5, d6] }
  | _ => none }
def treeRightRow : OpenClaim := { program := "ytjeddcijefnbfaa", sum := "8c1554fd896dada2b65f43eeee75ff6f0dc470bfaffcbf5b9faef5a90907e573", func := "watershed/watershedlaw4.TreeRight", spec := "treeRight", apart := false }
def TreeRightSaid : Prop := treeRightRow.holds Try.pinned (OpenSpec.ofChange treeRightSpec)

/-- ITS FALSE NEIGHBOUR: 'it returns false'. Refute it at one input. -/
def treeRightWrong : ChangeSpec := { name := "treeRight", fn := fun _ => fun
  | [d1, d2, d3, d4, d5, d6] => { results := [.lit (.bool false)], args := [d1, d2, d3, d4, d5, d6] }
  | _ => none }
def TreeRightWrongFalsely : Prop := treeRightRow.holds Try.pinned (OpenSpec.ofChange treeRightWrong)

/-- 'watershedlaw4.TreeLeft': WHATEVER THE INPUT: true; the input reads as it did. -/
def treeLeftSpec : ChangeSpec := { name := "treeLeft", fn := fun _ => fun
  | [d1, d2] => { results := [.lit (.bool true)], args := [d1, d2] }
  | _ => none }
def treeLeftRow : OpenClaim := { program := "ytjeddcijefnbfaa", sum := "8c1554fd896dada2b65f43eeee75ff6f0dc470bfaffcbf5b9faef5a90907e573", func := "watershed/watershedlaw4.TreeLeft", spec := "treeLeft", apart := false }
def TreeLeftSaid : Prop := treeLeftRow.holds Try.pinned (OpenSpec.ofChange treeLeftSpec)

/-- ITS FALSE NEIGHBOUR: 'it returns false'. Refute it at one input. -/
def treeLeftWrong : ChangeSpec := { name := "treeLeft", fn := fun _ => fun
  | [d1, d2] => { results := [.lit (.bool false)], args := [d1, d2] }
  | _ => none }
def TreeLeftWrongFalsely : Prop := treeLeftRow.holds Try.pinned (OpenSpec.ofChange treeLeftWrong)

/-- 'watershedlaw4.TreeWays': WHATEVER THE INPUT: true; the input reads as it did. -/
def treeWaysSpec : ChangeSpec := { name := "treeWays", fn := fun _ => fun
  | [d1, d2, d3] => { results := [.lit (.bool true)], args := [d1, d2, d3] }
  | _ => none }
def treeWaysRow : OpenClaim := { program := "ytjeddcijefnbfaa", sum := "8c1554fd896dada2b65f43eeee75ff6f0dc470bfaffcbf5b9faef5a90907e573", func := "watershed/watershedlaw4.TreeWays", spec := "treeWays", apart := false }
def TreeWaysSaid : Prop := treeWaysRow.holds Try.pinned (OpenSpec.ofChange treeWaysSpec)

/-- ITS FALSE NEIGHBOUR: 'it returns false'. Refute it at one input. -/
def treeWaysWrong : ChangeSpec := { name := "treeWays", fn := fun _ => fun
  | [d1, d2, d3] => { results := [.lit (.bool false)], args := [d1, d2, d3] }
  | _ => none }
def TreeWaysWrongFalsely : Prop := treeWaysRow.holds Try.pinned (OpenSpec.ofChange treeWaysWrong)

/-- 'watershedlaw4.TreeOwn': WHATEVER THE INPUT: true; the input reads as it did. -/
def treeOwnSpec : ChangeSpec := { name := "treeOwn", fn := fun _ => fun
  | [d1, d2, d3] => { results := [.lit (.bool true)], args := [d1, d2, d3] }
  | _ => none }
def treeOwnRow : OpenClaim := { program := "ytjeddcijefnbfaa", sum := "8c1554fd896dada2b65f43eeee75ff6f0dc470bfaffcbf5b9faef5a90907e573", func := "watershed/watershedlaw4.TreeOwn", spec := "treeOwn", apart := false }
def TreeOwnSaid : Prop := treeOwnRow.holds Try.pinned (OpenSpec.ofChange treeOwnSpec)

/-- ITS FALSE NEIGHBOUR: 'it returns false'. Refute it at one input. -/
def treeOwnWrong : ChangeSpec := { name := "treeOwn", fn := fun _ => fun
  | [d1, d2, d3] => { results := [.lit (.bool false)], args := [d1, d2, d3] }
  | _ => none }
def TreeOwnWrongFalsely : Prop := treeOwnRow.holds Try.pinned (OpenSpec.ofChange treeOwnWrong)

/-- 'watershedlaw4.TreeCounts': WHATEVER THE INPUT: true; the input reads as it did. -/
def treeCountsSpec : ChangeSpec := { name := "treeCounts", fn := fun _ => fun
  | [d1, d2] => { results := [.lit (.bool true)], args := [d1, d2] }
  | _ => none }
def treeCountsRow : OpenClaim := { program := "ytjeddcijefnbfaa", sum := "8c1554fd896dada2b65f43eeee75ff6f0dc470bfaffcbf5b9faef5a90907e573", func := "watershed/watershedlaw4.TreeCounts", spec := "treeCounts", apart := false }
def TreeCountsSaid : Prop := treeCountsRow.holds Try.pinned (OpenSpec.ofChange treeCountsSpec)

/-- ITS FALSE NEIGHBOUR: 'it returns false'. Refute it at one input. -/
def treeCountsWrong : ChangeSpec := { name := "treeCounts", fn := fun _ => fun
  | [d1, d2] => { results := [.lit (.bool false)], args := [d1, d2] }
  | _ => none }
def TreeCountsWrongFalsely : Prop := treeCountsRow.holds Try.pinned (OpenSpec.ofChange treeCountsWrong)

/-- 'watershedlaw4.TreeFirst': WHATEVER THE INPUT: true; the input reads as it did. -/
def treeFirstSpec : ChangeSpec := { name := "treeFirst", fn := fun _ => fun
  | [d1, d2, d3] => { results := [.lit (.bool true)], args := [d1, d2, d3] }
  | _ => none }
def treeFirstRow : OpenClaim := { program := "ytjeddcijefnbfaa", sum := "8c1554fd896dada2b65f43eeee75ff6f0dc470bfaffcbf5b9faef5a90907e573", func := "watershed/watershedlaw4.TreeFirst", spec := "treeFirst", apart := false }
def TreeFirstSaid : Prop := treeFirstRow.holds Try.pinned (OpenSpec.ofChange treeFirstSpec)

/-- ITS FALSE NEIGHBOUR: 'it returns false'. Refute it at one input. -/
def treeFirstWrong : ChangeSpec := { name := "treeFirst", fn := fun _ => fun
  | [d1, d2, d3] => { results := [.lit (.bool false)], args := [d1, d2, d3] }
  | _ => none }
def TreeFirstWrongFalsely : Prop := treeFirstRow.holds Try.pinned (OpenSpec.ofChange treeFirstWrong)

/-- 'watershedlaw4.TreeKnown': WHATEVER THE INPUT: true; the input reads as it did. -/
def treeKnownSpec : ChangeSpec := { name := "treeKnown", fn := fun _ => fun
  | [d1, d2] => { results := [.lit (.bool true)], args := [d1, d2] }
  | _ => none }
def treeKnownRow : OpenClaim := { program := "ytjeddcijefnbfaa", sum := "8c1554fd896dada2b65f43eeee75ff6f0dc470bfaffcbf5b9faef5a90907e573", func := "watershed/watershedlaw4.TreeKnown", spec := "treeKnown", apart := false }
def TreeKnownSaid : Prop := treeKnownRow.holds Try.pinned (OpenSpec.ofChange treeKnownSpec)

/-- ITS FALSE NEIGHBOUR: 'it returns false'. Refute it at one input. -/
def treeKnownWrong : ChangeSpec := { name := "treeKnown", fn := fun _ => fun
  | [d1, d2] => { results := [.lit (.bool false)], args := [d1, d2] }
  | _ => none }
def TreeKnownWrongFalsely : Prop := treeKnownRow.holds Try.pinned (OpenSpec.ofChange treeKnownWrong)

/-- 'watershedlaw4.TreeAny': WHATEVER THE INPUT: true; the input reads as it did. -/
def treeAnySpec : ChangeSpec := { name := "treeAny", fn := fun _ => fun
  | [d1, d2, d3] => { results := [.lit (.bool true)], args := [d1, d2, d3] }
  | _ => none }
def treeAnyRow : OpenClaim := { program := "ytjeddcijefnbfaa", sum := "8c1554fd896dada2b65f43eeee75ff6f0dc470bfaffcbf5b9faef5a90907e573", func := "watershed/watershedlaw4.TreeAny", spec := "treeAny", apart := false }
def TreeAnySaid : Prop := treeAnyRow.holds Try.pinned (OpenSpec.ofChange treeAnySpec)

/-- ITS FALSE NEIGHBOUR: 'it returns false'. Refute it at one input. -/
def treeAnyWrong : ChangeSpec := { name := "treeAny", fn := fun _ => fun
  | [d1, d2, d3] => { results := [.lit (.bool false)], args := [d1, d2, d3] }
  | _ => none }
def TreeAnyWrongFalsely : Prop := treeAnyRow.holds Try.pinned (OpenSpec.ofChange treeAnyWrong)

/- THE SECOND FORM. 'bulk': how many values and letters a reading holds, each counted each time it is reached (what is shared counts as often as it is met; a slice's spare places count too). A statement '..UptoSaid' is the law's where the arguments, and the package variables that the reading takes, are together of bulk at most 1048576: NARROWER than '..Said'. Prove '..Said' where nothing that the law and all that it calls make is longer than what came in: it says more and counts as full. Else prove '..UptoSaid'. A law counts once. -/
mutual
def uptoBulk {H : Type} : DataW H → Nat
  | .lit (.string bytes) => bytes.length + 1
  | .lit _ => 1
  | .nil => 1
  | .ptr d => uptoBulk d + 1
  | .slice elems spare => uptoBulkAll elems + uptoBulkAll spare + 1
  | .agg parts => uptoBulkAll parts + 1
  | .iface _ d => uptoBulk d + 1
  | .map entries => uptoBulkEntries entries + 1
  | .held _ => 1
def uptoBulkAll {H : Type} : List (DataW H) → Nat
  | [] => 0
  | d :: r => uptoBulk d + uptoBulkAll r
def uptoBulkEntries {H : Type} : List (Lit × DataW H) → Nat
  | [] => 0
  | x :: r => uptoBulkEntry x + uptoBulkEntries r
def uptoBulkEntry {H : Type} : Lit × DataW H → Nat
  | (.string bytes, d) => bytes.length + uptoBulk d + 1
  | (_, d) => uptoBulk d + 1
 end
def uptoSmall : (H : Type) → List (DataW H) → Bool := fun _ ds => decide (uptoBulkAll ds ≤ 1048576)
def OpenSpec.upto (s : _root_.Go.ChangeSpec) : _root_.Go.OpenSpec := { _root_.Go.OpenSpec.ofChange s with cond := some uptoSmall }

/-- 'watershedlaw4.TreeSpans', WHERE WHAT IT READS IS OF BULK AT MOST 1048576: true; the input reads as it did. -/
def treeSpansUptoRow : OpenClaim := { program := "ytjeddcijefnbfaa", sum := "8c1554fd896dada2b65f43eeee75ff6f0dc470bfaffcbf5b9faef5a90907e573", func := "watershed/watershedlaw4.TreeSpans", spec := "treeSpans", apart := false, narrowed := true }
def TreeSpansUptoSaid : Prop := treeSpansUptoRow.holds Try.pinned (OpenSpec.upto treeSpansSpec)

/-- 'watershedlaw4.TreeRight', WHERE WHAT IT READS IS OF BULK AT MOST 1048576: true; the input reads as it did. -/
def treeRightUptoRow : OpenClaim := { program := "ytjeddcijefnbfaa", sum := "8c1554fd896dada2b65f43eeee75ff6f0dc470bfaffcbf5b9faef5a90907e573", func := "watershed/watershedlaw4.TreeRight", spec := "treeRight", apart := false, narrowed := true }
def TreeRightUptoSaid : Prop := treeRightUptoRow.holds Try.pinned (OpenSpec.upto treeRightSpec)

/-- 'watershedlaw4.TreeLeft', WHERE WHAT IT READS IS OF BULK AT MOST 1048576: true; the input reads as it did. -/
def treeLeftUptoRow : OpenClaim := { program := "ytjeddcijefnbfaa", sum := "8c1554fd896dada2b65f43eeee75ff6f0dc470bfaffcbf5b9faef5a90907e573", func := "watershed/watershedlaw4.TreeLeft", spec := "treeLeft", apart := false, narrowed := true }
def TreeLeftUptoSaid : Prop := treeLeftUptoRow.holds Try.pinned (OpenSpec.upto treeLeftSpec)

/-- 'watershedlaw4.TreeWays', WHERE WHAT IT READS IS OF BULK AT MOST 1048576: true; the input reads as it did. -/
def treeWaysUptoRow : OpenClaim := { program := "ytjeddcijefnbfaa", sum := "8c1554fd896dada2b65f43eeee75ff6f0dc470bfaffcbf5b9faef5a90907e573", func := "watershed/watershedlaw4.TreeWays", spec := "treeWays", apart := false, narrowed := true }
def TreeWaysUptoSaid : Prop := treeWaysUptoRow.holds Try.pinned (OpenSpec.upto treeWaysSpec)

/-- 'watershedlaw4.TreeOwn', WHERE WHAT IT READS IS OF BULK AT MOST 1048576: true; the input reads as it did. -/
def treeOwnUptoRow : OpenClaim := { program := "ytjeddcijefnbfaa", sum := "8c1554fd896dada2b65f43eeee75ff6f0dc470bfaffcbf5b9faef5a90907e573", func := "watershed/watershedlaw4.TreeOwn", spec := "treeOwn", apart := false, narrowed := true }
def TreeOwnUptoSaid : Prop := treeOwnUptoRow.holds Try.pinned (OpenSpec.upto treeOwnSpec)

/-- 'watershedlaw4.TreeCounts', WHERE WHAT IT READS IS OF BULK AT MOST 1048576: true; the input reads as it did. -/
def treeCountsUptoRow : OpenClaim := { program := "ytjeddcijefnbfaa", sum := "8c1554fd896dada2b65f43eeee75ff6f0dc470bfaffcbf5b9faef5a90907e573", func := "watershed/watershedlaw4.TreeCounts", spec := "treeCounts", apart := false, narrowed := true }
def TreeCountsUptoSaid : Prop := treeCountsUptoRow.holds Try.pinned (OpenSpec.upto treeCountsSpec)

/-- 'watershedlaw4.TreeFirst', WHERE WHAT IT READS IS OF BULK AT MOST 1048576: true; the input reads as it did. -/
def treeFirstUptoRow : OpenClaim := { program := "ytjeddcijefnbfaa", sum := "8c1554fd896dada2b65f43eeee75ff6f0dc470bfaffcbf5b9faef5a90907e573", func := "watershed/watershedlaw4.TreeFirst", spec := "treeFirst", apart := false, narrowed := true }
def TreeFirstUptoSaid : Prop := treeFirstUptoRow.holds Try.pinned (OpenSpec.upto treeFirstSpec)

/-- 'watershedlaw4.TreeKnown', WHERE WHAT IT READS IS OF BULK AT MOST 1048576: true; the input reads as it did. -/
def treeKnownUptoRow : OpenClaim := { program := "ytjeddcijefnbfaa", sum := "8c1554fd896dada2b65f43eeee75ff6f0dc470bfaffcbf5b9faef5a90907e573", func := "watershed/watershedlaw4.TreeKnown", spec := "treeKnown", apart := false, narrowed := true }
def TreeKnownUptoSaid : Prop := treeKnownUptoRow.holds Try.pinned (OpenSpec.upto treeKnownSpec)

/-- 'watershedlaw4.TreeAny', WHERE WHAT IT READS IS OF BULK AT MOST 1048576: true; the input reads as it did. -/
def treeAnyUptoRow : OpenClaim := { program := "ytjeddcijefnbfaa", sum := "8c1554fd896dada2b65f43eeee75ff6f0dc470bfaffcbf5b9faef5a90907e573", func := "watershed/watershedlaw4.TreeAny", spec := "treeAny", apart := false, narrowed := true }
def TreeAnyUptoSaid : Prop := treeAnyUptoRow.holds Try.pinned (OpenSpec.upto treeAnySpec)

end Rows
end Go.Proofs.Ytjeddcijefnbfaa
