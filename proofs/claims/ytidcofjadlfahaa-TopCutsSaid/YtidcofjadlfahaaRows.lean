/-
  No cell of these rows narrows 'for every input' (looked for: loops, veiled, ifaces, maps, wideKeys, modest, calm, conditions, laid).
  DERIVED. THE GIVEN ROWS OF THIS SEAT. 3 by the template 'for every input the law returns true; each argument reads behind the call as it read before'; 0 by the template 'total and deterministic' (their statements: YtidcofjadlfahaaTotals.lean).
  GIVEN WITH THE SEED: the statements are not yours to turn. If you find one false, say at which input.
  Laid BY PROGRAM, IN A SANDBOX (cutbox-rows.mjs): the forced cells as the released guide's own fill.sh prints them over the translation 4bcff647467ddcc8… (all of the seat's roots in one cut). By AI agents, Wed Nov 11 2026. No macro, syntax, notation, axiom, sorry.
-/
import Derived.Test.YtidcofjadlfahaaChecked
import GoSem.Claim
import GoSem.ClaimJoined
import GoSem.ClaimMapViews
import Derived.JoinedTies
import Derived.KernelRfl
namespace Go.Proofs.Ytidcofjadlfahaa
/- THE CELL 'sum', in the pinned program and in every row, IS THE sha256 OF THE DUMP (.gsa) THAT YtidcofjadlfahaaProg.lean LOADS. Nothing in Lean hashes anything: it is a label: what it is worth is what the hold of that sum in a sandbox is worth. -/
noncomputable def Try.pinned : Pinned := { name := "ytidcofjadlfahaa", sum := "4bcff647467ddcc83345d0da37c309f4bdfb5f3b4709b741415d3de45a409b8d", checked := Try.checked }
namespace Rows
def none {H : Type} : Left H := { results := [], args := [] }

/-- 'watershedtop.TopCuts': WHATEVER THE INPUT: true; the input reads as it did. -/
def topCutsSpec : ChangeSpec := { name := "topCuts", fn := fun _ => fun
  | [d1, d2, d3, d4, d5] => { results := [.lit (.bool true)], args := [d1, d2, d3, d4, d5] }
  | _ => none }
def topCutsRow : OpenClaim := { program := "ytidcofjadlfahaa", sum := "4bcff647467ddcc83345d0da37c309f4bdfb5f3b4709b741415d3de45a409b8d", func := "watershed/watershedtop.TopCuts", spec := "topCuts", inPlace := ["math.Float64frombits", "math/bits.Add64"], unfollowed := true, recurses := true, apart := false }
def TopCutsSaid : Prop := topCutsRow.holds Try.pinned (OpenSpec.ofChange topCutsSpec)

/-- ITS FALSE NEIGHBOUR: 'it returns false'. Refute it at one input. -/
def topCutsWrong : ChangeSpec := { name := "topCuts", fn := fun _ => fun
  | [d1, d2, d3, d4, d5] => { results := [.lit (.bool false)], args := [d1, d2, d3, d4, d5] }
  | _ => none }
def TopCutsWrongFalsely : Prop := topCutsRow.holds Try.pinned (OpenSpec.ofChange topCutsWrong)

/-- 'watershedtop.TopDuality': WHATEVER THE INPUT: true; the input reads as it did. -/
def topDualitySpec : ChangeSpec := { name := "topDuality", fn := fun _ => fun
  | [d1, d2, d3] => { results := [.lit (.bool true)], args := [d1, d2, d3] }
  | _ => none }
def topDualityRow : OpenClaim := { program := "ytidcofjadlfahaa", sum := "4bcff647467ddcc83345d0da37c309f4bdfb5f3b4709b741415d3de45a409b8d", func := "watershed/watershedtop.TopDuality", spec := "topDuality", inPlace := ["math.Float64frombits", "math/bits.Add64"], unfollowed := true, recurses := true, apart := false }
def TopDualitySaid : Prop := topDualityRow.holds Try.pinned (OpenSpec.ofChange topDualitySpec)

/-- ITS FALSE NEIGHBOUR: 'it returns false'. Refute it at one input. -/
def topDualityWrong : ChangeSpec := { name := "topDuality", fn := fun _ => fun
  | [d1, d2, d3] => { results := [.lit (.bool false)], args := [d1, d2, d3] }
  | _ => none }
def TopDualityWrongFalsely : Prop := topDualityRow.holds Try.pinned (OpenSpec.ofChange topDualityWrong)

/-- 'watershedtop.TopSeen': WHATEVER THE INPUT: true; the input reads as it did. -/
def topSeenSpec : ChangeSpec := { name := "topSeen", fn := fun _ => fun
  | [d1, d2, d3] => { results := [.lit (.bool true)], args := [d1, d2, d3] }
  | _ => none }
def topSeenRow : OpenClaim := { program := "ytidcofjadlfahaa", sum := "4bcff647467ddcc83345d0da37c309f4bdfb5f3b4709b741415d3de45a409b8d", func := "watershed/watershedtop.TopSeen", spec := "topSeen", inPlace := ["math.Float64frombits", "math/bits.Add64"], unfollowed := true, recurses := true, apart := false }
def TopSeenSaid : Prop := topSeenRow.holds Try.pinned (OpenSpec.ofChange topSeenSpec)

/-- ITS FALSE NEIGHBOUR: 'it returns false'. Refute it at one input. -/
def topSeenWrong : ChangeSpec := { name := "topSeen", fn := fun _ => fun
  | [d1, d2, d3] => { results := [.lit (.bool false)], args := [d1, d2, d3] }
  | _ => none }
def TopSeenWrongFalsely : Prop := topSeenRow.holds Try.pinned (OpenSpec.ofChange topSeenWrong)

/- THE SECOND FORM. 'bulk': how many values and letters a reading holds, each counted each time it is reached (what is shared counts as often as it is met; a slice's spare places count too). A statement '..UptoSaid' is the law's where the arguments, and the package variables that the reading takes, are together of bulk at most 1048576: NARROWER than '..Said'. Prove '..Said' where nothing that the law and all that it calls make is longer than what came in: it says more and counts as full. Else prove '..UptoSaid'. A law counts once. -/
mutual
def uptoBulk {H : Type} : DataW H → Nat
  | .lit (.string bytes) => bytes.length + 1
  | .lit _ => 1
  | .nil => 1
  | .ptr d => uptoBulk d + 1
  | .slice elems spare => uptoBulkAll elems + uptoBulkAll spare + 1
  | .agg parts => uptoBulkAll parts + 1
  | .iface _ d => uptoBulk d + 1
  | .map entries => uptoBulkEntries entries + 1
  | .held _ => 1
def uptoBulkAll {H : Type} : List (DataW H) → Nat
  | [] => 0
  | d :: r => uptoBulk d + uptoBulkAll r
def uptoBulkEntries {H : Type} : List (Lit × DataW H) → Nat
  | [] => 0
  | x :: r => uptoBulkEntry x + uptoBulkEntries r
def uptoBulkEntry {H : Type} : Lit × DataW H → Nat
  | (.string bytes, d) => bytes.length + uptoBulk d + 1
  | (_, d) => uptoBulk d + 1
 end
def uptoSmall : (H : Type) → List (DataW H) → Bool := fun _ ds => decide (uptoBulkAll ds ≤ 1048576)
def OpenSpec.upto (s : _root_.Go.ChangeSpec) : _root_.Go.OpenSpec := { _root_.Go.OpenSpec.ofChange s with cond := some uptoSmall }

/-- 'watershedtop.TopCuts', WHERE WHAT IT READS IS OF BULK AT MOST 1048576: true; the input reads as it did. -/
def topCutsUptoRow : OpenClaim := { program := "ytidcofjadlfahaa", sum := "4bcff647467ddcc83345d0da37c309f4bdfb5f3b4709b741415d3de45a409b8d", func := "watershed/watershedtop.TopCuts", spec := "topCuts", inPlace := ["math.Float64frombits", "math/bits.Add64"], unfollowed := true, recurses := true, apart := false, narrowed := true }
def TopCutsUptoSaid : Prop := topCutsUptoRow.holds Try.pinned (OpenSpec.upto topCutsSpec)

/-- 'watershedtop.TopDuality', WHERE WHAT IT READS IS OF BULK AT MOST 1048576: true; the input reads as it did. -/
def topDualityUptoRow : OpenClaim := { program := "ytidcofjadlfahaa", sum := "4bcff647467ddcc83345d0da37c309f4bdfb5f3b4709b741415d3de45a409b8d", func := "watershed/watershedtop.TopDuality", spec := "topDuality", inPlace := ["math.Float64frombits", "math/bits.Add64"], unfollowed := true, recurses := true, apart := false, narrowed := true }
def TopDualityUptoSaid : Prop := topDualityUptoRow.holds Try.pinned (OpenSpec.upto topDualitySpec)

/-- 'watershedtop.TopSeen', WHERE WHAT IT READS IS OF BULK AT MOST 1048576: true; the input reads as it did. -/
def topSeenUptoRow : OpenClaim := { program := "ytidcofjadlfahaa", sum := "4bcff647467ddcc83345d0da37c309f4bdfb5f3b4709b741415d3de45a409b8d", func := "watershed/watershedtop.TopSeen", spec := "topSeen", inPlace := ["math.Float64frombits", "math/bits.Add64"], unfollowed := true, recurses := true, apart := false, narrowed := true }
def TopSeenUptoSaid : Prop := topSeenUptoRow.holds Try.pinned (OpenSpec.upto topSeenSpec)

end Rows
end Go.Proofs.Ytidcofjadlfahaa
