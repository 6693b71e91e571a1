/-
  NARROWER THAN 'FOR EVERY INPUT', by the rows' own cells (each row's printed sentence says how): GaugeOrder: laid · GaugeSorts: laid · GaugeTexts: laid · GaugeMeans: laid · GaugeKnown: laid · GaugeSigns: laid · GaugeEnds: laid · GaugeWhole: laid · GaugeSame: laid · GaugeShares: laid · GaugeOwn: laid.
  DERIVED. THE GIVEN ROWS OF THIS SEAT. 11 by the template 'for every input the law returns true; each argument reads behind the call as it read before'; 0 by the template 'total and deterministic' (their statements: YtpggfgkajkgcoaaDoorTotals.lean).
  GIVEN WITH THE SEED: the statements are not yours to turn. If you find one false, say at which input.
  Laid BY PROGRAM, IN A SANDBOX (cutbox-rows.mjs): the forced cells as the released guide's own fill.sh prints them over the translation d3d3a40ca045b2a1… (all of the seat's roots in one cut). By AI agents, Wed Nov 11 2026. No macro, syntax, notation, axiom, sorry.
-/
import Derived.Test.YtpggfgkajkgcoaaDoorChecked
import GoSem.Claim
import GoSem.ClaimJoined
import GoSem.ClaimMapViews
import Derived.JoinedTies
import Derived.KernelRfl
namespace Go.Proofs.YtpggfgkajkgcoaaDoor
/- THE CELL 'sum', in the pinned program and in every row, IS THE sha256 OF THE DUMP (.gsa) THAT YtpggfgkajkgcoaaDoorProg.lean LOADS. Nothing in Lean hashes anything: it is a label: what it is worth is what the hold of that sum in a sandbox is worth. -/
noncomputable def Tryd.pinned : Pinned := { name := "ytpggfgkajkgcoaadoor", sum := "d3d3a40ca045b2a17434155a4fa098d598a2e4cd343b8d312445037072670399", checked := Tryd.checked }
namespace Rows
def none {H : Type} : Left H := { results := [], args := [] }

/- WHAT THE LISTED PACKAGE-LEVEL VARIABLES READ AS WHEN THE CALL BEGINS. Each datum BY PROGRAM (the guide's laid-datum.mjs) off the statement by which the dump's own 'gosem.cut.vars' lays the variable. In a bare row this is a premise. The card (YtpggfgkajkgcoaaDoorCards.lean) ties it to the program's text. -/
def laid_math_bits_deBruijn32tab {H : Type} : DataW H := .agg [.lit (.int .u8 0), .lit (.int .u8 1), .lit (.int .u8 28), .lit (.int .u8 2), .lit (.int .u8 29), .lit (.int .u8 14), .lit (.int .u8 24), .lit (.int .u8 3), .lit (.int .u8 30), .lit (.int .u8 22), .lit (.int .u8 20), .lit (.int .u8 15), .lit (.int .u8 25), .lit (.int .u8 17), .lit (.int .u8 4), .lit (.int .u8 8), .lit (.int .u8 31), .lit (.int .u8 27), .lit (.int .u8 13), .lit (.int .u8 23), .lit (.int .u8 21), .lit (.int .u8 19), .lit (.int .u8 16), .lit (.int .u8 7), .lit (.int .u8 26), .lit (.int .u8 12), .lit (.int .u8 18), .lit (.int .u8 6), .lit (.int .u8 11), .lit (.int .u8 5), .lit (.int .u8 10), .lit (.int .u8 9)]
def laid_math_bits_deBruijn64tab {H : Type} : DataW H := .agg [.lit (.int .u8 0), .lit (.int .u8 1), .lit (.int .u8 56), .lit (.int .u8 2), .lit (.int .u8 57), .lit (.int .u8 49), .lit (.int .u8 28), .lit (.int .u8 3), .lit (.int .u8 61), .lit (.int .u8 58), .lit (.int .u8 42), .lit (.int .u8 50), .lit (.int .u8 38), .lit (.int .u8 29), .lit (.int .u8 17), .lit (.int .u8 4), .lit (.int .u8 62), .lit (.int .u8 47), .lit (.int .u8 59), .lit (.int .u8 36), .lit (.int .u8 45), .lit (.int .u8 43), .lit (.int .u8 51), .lit (.int .u8 22), .lit (.int .u8 53), .lit (.int .u8 39), .lit (.int .u8 33), .lit (.int .u8 30), .lit (.int .u8 24), .lit (.int .u8 18), .lit (.int .u8 12), .lit (.int .u8 5), .lit (.int .u8 63), .lit (.int .u8 55), .lit (.int .u8 48), .lit (.int .u8 27), .lit (.int .u8 60), .lit (.int .u8 41), .lit (.int .u8 37), .lit (.int .u8 16), .lit (.int .u8 46), .lit (.int .u8 35), .lit (.int .u8 44), .lit (.int .u8 21), .lit (.int .u8 52), .lit (.int .u8 32), .lit (.int .u8 23), .lit (.int .u8 11), .lit (.int .u8 54), .lit (.int .u8 26), .lit (.int .u8 40), .lit (.int .u8 15), .lit (.int .u8 34), .lit (.int .u8 20), .lit (.int .u8 31), .lit (.int .u8 10), .lit (.int .u8 25), .lit (.int .u8 14), .lit (.int .u8 19), .lit (.int .u8 9), .lit (.int .u8 13), .lit (.int .u8 8), .lit (.int .u8 7), .lit (.int .u8 6)]
def laid_internal_strconv_uint64pow10 {H : Type} : DataW H := .agg [.lit (.int .u64 1), .lit (.int .u64 10), .lit (.int .u64 100), .lit (.int .u64 1000), .lit (.int .u64 10000), .lit (.int .u64 100000), .lit (.int .u64 1000000), .lit (.int .u64 10000000), .lit (.int .u64 100000000), .lit (.int .u64 1000000000), .lit (.int .u64 10000000000), .lit (.int .u64 100000000000), .lit (.int .u64 1000000000000), .lit (.int .u64 10000000000000), .lit (.int .u64 100000000000000), .lit (.int .u64 1000000000000000), .lit (.int .u64 10000000000000000), .lit (.int .u64 100000000000000000), .lit (.int .u64 1000000000000000000), .lit (.int .u64 10000000000000000000)]

/-- 'watershedlaw12.GaugeOrder': WHATEVER THE INPUT: true; the input reads as it did. -/
def gaugeOrderSpec : ChangeSpec := { name := "gaugeOrder", fn := fun _ => fun
  | [d1, d2, d3, d4, d5, d6] => { results := [.lit (.bool true)], args := [d1, d2, d3, d4, d5, d6] }
  | _ => none }
def gaugeOrderRow : OpenClaim := { program := "ytpggfgkajkgcoaadoor", sum := "d3d3a40ca045b2a17434155a4fa098d598a2e4cd343b8d312445037072670399", func := "watershed/watershedlaw12.GaugeOrder", spec := "gaugeOrder", inPlace := ["math.Float64bits", "math.Float64frombits", "math.RoundToEven"], unfollowed := true, recurses := true, named := ["internal/strconv.uint64pow10", "math/bits.deBruijn32tab", "math/bits.deBruijn64tab"], apart := false, laid := [("math/bits.deBruijn32tab", laid_math_bits_deBruijn32tab), ("math/bits.deBruijn64tab", laid_math_bits_deBruijn64tab), ("internal/strconv.uint64pow10", laid_internal_strconv_uint64pow10)] }
def GaugeOrderSaid : Prop := gaugeOrderRow.holds Tryd.pinned (OpenSpec.ofChange gaugeOrderSpec)

/-- ITS FALSE NEIGHBOUR: 'it returns false'. Refute it at one input. -/
def gaugeOrderWrong : ChangeSpec := { name := "gaugeOrder", fn := fun _ => fun
  | [d1, d2, d3, d4, d5, d6] => { results := [.lit (.bool false)], args := [d1, d2, d3, d4, d5, d6] }
  | _ => none }
def GaugeOrderWrongFalsely : Prop := gaugeOrderRow.holds Tryd.pinned (OpenSpec.ofChange gaugeOrderWrong)

/-- 'watershedlaw12.GaugeSorts': WHATEVER THE INPUT: true; the input reads as it did. -/
def gaugeSortsSpec : ChangeSpec := { name := "gaugeSorts", fn := fun _ => fun
  | [d1, d2, d3, d4] => { results := [.lit (.bool true)], args := [d1, d2, d3, d4] }
  | _ => none }
def gaugeSortsRow : OpenClaim := { program := "ytpggfgkajkgcoaadoor", sum := "d3d3a40ca045b2a17434155a4fa098d598a2e4cd343b8d312445037072670399", func := "watershed/watershedlaw12.GaugeSorts", spec := "gaugeSorts", inPlace := ["math.Float64bits", "math.Float64frombits", "math.RoundToEven"], unfollowed := true, recurses := true, named := ["internal/strconv.uint64pow10", "math/bits.deBruijn32tab", "math/bits.deBruijn64tab"], apart := false, laid := [("math/bits.deBruijn32tab", laid_math_bits_deBruijn32tab), ("math/bits.deBruijn64tab", laid_math_bits_deBruijn64tab), ("internal/strconv.uint64pow10", laid_internal_strconv_uint64pow10)] }
def GaugeSortsSaid : Prop := gaugeSortsRow.holds Tryd.pinned (OpenSpec.ofChange gaugeSortsSpec)

/-- ITS FALSE NEIGHBOUR: 'it returns false'. Refute it at one input. -/
def gaugeSortsWrong : ChangeSpec := { name := "gaugeSorts", fn := fun _ => fun
  | [d1, d2, d3, d4] => { results := [.lit (.bool false)], args := [d1, d2, d3, d4] }
  | _ => none }
def GaugeSortsWrongFalsely : Prop := gaugeSortsRow.holds Tryd.pinned (OpenSpec.ofChange gaugeSortsWrong)

/-- 'watershedlaw12.GaugeTexts': WHATEVER THE INPUT: true; the input reads as it did. -/
def gaugeTextsSpec : ChangeSpec := { name := "gaugeTexts", fn := fun _ => fun
  | [d1, d2, d3, d4] => { results := [.lit (.bool true)], args := [d1, d2, d3, d4] }
  | _ => none }
def gaugeTextsRow : OpenClaim := { program := "ytpggfgkajkgcoaadoor", sum := "d3d3a40ca045b2a17434155a4fa098d598a2e4cd343b8d312445037072670399", func := "watershed/watershedlaw12.GaugeTexts", spec := "gaugeTexts", inPlace := ["math.Float64bits", "math.Float64frombits", "math.RoundToEven"], unfollowed := true, recurses := true, named := ["internal/strconv.uint64pow10", "math/bits.deBruijn32tab", "math/bits.deBruijn64tab"], apart := false, laid := [("math/bits.deBruijn32tab", laid_math_bits_deBruijn32tab), ("math/bits.deBruijn64tab", laid_math_bits_deBruijn64tab), ("internal/strconv.uint64pow10", laid_internal_strconv_uint64pow10)] }
def GaugeTextsSaid : Prop := gaugeTextsRow.holds Tryd.pinned (OpenSpec.ofChange gaugeTextsSpec)

/-- ITS FALSE NEIGHBOUR: 'it returns false'. Refute it at one input. -/
def gaugeTextsWrong : ChangeSpec := { name := "gaugeTexts", fn := fun _ => fun
  | [d1, d2, d3, d4] => { results := [.lit (.bool false)], args := [d1, d2, d3, d4] }
  | _ => none }
def GaugeTextsWrongFalsely : Prop := gaugeTextsRow.holds Tryd.pinned (OpenSpec.ofChange gaugeTextsWrong)

/-- 'watershedlaw12.GaugeMeans': WHATEVER THE INPUT: true; the input reads as it did. -/
def gaugeMeansSpec : ChangeSpec := { name := "gaugeMeans", fn := fun _ => fun
  | [d1, d2, d3] => { results := [.lit (.bool true)], args := [d1, d2, d3] }
  | _ => none }
def gaugeMeansRow : OpenClaim := { program := "ytpggfgkajkgcoaadoor", sum := "d3d3a40ca045b2a17434155a4fa098d598a2e4cd343b8d312445037072670399", func := "watershed/watershedlaw12.GaugeMeans", spec := "gaugeMeans", inPlace := ["math.Float64bits", "math.Float64frombits", "math.RoundToEven"], unfollowed := true, recurses := true, named := ["internal/strconv.uint64pow10", "math/bits.deBruijn32tab", "math/bits.deBruijn64tab"], apart := false, laid := [("math/bits.deBruijn32tab", laid_math_bits_deBruijn32tab), ("math/bits.deBruijn64tab", laid_math_bits_deBruijn64tab), ("internal/strconv.uint64pow10", laid_internal_strconv_uint64pow10)] }
def GaugeMeansSaid : Prop := gaugeMeansRow.holds Tryd.pinned (OpenSpec.ofChange gaugeMeansSpec)

/-- ITS FALSE NEIGHBOUR: 'it returns false'. Refute it at one input. -/
def gaugeMeansWrong : ChangeSpec := { name := "gaugeMeans", fn := fun _ => fun
  | [d1, d2, d3] => { results := [.lit (.bool false)], args := [d1, d2, d3] }
  | _ => none }
def GaugeMeansWrongFalsely : Prop := gaugeMeansRow.holds Tryd.pinned (OpenSpec.ofChange gaugeMeansWrong)

/-- 'watershedlaw12.GaugeKnown': WHATEVER THE INPUT: true; the input reads as it did. -/
def gaugeKnownSpec : ChangeSpec := { name := "gaugeKnown", fn := fun _ => fun
  | [d] => { results := [.lit (.bool true)], args := [d] }
  | _ => none }
def gaugeKnownRow : OpenClaim := { program := "ytpggfgkajkgcoaadoor", sum := "d3d3a40ca045b2a17434155a4fa098d598a2e4cd343b8d312445037072670399", func := "watershed/watershedlaw12.GaugeKnown", spec := "gaugeKnown", inPlace := ["math.Float64bits", "math.Float64frombits", "math.RoundToEven"], unfollowed := true, recurses := true, named := ["internal/strconv.uint64pow10", "math/bits.deBruijn32tab", "math/bits.deBruijn64tab"], apart := false, laid := [("math/bits.deBruijn32tab", laid_math_bits_deBruijn32tab), ("math/bits.deBruijn64tab", laid_math_bits_deBruijn64tab), ("internal/strconv.uint64pow10", laid_internal_strconv_uint64pow10)] }
def GaugeKnownSaid : Prop := gaugeKnownRow.holds Tryd.pinned (OpenSpec.ofChange gaugeKnownSpec)

/-- ITS FALSE NEIGHBOUR: 'it returns false'. Refute it at one input. -/
def gaugeKnownWrong : ChangeSpec := { name := "gaugeKnown", fn := fun _ => fun
  | [d] => { results := [.lit (.bool false)], args := [d] }
  | _ => none }
def GaugeKnownWrongFalsely : Prop := gaugeKnownRow.holds Tryd.pinned (OpenSpec.ofChange gaugeKnownWrong)

/-- 'watershedlaw12.GaugeSigns': WHATEVER THE INPUT: true; the input reads as it did. -/
def gaugeSignsSpec : ChangeSpec := { name := "gaugeSigns", fn := fun _ => fun
  | [d1, d2] => { results := [.lit (.bool true)], args := [d1, d2] }
  | _ => none }
def gaugeSignsRow : OpenClaim := { program := "ytpggfgkajkgcoaadoor", sum := "d3d3a40ca045b2a17434155a4fa098d598a2e4cd343b8d312445037072670399", func := "watershed/watershedlaw12.GaugeSigns", spec := "gaugeSigns", inPlace := ["math.Float64bits", "math.Float64frombits", "math.RoundToEven"], unfollowed := true, recurses := true, named := ["internal/strconv.uint64pow10", "math/bits.deBruijn32tab", "math/bits.deBruijn64tab"], apart := false, laid := [("math/bits.deBruijn32tab", laid_math_bits_deBruijn32tab), ("math/bits.deBruijn64tab", laid_math_bits_deBruijn64tab), ("internal/strconv.uint64pow10", laid_internal_strconv_uint64pow10)] }
def GaugeSignsSaid : Prop := gaugeSignsRow.holds Tryd.pinned (OpenSpec.ofChange gaugeSignsSpec)

/-- ITS FALSE NEIGHBOUR: 'it returns false'. Refute it at one input. -/
def gaugeSignsWrong : ChangeSpec := { name := "gaugeSigns", fn := fun _ => fun
  | [d1, d2] => { results := [.lit (.bool false)], args := [d1, d2] }
  | _ => none }
def GaugeSignsWrongFalsely : Prop := gaugeSignsRow.holds Tryd.pinned (OpenSpec.ofChange gaugeSignsWrong)

/-- 'watershedlaw12.GaugeEnds': WHATEVER THE INPUT: true; the input reads as it did. -/
def gaugeEndsSpec : ChangeSpec := { name := "gaugeEnds", fn := fun _ => fun
  | [d1, d2, d3] => { results := [.lit (.bool true)], args := [d1, d2, d3] }
  | _ => none }
def gaugeEndsRow : OpenClaim := { program := "ytpggfgkajkgcoaadoor", sum := "d3d3a40ca045b2a17434155a4fa098d598a2e4cd343b8d312445037072670399", func := "watershed/watershedlaw12.GaugeEnds", spec := "gaugeEnds", inPlace := ["math.Float64bits", "math.Float64frombits", "math.RoundToEven"], unfollowed := true, recurses := true, named := ["internal/strconv.uint64pow10", "math/bits.deBruijn32tab", "math/bits.deBruijn64tab"], apart := false, laid := [("math/bits.deBruijn32tab", laid_math_bits_deBruijn32tab), ("math/bits.deBruijn64tab", laid_math_bits_deBruijn64tab), ("internal/strconv.uint64pow10", laid_internal_strconv_uint64pow10)] }
def GaugeEndsSaid : Prop := gaugeEndsRow.holds Tryd.pinned (OpenSpec.ofChange gaugeEndsSpec)

/-- ITS FALSE NEIGHBOUR: 'it returns false'. Refute it at one input. -/
def gaugeEndsWrong : ChangeSpec := { name := "gaugeEnds", fn := fun _ => fun
  | [d1, d2, d3] => { results := [.lit (.bool false)], args := [d1, d2, d3] }
  | _ => none }
def GaugeEndsWrongFalsely : Prop := gaugeEndsRow.holds Tryd.pinned (OpenSpec.ofChange gaugeEndsWrong)

/-- 'watershedlaw12.GaugeWhole': WHATEVER THE INPUT: true; the input reads as it did. -/
def gaugeWholeSpec : ChangeSpec := { name := "gaugeWhole", fn := fun _ => fun
  | [d1, d2] => { results := [.lit (.bool true)], args := [d1, d2] }
  | _ => none }
def gaugeWholeRow : OpenClaim := { program := "ytpggfgkajkgcoaadoor", sum := "d3d3a40ca045b2a17434155a4fa098d598a2e4cd343b8d312445037072670399", func := "watershed/watershedlaw12.GaugeWhole", spec := "gaugeWhole", inPlace := ["math.Float64bits", "math.Float64frombits", "math.RoundToEven"], unfollowed := true, recurses := true, named := ["internal/strconv.uint64pow10", "math/bits.deBruijn32tab", "math/bits.deBruijn64tab"], apart := false, laid := [("math/bits.deBruijn32tab", laid_math_bits_deBruijn32tab), ("math/bits.deBruijn64tab", laid_math_bits_deBruijn64tab), ("internal/strconv.uint64pow10", laid_internal_strconv_uint64pow10)] }
def GaugeWholeSaid : Prop := gaugeWholeRow.holds Tryd.pinned (OpenSpec.ofChange gaugeWholeSpec)

/-- ITS FALSE NEIGHBOUR: 'it returns false'. Refute it at one input. -/
def gaugeWholeWrong : ChangeSpec := { name := "gaugeWhole", fn := fun _ => fun
  | [d1, d2] => { results := [.lit (.bool false)], args := [d1, d2] }
  | _ => none }
def GaugeWholeWrongFalsely : Prop := gaugeWholeRow.holds Tryd.pinned (OpenSpec.ofChange gaugeWholeWrong)

/-- 'watershedlaw12.GaugeSame': WHATEVER THE INPUT: true; the input reads as it did. -/
def gaugeSameSpec : ChangeSpec := { name := "gaugeSame", fn := fun _ => fun
  | [d1, d2, d3, d4] => { results := [.lit (.bool true)], args := [d1, d2, d3, d4] }
  | _ => none }
def gaugeSameRow : OpenClaim := { program := "ytpggfgkajkgcoaadoor", sum := "d3d3a40ca045b2a17434155a4fa098d598a2e4cd343b8d312445037072670399", func := "watershed/watershedlaw12.GaugeSame", spec := "gaugeSame", inPlace := ["math.Float64bits", "math.Float64frombits", "math.RoundToEven"], unfollowed := true, recurses := true, named := ["internal/strconv.uint64pow10", "math/bits.deBruijn32tab", "math/bits.deBruijn64tab"], apart := false, laid := [("math/bits.deBruijn32tab", laid_math_bits_deBruijn32tab), ("math/bits.deBruijn64tab", laid_math_bits_deBruijn64tab), ("internal/strconv.uint64pow10", laid_internal_strconv_uint64pow10)] }
def GaugeSameSaid : Prop := gaugeSameRow.holds Tryd.pinned (OpenSpec.ofChange gaugeSameSpec)

/-- ITS FALSE NEIGHBOUR: 'it returns false'. Refute it at one input. -/
def gaugeSameWrong : ChangeSpec := { name := "gaugeSame", fn := fun _ => fun
  | [d1, d2, d3, d4] => { results := [.lit (.bool false)], args := [d1, d2, d3, d4] }
  | _ => none }
def GaugeSameWrongFalsely : Prop := gaugeSameRow.holds Tryd.pinned (OpenSpec.ofChange gaugeSameWrong)

/-- 'watershedlaw12.GaugeShares': WHATEVER THE INPUT: true; the input reads as it did. -/
def gaugeSharesSpec : ChangeSpec := { name := "gaugeShares", fn := fun _ => fun
  | [d1, d2, d3, d4] => { results := [.lit (.bool true)], args := [d1, d2, d3, d4] }
  | _ => none }
def gaugeSharesRow : OpenClaim := { program := "ytpggfgkajkgcoaadoor", sum := "d3d3a40ca045b2a17434155a4fa098d598a2e4cd343b8d312445037072670399", func := "watershed/watershedlaw12.GaugeShares", spec := "gaugeShares", inPlace := ["math.Float64bits", "math.Float64frombits", "math.RoundToEven"], unfollowed := true, recurses := true, named := ["internal/strconv.uint64pow10", "math/bits.deBruijn32tab", "math/bits.deBruijn64tab"], apart := false, laid := [("math/bits.deBruijn32tab", laid_math_bits_deBruijn32tab), ("math/bits.deBruijn64tab", laid_math_bits_deBruijn64tab), ("internal/strconv.uint64pow10", laid_internal_strconv_uint64pow10)] }
def GaugeSharesSaid : Prop := gaugeSharesRow.holds Tryd.pinned (OpenSpec.ofChange gaugeSharesSpec)

/-- ITS FALSE NEIGHBOUR: 'it returns false'. Refute it at one input. -/
def gaugeSharesWrong : ChangeSpec := { name := "gaugeShares", fn := fun _ => fun
  | [d1, d2, d3, d4] => { results := [.lit (.bool false)], args := [d1, d2, d3, d4] }
  | _ => none }
def GaugeSharesWrongFalsely : Prop := gaugeSharesRow.holds Tryd.pinned (OpenSpec.ofChange gaugeSharesWrong)

/-- 'watershedlaw12.GaugeOwn': WHATEVER THE INPUT: true; the input reads as it did. -/
def gaugeOwnSpec : ChangeSpec := { name := "gaugeOwn", fn := fun _ => fun
  | [d1, d2, d3] => { results := [.lit (.bool true)], args := [d1, d2, d3] }
  | _ => none }
def gaugeOwnRow : OpenClaim := { program := "ytpggfgkajkgcoaadoor", sum := "d3d3a40ca045b2a17434155a4fa098d598a2e4cd343b8d312445037072670399", func := "watershed/watershedlaw12.GaugeOwn", spec := "gaugeOwn", inPlace := ["math.Float64bits", "math.Float64frombits", "math.RoundToEven"], unfollowed := true, recurses := true, named := ["internal/strconv.uint64pow10", "math/bits.deBruijn32tab", "math/bits.deBruijn64tab"], apart := false, laid := [("math/bits.deBruijn32tab", laid_math_bits_deBruijn32tab), ("math/bits.deBruijn64tab", laid_math_bits_deBruijn64tab), ("internal/strconv.uint64pow10", laid_internal_strconv_uint64pow10)] }
def GaugeOwnSaid : Prop := gaugeOwnRow.holds Tryd.pinned (OpenSpec.ofChange gaugeOwnSpec)

/-- ITS FALSE NEIGHBOUR: 'it returns false'. Refute it at one input. -/
def gaugeOwnWrong : ChangeSpec := { name := "gaugeOwn", fn := fun _ => fun
  | [d1, d2, d3] => { results := [.lit (.bool false)], args := [d1, d2, d3] }
  | _ => none }
def GaugeOwnWrongFalsely : Prop := gaugeOwnRow.holds Tryd.pinned (OpenSpec.ofChange gaugeOwnWrong)

/- THE SECOND FORM. 'bulk': how many values and letters a reading holds, each counted each time it is reached (what is shared counts as often as it is met; a slice's spare places count too). A statement '..UptoSaid' is the law's where the arguments, and the package variables that the reading takes, are together of bulk at most 1048576: NARROWER than '..Said'. Prove '..Said' where nothing that the law and all that it calls make is longer than what came in: it says more and counts as full. Else prove '..UptoSaid'. A law counts once. -/
mutual
def uptoBulk {H : Type} : DataW H → Nat
  | .lit (.string bytes) => bytes.length + 1
  | .lit _ => 1
  | .nil => 1
  | .ptr d => uptoBulk d + 1
  | .slice elems spare => uptoBulkAll elems + uptoBulkAll spare + 1
  | .agg parts => uptoBulkAll parts + 1
  | .iface _ d => uptoBulk d + 1
  | .map entries => uptoBulkEntries entries + 1
  | .held _ => 1
def uptoBulkAll {H : Type} : List (DataW H) → Nat
  | [] => 0
  | d :: r => uptoBulk d + uptoBulkAll r
def uptoBulkEntries {H : Type} : List (Lit × DataW H) → Nat
  | [] => 0
  | x :: r => uptoBulkEntry x + uptoBulkEntries r
def uptoBulkEntry {H : Type} : Lit × DataW H → Nat
  | (.string bytes, d) => bytes.length + uptoBulk d + 1
  | (_, d) => uptoBulk d + 1
 end
def uptoSmall : (H : Type) → List (DataW H) → Bool := fun _ ds => decide (uptoBulkAll ds ≤ 1048576)
def OpenSpec.upto (s : _root_.Go.ChangeSpec) : _root_.Go.OpenSpec := { _root_.Go.OpenSpec.ofChange s with cond := some uptoSmall }

/-- 'watershedlaw12.GaugeOrder', WHERE WHAT IT READS IS OF BULK AT MOST 1048576: true; the input reads as it did. -/
def gaugeOrderUptoRow : OpenClaim := { program := "ytpggfgkajkgcoaadoor", sum := "d3d3a40ca045b2a17434155a4fa098d598a2e4cd343b8d312445037072670399", func := "watershed/watershedlaw12.GaugeOrder", spec := "gaugeOrder", inPlace := ["math.Float64bits", "math.Float64frombits", "math.RoundToEven"], unfollowed := true, recurses := true, named := ["internal/strconv.uint64pow10", "math/bits.deBruijn32tab", "math/bits.deBruijn64tab"], apart := false, laid := [("math/bits.deBruijn32tab", laid_math_bits_deBruijn32tab), ("math/bits.deBruijn64tab", laid_math_bits_deBruijn64tab), ("internal/strconv.uint64pow10", laid_internal_strconv_uint64pow10)], narrowed := true }
def GaugeOrderUptoSaid : Prop := gaugeOrderUptoRow.holds Tryd.pinned (OpenSpec.upto gaugeOrderSpec)

/-- 'watershedlaw12.GaugeSorts', WHERE WHAT IT READS IS OF BULK AT MOST 1048576: true; the input reads as it did. -/
def gaugeSortsUptoRow : OpenClaim := { program := "ytpggfgkajkgcoaadoor", sum := "d3d3a40ca045b2a17434155a4fa098d598a2e4cd343b8d312445037072670399", func := "watershed/watershedlaw12.GaugeSorts", spec := "gaugeSorts", inPlace := ["math.Float64bits", "math.Float64frombits", "math.RoundToEven"], unfollowed := true, recurses := true, named := ["internal/strconv.uint64pow10", "math/bits.deBruijn32tab", "math/bits.deBruijn64tab"], apart := false, laid := [("math/bits.deBruijn32tab", laid_math_bits_deBruijn32tab), ("math/bits.deBruijn64tab", laid_math_bits_deBruijn64tab), ("internal/strconv.uint64pow10", laid_internal_strconv_uint64pow10)], narrowed := true }
def GaugeSortsUptoSaid : Prop := gaugeSortsUptoRow.holds Tryd.pinned (OpenSpec.upto gaugeSortsSpec)

/-- 'watershedlaw12.GaugeTexts', WHERE WHAT IT READS IS OF BULK AT MOST 1048576: true; the input reads as it did. -/
def gaugeTextsUptoRow : OpenClaim := { program := "ytpggfgkajkgcoaadoor", sum := "d3d3a40ca045b2a17434155a4fa098d598a2e4cd343b8d312445037072670399", func := "watershed/watershedlaw12.GaugeTexts", spec := "gaugeTexts", inPlace := ["math.Float64bits", "math.Float64frombits", "math.RoundToEven"], unfollowed := true, recurses := true, named := ["internal/strconv.uint64pow10", "math/bits.deBruijn32tab", "math/bits.deBruijn64tab"], apart := false, laid := [("math/bits.deBruijn32tab", laid_math_bits_deBruijn32tab), ("math/bits.deBruijn64tab", laid_math_bits_deBruijn64tab), ("internal/strconv.uint64pow10", laid_internal_strconv_uint64pow10)], narrowed := true }
def GaugeTextsUptoSaid : Prop := gaugeTextsUptoRow.holds Tryd.pinned (OpenSpec.upto gaugeTextsSpec)

/-- 'watershedlaw12.GaugeMeans', WHERE WHAT IT READS IS OF BULK AT MOST 1048576: true; the input reads as it did. -/
def gaugeMeansUptoRow : OpenClaim := { program := "ytpggfgkajkgcoaadoor", sum := "d3d3a40ca045b2a17434155a4fa098d598a2e4cd343b8d312445037072670399", func := "watershed/watershedlaw12.GaugeMeans", spec := "gaugeMeans", inPlace := ["math.Float64bits", "math.Float64frombits", "math.RoundToEven"], unfollowed := true, recurses := true, named := ["internal/strconv.uint64pow10", "math/bits.deBruijn32tab", "math/bits.deBruijn64tab"], apart := false, laid := [("math/bits.deBruijn32tab", laid_math_bits_deBruijn32tab), ("math/bits.deBruijn64tab", laid_math_bits_deBruijn64tab), ("internal/strconv.uint64pow10", laid_internal_strconv_uint64pow10)], narrowed := true }
def GaugeMeansUptoSaid : Prop := gaugeMeansUptoRow.holds Tryd.pinned (OpenSpec.upto gaugeMeansSpec)

/-- 'watershedlaw12.GaugeKnown', WHERE WHAT IT READS IS OF BULK AT MOST 1048576: true; the input reads as it did. -/
def gaugeKnownUptoRow : OpenClaim := { program := "ytpggfgkajkgcoaadoor", sum := "d3d3a40ca045b2a17434155a4fa098d598a2e4cd343b8d312445037072670399", func := "watershed/watershedlaw12.GaugeKnown", spec := "gaugeKnown", inPlace := ["math.Float64bits", "math.Float64frombits", "math.RoundToEven"], unfollowed := true, recurses := true, named := ["internal/strconv.uint64pow10", "math/bits.deBruijn32tab", "math/bits.deBruijn64tab"], apart := false, laid := [("math/bits.deBruijn32tab", laid_math_bits_deBruijn32tab), ("math/bits.deBruijn64tab", laid_math_bits_deBruijn64tab), ("internal/strconv.uint64pow10", laid_internal_strconv_uint64pow10)], narrowed := true }
def GaugeKnownUptoSaid : Prop := gaugeKnownUptoRow.holds Tryd.pinned (OpenSpec.upto gaugeKnownSpec)

/-- 'watershedlaw12.GaugeSigns', WHERE WHAT IT READS IS OF BULK AT MOST 1048576: true; the input reads as it did. -/
def gaugeSignsUptoRow : OpenClaim := { program := "ytpggfgkajkgcoaadoor", sum := "d3d3a40ca045b2a17434155a4fa098d598a2e4cd343b8d312445037072670399", func := "watershed/watershedlaw12.GaugeSigns", spec := "gaugeSigns", inPlace := ["math.Float64bits", "math.Float64frombits", "math.RoundToEven"], unfollowed := true, recurses := true, named := ["internal/strconv.uint64pow10", "math/bits.deBruijn32tab", "math/bits.deBruijn64tab"], apart := false, laid := [("math/bits.deBruijn32tab", laid_math_bits_deBruijn32tab), ("math/bits.deBruijn64tab", laid_math_bits_deBruijn64tab), ("internal/strconv.uint64pow10", laid_internal_strconv_uint64pow10)], narrowed := true }
def GaugeSignsUptoSaid : Prop := gaugeSignsUptoRow.holds Tryd.pinned (OpenSpec.upto gaugeSignsSpec)

/-- 'watershedlaw12.GaugeEnds', WHERE WHAT IT READS IS OF BULK AT MOST 1048576: true; the input reads as it did. -/
def gaugeEndsUptoRow : OpenClaim := { program := "ytpggfgkajkgcoaadoor", sum := "d3d3a40ca045b2a17434155a4fa098d598a2e4cd343b8d312445037072670399", func := "watershed/watershedlaw12.GaugeEnds", spec := "gaugeEnds", inPlace := ["math.Float64bits", "math.Float64frombits", "math.RoundToEven"], unfollowed := true, recurses := true, named := ["internal/strconv.uint64pow10", "math/bits.deBruijn32tab", "math/bits.deBruijn64tab"], apart := false, laid := [("math/bits.deBruijn32tab", laid_math_bits_deBruijn32tab), ("math/bits.deBruijn64tab", laid_math_bits_deBruijn64tab), ("internal/strconv.uint64pow10", laid_internal_strconv_uint64pow10)], narrowed := true }
def GaugeEndsUptoSaid : Prop := gaugeEndsUptoRow.holds Tryd.pinned (OpenSpec.upto gaugeEndsSpec)

/-- 'watershedlaw12.GaugeWhole', WHERE WHAT IT READS IS OF BULK AT MOST 1048576: true; the input reads as it did. -/
def gaugeWholeUptoRow : OpenClaim := { program := "ytpggfgkajkgcoaadoor", sum := "d3d3a40ca045b2a17434155a4fa098d598a2e4cd343b8d312445037072670399", func := "watershed/watershedlaw12.GaugeWhole", spec := "gaugeWhole", inPlace := ["math.Float64bits", "math.Float64frombits", "math.RoundToEven"], unfollowed := true, recurses := true, named := ["internal/strconv.uint64pow10", "math/bits.deBruijn32tab", "math/bits.deBruijn64tab"], apart := false, laid := [("math/bits.deBruijn32tab", laid_math_bits_deBruijn32tab), ("math/bits.deBruijn64tab", laid_math_bits_deBruijn64tab), ("internal/strconv.uint64pow10", laid_internal_strconv_uint64pow10)], narrowed := true }
def GaugeWholeUptoSaid : Prop := gaugeWholeUptoRow.holds Tryd.pinned (OpenSpec.upto gaugeWholeSpec)

/-- 'watershedlaw12.GaugeSame', WHERE WHAT IT READS IS OF BULK AT MOST 1048576: true; the input reads as it did. -/
def gaugeSameUptoRow : OpenClaim := { program := "ytpggfgkajkgcoaadoor", sum := "d3d3a40ca045b2a17434155a4fa098d598a2e4cd343b8d312445037072670399", func := "watershed/watershedlaw12.GaugeSame", spec := "gaugeSame", inPlace := ["math.Float64bits", "math.Float64frombits", "math.RoundToEven"], unfollowed := true, recurses := true, named := ["internal/strconv.uint64pow10", "math/bits.deBruijn32tab", "math/bits.deBruijn64tab"], apart := false, laid := [("math/bits.deBruijn32tab", laid_math_bits_deBruijn32tab), ("math/bits.deBruijn64tab", laid_math_bits_deBruijn64tab), ("internal/strconv.uint64pow10", laid_internal_strconv_uint64pow10)], narrowed := true }
def GaugeSameUptoSaid : Prop := gaugeSameUptoRow.holds Tryd.pinned (OpenSpec.upto gaugeSameSpec)

/-- 'watershedlaw12.GaugeShares', WHERE WHAT IT READS IS OF BULK AT MOST 1048576: true; the input reads as it did. -/
def gaugeSharesUptoRow : OpenClaim := { program := "ytpggfgkajkgcoaadoor", sum := "d3d3a40ca045b2a17434155a4fa098d598a2e4cd343b8d312445037072670399", func := "watershed/watershedlaw12.GaugeShares", spec := "gaugeShares", inPlace := ["math.Float64bits", "math.Float64frombits", "math.RoundToEven"], unfollowed := true, recurses := true, named := ["internal/strconv.uint64pow10", "math/bits.deBruijn32tab", "math/bits.deBruijn64tab"], apart := false, laid := [("math/bits.deBruijn32tab", laid_math_bits_deBruijn32tab), ("math/bits.deBruijn64tab", laid_math_bits_deBruijn64tab), ("internal/strconv.uint64pow10", laid_internal_strconv_uint64pow10)], narrowed := true }
def GaugeSharesUptoSaid : Prop := gaugeSharesUptoRow.holds Tryd.pinned (OpenSpec.upto gaugeSharesSpec)

/-- 'watershedlaw12.GaugeOwn', WHERE WHAT IT READS IS OF BULK AT MOST 1048576: true; the input reads as it did. -/
def gaugeOwnUptoRow : OpenClaim := { program := "ytpggfgkajkgcoaadoor", sum := "d3d3a40ca045b2a17434155a4fa098d598a2e4cd343b8d312445037072670399", func := "watershed/watershedlaw12.GaugeOwn", spec := "gaugeOwn", inPlace := ["math.Float64bits", "math.Float64frombits", "math.RoundToEven"], unfollowed := true, recurses := true, named := ["internal/strconv.uint64pow10", "math/bits.deBruijn32tab", "math/bits.deBruijn64tab"], apart := false, laid := [("math/bits.deBruijn32tab", laid_math_bits_deBruijn32tab), ("math/bits.deBruijn64tab", laid_math_bits_deBruijn64tab), ("internal/strconv.uint64pow10", laid_internal_strconv_uint64pow10)], narrowed := true }
def GaugeOwnUptoSaid : Prop := gaugeOwnUptoRow.holds Tryd.pinned (OpenSpec.upto gaugeOwnSpec)

end Rows
end Go.Proofs.YtpggfgkajkgcoaaDoor
