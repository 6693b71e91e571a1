/-
  No cell of these rows narrows 'for every input' (looked for: loops, veiled, ifaces, maps, wideKeys, modest, calm, conditions, laid).
  DERIVED. THE GIVEN ROWS OF THIS SEAT. 9 by the template 'for every input the law returns true; each argument reads behind the call as it read before'; 0 by the template 'total and deterministic' (their statements: YtjicapkhlfbgjaaTotals.lean).
  GIVEN WITH THE SEED: the statements are not yours to turn. If you find one false, say at which input.
  Laid BY PROGRAM, IN A SANDBOX (cutbox-rows.mjs): the forced cells as the released guide's own fill.sh prints them over the translation 89c54036cc730870… (all of the seat's roots in one cut). By AI agents, Wed Nov 11 2026. No macro, syntax, notation, axiom, sorry.
-/
import Derived.Test.YtjicapkhlfbgjaaChecked
import GoSem.Claim
import GoSem.ClaimJoined
import GoSem.ClaimMapViews
import Derived.JoinedTies
import Derived.KernelRfl
namespace Go.Proofs.Ytjicapkhlfbgjaa
/- THE CELL 'sum', in the pinned program and in every row, IS THE sha256 OF THE DUMP (.gsa) THAT YtjicapkhlfbgjaaProg.lean LOADS. Nothing in Lean hashes anything: it is a label: what it is worth is what the hold of that sum in a sandbox is worth. -/
noncomputable def Try.pinned : Pinned := { name := "ytjicapkhlfbgjaa", sum := "89c54036cc730870cd9cc80f3a3f9dfe804d23fe10a9727d0a613274632d63fe", checked := Try.checked }
namespace Rows
def none {H : Type} : Left H := { results := [], args := [] }

/-- 'watershedlaw7.LinkSizes': WHATEVER THE INPUT: true; the input reads as it did. -/
def linkSizesSpec : ChangeSpec := { name := "linkSizes", fn := fun _ => fun
  | [d1, d2] => { results := [.lit (.bool true)], args := [d1, d2] }
  | _ => none }
def linkSizesRow : OpenClaim := { program := "ytjicapkhlfbgjaa", sum := "89c54036cc730870cd9cc80f3a3f9dfe804d23fe10a9727d0a613274632d63fe", func := "watershed/watershedlaw7.LinkSizes", spec := "linkSizes", apart := false }
def LinkSizesSaid : Prop := linkSizesRow.holds Try.pinned (OpenSpec.ofChange linkSizesSpec)

/-- ITS FALSE NEIGHBOUR: 'it returns false'. Refute it at one input. -/
def linkSizesWrong : ChangeSpec := { name := "linkSizes", fn := fun _ => fun
  | [d1, d2] => { results := [.lit (.bool false)], args := [d1, d2] }
  | _ => none }
def LinkSizesWrongFalsely : Prop := linkSizesRow.holds Try.pinned (OpenSpec.ofChange linkSizesWrong)

/-- 'watershedlaw7.LinkTurns': WHATEVER THE INPUT: true; the input reads as it did. -/
def linkTurnsSpec : ChangeSpec := { name := "linkTurns", fn := fun _ => fun
  | [d1, d2, d3] => { results := [.lit (.bool true)], args := [d1, d2, d3] }
  | _ => none }
def linkTurnsRow : OpenClaim := { program := "ytjicapkhlfbgjaa", sum := "89c54036cc730870cd9cc80f3a3f9dfe804d23fe10a9727d0a613274632d63fe", func := "watershed/watershedlaw7.LinkTurns", spec := "linkTurns", apart := false }
def LinkTurnsSaid : Prop := linkTurnsRow.holds Try.pinned (OpenSpec.ofChange linkTurnsSpec)

/-- ITS FALSE NEIGHBOUR: 'it returns false'. Refute it at one input. -/
def linkTurnsWrong : ChangeSpec := { name := "linkTurns", fn := fun _ => fun
  | [d1, d2, d3] => { results := [.lit (.bool false)], args := [d1, d2, d3] }
  | _ => none }
def LinkTurnsWrongFalsely : Prop := linkTurnsRow.holds Try.pinned (OpenSpec.ofChange linkTurnsWrong)

/-- 'watershedlaw7.LinkLeast': WHATEVER THE INPUT: true; the input reads as it did. -/
def linkLeastSpec : ChangeSpec := { name := "linkLeast", fn := fun _ => fun
  | [d1, d2, d3] => { results := [.lit (.bool true)], args := [d1, d2, d3] }
  | _ => none }
def linkLeastRow : OpenClaim := { program := "ytjicapkhlfbgjaa", sum := "89c54036cc730870cd9cc80f3a3f9dfe804d23fe10a9727d0a613274632d63fe", func := "watershed/watershedlaw7.LinkLeast", spec := "linkLeast", apart := false }
def LinkLeastSaid : Prop := linkLeastRow.holds Try.pinned (OpenSpec.ofChange linkLeastSpec)

/-- ITS FALSE NEIGHBOUR: 'it returns false'. Refute it at one input. -/
def linkLeastWrong : ChangeSpec := { name := "linkLeast", fn := fun _ => fun
  | [d1, d2, d3] => { results := [.lit (.bool false)], args := [d1, d2, d3] }
  | _ => none }
def LinkLeastWrongFalsely : Prop := linkLeastRow.holds Try.pinned (OpenSpec.ofChange linkLeastWrong)

/-- 'watershedlaw7.LinkRows': WHATEVER THE INPUT: true; the input reads as it did. -/
def linkRowsSpec : ChangeSpec := { name := "linkRows", fn := fun _ => fun
  | [d1, d2, d3] => { results := [.lit (.bool true)], args := [d1, d2, d3] }
  | _ => none }
def linkRowsRow : OpenClaim := { program := "ytjicapkhlfbgjaa", sum := "89c54036cc730870cd9cc80f3a3f9dfe804d23fe10a9727d0a613274632d63fe", func := "watershed/watershedlaw7.LinkRows", spec := "linkRows", apart := false }
def LinkRowsSaid : Prop := linkRowsRow.holds Try.pinned (OpenSpec.ofChange linkRowsSpec)

/-- ITS FALSE NEIGHBOUR: 'it returns false'. Refute it at one input. -/
def linkRowsWrong : ChangeSpec := { name := "linkRows", fn := fun _ => fun
  | [d1, d2, d3] => { results := [.lit (.bool false)], args := [d1, d2, d3] }
  | _ => none }
def LinkRowsWrongFalsely : Prop := linkRowsRow.holds Try.pinned (OpenSpec.ofChange linkRowsWrong)

/-- 'watershedlaw7.LinkAdds': WHATEVER THE INPUT: true; the input reads as it did. -/
def linkAddsSpec : ChangeSpec := { name := "linkAdds", fn := fun _ => fun
  | [d1, d2, d3, d4] => { results := [.lit (.bool true)], args := [d1, d2, d3, d4] }
  | _ => none }
def linkAddsRow : OpenClaim := { program := "ytjicapkhlfbgjaa", sum := "89c54036cc730870cd9cc80f3a3f9dfe804d23fe10a9727d0a613274632d63fe", func := "watershed/watershedlaw7.LinkAdds", spec := "linkAdds", apart := false }
def LinkAddsSaid : Prop := linkAddsRow.holds Try.pinned (OpenSpec.ofChange linkAddsSpec)

/-- ITS FALSE NEIGHBOUR: 'it returns false'. Refute it at one input. -/
def linkAddsWrong : ChangeSpec := { name := "linkAdds", fn := fun _ => fun
  | [d1, d2, d3, d4] => { results := [.lit (.bool false)], args := [d1, d2, d3, d4] }
  | _ => none }
def LinkAddsWrongFalsely : Prop := linkAddsRow.holds Try.pinned (OpenSpec.ofChange linkAddsWrong)

/-- 'watershedlaw7.LinkRejoins': WHATEVER THE INPUT: true; the input reads as it did. -/
def linkRejoinsSpec : ChangeSpec := { name := "linkRejoins", fn := fun _ => fun
  | [d1, d2, d3] => { results := [.lit (.bool true)], args := [d1, d2, d3] }
  | _ => none }
def linkRejoinsRow : OpenClaim := { program := "ytjicapkhlfbgjaa", sum := "89c54036cc730870cd9cc80f3a3f9dfe804d23fe10a9727d0a613274632d63fe", func := "watershed/watershedlaw7.LinkRejoins", spec := "linkRejoins", apart := false }
def LinkRejoinsSaid : Prop := linkRejoinsRow.holds Try.pinned (OpenSpec.ofChange linkRejoinsSpec)

/-- ITS FALSE NEIGHBOUR: 'it returns false'. Refute it at one input. -/
def linkRejoinsWrong : ChangeSpec := { name := "linkRejoins", fn := fun _ => fun
  | [d1, d2, d3] => { results := [.lit (.bool false)], args := [d1, d2, d3] }
  | _ => none }
def LinkRejoinsWrongFalsely : Prop := linkRejoinsRow.holds Try.pinned (OpenSpec.ofChange linkRejoinsWrong)

/-- 'watershedlaw7.LinkPlays': WHATEVER THE INPUT: true; the input reads as it did. -/
def linkPlaysSpec : ChangeSpec := { name := "linkPlays", fn := fun _ => fun
  | [d1, d2, d3] => { results := [.lit (.bool true)], args := [d1, d2, d3] }
  | _ => none }
def linkPlaysRow : OpenClaim := { program := "ytjicapkhlfbgjaa", sum := "89c54036cc730870cd9cc80f3a3f9dfe804d23fe10a9727d0a613274632d63fe", func := "watershed/watershedlaw7.LinkPlays", spec := "linkPlays", apart := false }
def LinkPlaysSaid : Prop := linkPlaysRow.holds Try.pinned (OpenSpec.ofChange linkPlaysSpec)

/-- ITS FALSE NEIGHBOUR: 'it returns false'. Refute it at one input. -/
def linkPlaysWrong : ChangeSpec := { name := "linkPlays", fn := fun _ => fun
  | [d1, d2, d3] => { results := [.lit (.bool false)], args := [d1, d2, d3] }
  | _ => none }
def LinkPlaysWrongFalsely : Prop := linkPlaysRow.holds Try.pinned (OpenSpec.ofChange linkPlaysWrong)

/-- 'watershedlaw7.LinkErrs': WHATEVER THE INPUT: true; the input reads as it did. -/
def linkErrsSpec : ChangeSpec := { name := "linkErrs", fn := fun _ => fun
  | [d1, d2, d3, d4, d5] => { results := [.lit (.bool true)], args := [d1, d2, d3, d4, d5] }
  | _ => none }
def linkErrsRow : OpenClaim := { program := "ytjicapkhlfbgjaa", sum := "89c54036cc730870cd9cc80f3a3f9dfe804d23fe10a9727d0a613274632d63fe", func := "watershed/watershedlaw7.LinkErrs", spec := "linkErrs", apart := false }
def LinkErrsSaid : Prop := linkErrsRow.holds Try.pinned (OpenSpec.ofChange linkErrsSpec)

/-- ITS FALSE NEIGHBOUR: 'it returns false'. Refute it at one input. -/
def linkErrsWrong : ChangeSpec := { name := "linkErrs", fn := fun _ => fun
  | [d1, d2, d3, d4, d5] => { results := [.lit (.bool false)], args := [d1, d2, d3, d4, d5] }
  | _ => none }
def LinkErrsWrongFalsely : Prop := linkErrsRow.holds Try.pinned (OpenSpec.ofChange linkErrsWrong)

/-- 'watershedlaw7.LinkApart': WHATEVER THE INPUT: true; the input reads as it did. -/
def linkApartSpec : ChangeSpec := { name := "linkApart", fn := fun _ => fun
  | [d1, d2, d3] => { results := [.lit (.bool true)], args := [d1, d2, d3] }
  | _ => none }
def linkApartRow : OpenClaim := { program := "ytjicapkhlfbgjaa", sum := "89c54036cc730870cd9cc80f3a3f9dfe804d23fe10a9727d0a613274632d63fe", func := "watershed/watershedlaw7.LinkApart", spec := "linkApart", apart := false }
def LinkApartSaid : Prop := linkApartRow.holds Try.pinned (OpenSpec.ofChange linkApartSpec)

/-- ITS FALSE NEIGHBOUR: 'it returns false'. Refute it at one input. -/
def linkApartWrong : ChangeSpec := { name := "linkApart", fn := fun _ => fun
  | [d1, d2, d3] => { results := [.lit (.bool false)], args := [d1, d2, d3] }
  | _ => none }
def LinkApartWrongFalsely : Prop := linkApartRow.holds Try.pinned (OpenSpec.ofChange linkApartWrong)

/- THE SECOND FORM. 'bulk': how many values and letters a reading holds, each counted each time it is reached (what is shared counts as often as it is met; a slice's spare places count too). A statement '..UptoSaid' is the law's where the arguments, and the package variables that the reading takes, are together of bulk at most 1048576: NARROWER than '..Said'. Prove '..Said' where nothing that the law and all that it calls make is longer than what came in: it says more and counts as full. Else prove '..UptoSaid'. A law counts once. -/
mutual
def uptoBulk {H : Type} : DataW H → Nat
  | .lit (.string bytes) => bytes.length + 1
  | .lit _ => 1
  | .nil => 1
  | .ptr d => uptoBulk d + 1
  | .slice elems spare => uptoBulkAll elems + uptoBulkAll spare + 1
  | .agg parts => uptoBulkAll parts + 1
  | .iface _ d => uptoBulk d + 1
  | .map entries => uptoBulkEntries entries + 1
  | .held _ => 1
def uptoBulkAll {H : Type} : List (DataW H) → Nat
  | [] => 0
  | d :: r => uptoBulk d + uptoBulkAll r
def uptoBulkEntries {H : Type} : List (Lit × DataW H) → Nat
  | [] => 0
  | x :: r => uptoBulkEntry x + uptoBulkEntries r
def uptoBulkEntry {H : Type} : Lit × DataW H → Nat
  | (.string bytes, d) => bytes.length + uptoBulk d + 1
  | (_, d) => uptoBulk d + 1
 end
def uptoSmall : (H : Type) → List (DataW H) → Bool := fun _ ds => decide (uptoBulkAll ds ≤ 1048576)
def OpenSpec.upto (s : _root_.Go.ChangeSpec) : _root_.Go.OpenSpec := { _root_.Go.OpenSpec.ofChange s with cond := some uptoSmall }

/-- 'watershedlaw7.LinkSizes', WHERE WHAT IT READS IS OF BULK AT MOST 1048576: true; the input reads as it did. -/
def linkSizesUptoRow : OpenClaim := { program := "ytjicapkhlfbgjaa", sum := "89c54036cc730870cd9cc80f3a3f9dfe804d23fe10a9727d0a613274632d63fe", func := "watershed/watershedlaw7.LinkSizes", spec := "linkSizes", apart := false, narrowed := true }
def LinkSizesUptoSaid : Prop := linkSizesUptoRow.holds Try.pinned (OpenSpec.upto linkSizesSpec)

/-- 'watershedlaw7.LinkTurns', WHERE WHAT IT READS IS OF BULK AT MOST 1048576: true; the input reads as it did. -/
def linkTurnsUptoRow : OpenClaim := { program := "ytjicapkhlfbgjaa", sum := "89c54036cc730870cd9cc80f3a3f9dfe804d23fe10a9727d0a613274632d63fe", func := "watershed/watershedlaw7.LinkTurns", spec := "linkTurns", apart := false, narrowed := true }
def LinkTurnsUptoSaid : Prop := linkTurnsUptoRow.holds Try.pinned (OpenSpec.upto linkTurnsSpec)

/-- 'watershedlaw7.LinkLeast', WHERE WHAT IT READS IS OF BULK AT MOST 1048576: true; the input reads as it did. -/
def linkLeastUptoRow : OpenClaim := { program := "ytjicapkhlfbgjaa", sum := "89c54036cc730870cd9cc80f3a3f9dfe804d23fe10a9727d0a613274632d63fe", func := "watershed/watershedlaw7.LinkLeast", spec := "linkLeast", apart := false, narrowed := true }
def LinkLeastUptoSaid : Prop := linkLeastUptoRow.holds Try.pinned (OpenSpec.upto linkLeastSpec)

/-- 'watershedlaw7.LinkRows', WHERE WHAT IT READS IS OF BULK AT MOST 1048576: true; the input reads as it did. -/
def linkRowsUptoRow : OpenClaim := { program := "ytjicapkhlfbgjaa", sum := "89c54036cc730870cd9cc80f3a3f9dfe804d23fe10a9727d0a613274632d63fe", func := "watershed/watershedlaw7.LinkRows", spec := "linkRows", apart := false, narrowed := true }
def LinkRowsUptoSaid : Prop := linkRowsUptoRow.holds Try.pinned (OpenSpec.upto linkRowsSpec)

/-- 'watershedlaw7.LinkAdds', WHERE WHAT IT READS IS OF BULK AT MOST 1048576: true; the input reads as it did. -/
def linkAddsUptoRow : OpenClaim := { program := "ytjicapkhlfbgjaa", sum := "89c54036cc730870cd9cc80f3a3f9dfe804d23fe10a9727d0a613274632d63fe", func := "watershed/watershedlaw7.LinkAdds", spec := "linkAdds", apart := false, narrowed := true }
def LinkAddsUptoSaid : Prop := linkAddsUptoRow.holds Try.pinned (OpenSpec.upto linkAddsSpec)

/-- 'watershedlaw7.LinkRejoins', WHERE WHAT IT READS IS OF BULK AT MOST 1048576: true; the input reads as it did. -/
def linkRejoinsUptoRow : OpenClaim := { program := "ytjicapkhlfbgjaa", sum := "89c54036cc730870cd9cc80f3a3f9dfe804d23fe10a9727d0a613274632d63fe", func := "watershed/watershedlaw7.LinkRejoins", spec := "linkRejoins", apart := false, narrowed := true }
def LinkRejoinsUptoSaid : Prop := linkRejoinsUptoRow.holds Try.pinned (OpenSpec.upto linkRejoinsSpec)

/-- 'watershedlaw7.LinkPlays', WHERE WHAT IT READS IS OF BULK AT MOST 1048576: true; the input reads as it did. -/
def linkPlaysUptoRow : OpenClaim := { program := "ytjicapkhlfbgjaa", sum := "89c54036cc730870cd9cc80f3a3f9dfe804d23fe10a9727d0a613274632d63fe", func := "watershed/watershedlaw7.LinkPlays", spec := "linkPlays", apart := false, narrowed := true }
def LinkPlaysUptoSaid : Prop := linkPlaysUptoRow.holds Try.pinned (OpenSpec.upto linkPlaysSpec)

/-- 'watershedlaw7.LinkErrs', WHERE WHAT IT READS IS OF BULK AT MOST 1048576: true; the input reads as it did. -/
def linkErrsUptoRow : OpenClaim := { program := "ytjicapkhlfbgjaa", sum := "89c54036cc730870cd9cc80f3a3f9dfe804d23fe10a9727d0a613274632d63fe", func := "watershed/watershedlaw7.LinkErrs", spec := "linkErrs", apart := false, narrowed := true }
def LinkErrsUptoSaid : Prop := linkErrsUptoRow.holds Try.pinned (OpenSpec.upto linkErrsSpec)

/-- 'watershedlaw7.LinkApart', WHERE WHAT IT READS IS OF BULK AT MOST 1048576: true; the input reads as it did. -/
def linkApartUptoRow : OpenClaim := { program := "ytjicapkhlfbgjaa", sum := "89c54036cc730870cd9cc80f3a3f9dfe804d23fe10a9727d0a613274632d63fe", func := "watershed/watershedlaw7.LinkApart", spec := "linkApart", apart := false, narrowed := true }
def LinkApartUptoSaid : Prop := linkApartUptoRow.holds Try.pinned (OpenSpec.upto linkApartSpec)

end Rows
end Go.Proofs.Ytjicapkhlfbgjaa
