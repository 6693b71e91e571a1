/-
  DERIVED. GIVEN WITH THE SEED: THE CARDS: each row of YtpggfgkajkgcoaaDoorRows.lean that lists a variable, with what it lists TIED to the program's text (the seventh form; the later family's looks); each row that meets fmt, with fmt's text TOLD by the authors' own Lean function (tested against real Go, not proved from fmt's source: count such statements apart). THE CARD IS WHAT COUNTS. Prove the row's statement (the work); the ties are given (YtpggfgkajkgcoaaDoorTie.lean); close each card by the builder's one call (the guide's Derived/Test/ToyasCard.lean, 'card_holds'). Laid BY PROGRAM, IN A SANDBOX (cutbox-door.mjs). By AI agents, Wed Nov 11 2026. No macro, syntax, notation, axiom, sorry.
-/
import Derived.Test.YtpggfgkajkgcoaaDoorRows
import GoSem.ClaimSeven
namespace Go.Proofs.YtpggfgkajkgcoaaDoor
namespace Rows

/-- THE TIED CARD OF 'watershedlaw12.GaugeOrder'. -/
def gaugeOrderCard : Claim7 := { stood := { row := gaugeOrderRow, standIns := [], harness := (true, "031d5704a1090ced58c0510cb7f903524660bfe1f7ef664947be7901cbba2f10"), looks := false }, kinds := [], alts := [], laidByText := true, laidKinds := [.data, .data, .data], laidTests := true, laidLooks := .later }
def GaugeOrderCardSaid : Prop := Claim7.holds Tryd.pinned (.plain (OpenSpec.ofChange gaugeOrderSpec)) gaugeOrderCard

/-- THE TIED CARD OF 'watershedlaw12.GaugeSorts'. -/
def gaugeSortsCard : Claim7 := { stood := { row := gaugeSortsRow, standIns := [], harness := (true, "031d5704a1090ced58c0510cb7f903524660bfe1f7ef664947be7901cbba2f10"), looks := false }, kinds := [], alts := [], laidByText := true, laidKinds := [.data, .data, .data], laidTests := true, laidLooks := .later }
def GaugeSortsCardSaid : Prop := Claim7.holds Tryd.pinned (.plain (OpenSpec.ofChange gaugeSortsSpec)) gaugeSortsCard

/-- THE TIED CARD OF 'watershedlaw12.GaugeTexts'. -/
def gaugeTextsCard : Claim7 := { stood := { row := gaugeTextsRow, standIns := [], harness := (true, "031d5704a1090ced58c0510cb7f903524660bfe1f7ef664947be7901cbba2f10"), looks := false }, kinds := [], alts := [], laidByText := true, laidKinds := [.data, .data, .data], laidTests := true, laidLooks := .later }
def GaugeTextsCardSaid : Prop := Claim7.holds Tryd.pinned (.plain (OpenSpec.ofChange gaugeTextsSpec)) gaugeTextsCard

/-- THE TIED CARD OF 'watershedlaw12.GaugeMeans'. -/
def gaugeMeansCard : Claim7 := { stood := { row := gaugeMeansRow, standIns := [], harness := (true, "031d5704a1090ced58c0510cb7f903524660bfe1f7ef664947be7901cbba2f10"), looks := false }, kinds := [], alts := [], laidByText := true, laidKinds := [.data, .data, .data], laidTests := true, laidLooks := .later }
def GaugeMeansCardSaid : Prop := Claim7.holds Tryd.pinned (.plain (OpenSpec.ofChange gaugeMeansSpec)) gaugeMeansCard

/-- THE TIED CARD OF 'watershedlaw12.GaugeKnown'. -/
def gaugeKnownCard : Claim7 := { stood := { row := gaugeKnownRow, standIns := [], harness := (true, "031d5704a1090ced58c0510cb7f903524660bfe1f7ef664947be7901cbba2f10"), looks := false }, kinds := [], alts := [], laidByText := true, laidKinds := [.data, .data, .data], laidTests := true, laidLooks := .later }
def GaugeKnownCardSaid : Prop := Claim7.holds Tryd.pinned (.plain (OpenSpec.ofChange gaugeKnownSpec)) gaugeKnownCard

/-- THE TIED CARD OF 'watershedlaw12.GaugeSigns'. -/
def gaugeSignsCard : Claim7 := { stood := { row := gaugeSignsRow, standIns := [], harness := (true, "031d5704a1090ced58c0510cb7f903524660bfe1f7ef664947be7901cbba2f10"), looks := false }, kinds := [], alts := [], laidByText := true, laidKinds := [.data, .data, .data], laidTests := true, laidLooks := .later }
def GaugeSignsCardSaid : Prop := Claim7.holds Tryd.pinned (.plain (OpenSpec.ofChange gaugeSignsSpec)) gaugeSignsCard

/-- THE TIED CARD OF 'watershedlaw12.GaugeEnds'. -/
def gaugeEndsCard : Claim7 := { stood := { row := gaugeEndsRow, standIns := [], harness := (true, "031d5704a1090ced58c0510cb7f903524660bfe1f7ef664947be7901cbba2f10"), looks := false }, kinds := [], alts := [], laidByText := true, laidKinds := [.data, .data, .data], laidTests := true, laidLooks := .later }
def GaugeEndsCardSaid : Prop := Claim7.holds Tryd.pinned (.plain (OpenSpec.ofChange gaugeEndsSpec)) gaugeEndsCard

/-- THE TIED CARD OF 'watershedlaw12.GaugeWhole'. -/
def gaugeWholeCard : Claim7 := { stood := { row := gaugeWholeRow, standIns := [], harness := (true, "031d5704a1090ced58c0510cb7f903524660bfe1f7ef664947be7901cbba2f10"), looks := false }, kinds := [], alts := [], laidByText := true, laidKinds := [.data, .data, .data], laidTests := true, laidLooks := .later }
def GaugeWholeCardSaid : Prop := Claim7.holds Tryd.pinned (.plain (OpenSpec.ofChange gaugeWholeSpec)) gaugeWholeCard

/-- THE TIED CARD OF 'watershedlaw12.GaugeSame'. -/
def gaugeSameCard : Claim7 := { stood := { row := gaugeSameRow, standIns := [], harness := (true, "031d5704a1090ced58c0510cb7f903524660bfe1f7ef664947be7901cbba2f10"), looks := false }, kinds := [], alts := [], laidByText := true, laidKinds := [.data, .data, .data], laidTests := true, laidLooks := .later }
def GaugeSameCardSaid : Prop := Claim7.holds Tryd.pinned (.plain (OpenSpec.ofChange gaugeSameSpec)) gaugeSameCard

/-- THE TIED CARD OF 'watershedlaw12.GaugeShares'. -/
def gaugeSharesCard : Claim7 := { stood := { row := gaugeSharesRow, standIns := [], harness := (true, "031d5704a1090ced58c0510cb7f903524660bfe1f7ef664947be7901cbba2f10"), looks := false }, kinds := [], alts := [], laidByText := true, laidKinds := [.data, .data, .data], laidTests := true, laidLooks := .later }
def GaugeSharesCardSaid : Prop := Claim7.holds Tryd.pinned (.plain (OpenSpec.ofChange gaugeSharesSpec)) gaugeSharesCard

/-- THE TIED CARD OF 'watershedlaw12.GaugeOwn'. -/
def gaugeOwnCard : Claim7 := { stood := { row := gaugeOwnRow, standIns := [], harness := (true, "031d5704a1090ced58c0510cb7f903524660bfe1f7ef664947be7901cbba2f10"), looks := false }, kinds := [], alts := [], laidByText := true, laidKinds := [.data, .data, .data], laidTests := true, laidLooks := .later }
def GaugeOwnCardSaid : Prop := Claim7.holds Tryd.pinned (.plain (OpenSpec.ofChange gaugeOwnSpec)) gaugeOwnCard

/-- THE SECOND FORM's CARD OF 'watershedlaw12.GaugeOrder'. -/
def gaugeOrderUptoCard : Claim7 := { stood := { row := gaugeOrderUptoRow, standIns := [], harness := (true, "031d5704a1090ced58c0510cb7f903524660bfe1f7ef664947be7901cbba2f10"), looks := false }, kinds := [], alts := [], laidByText := true, laidKinds := [.data, .data, .data], laidTests := true, laidLooks := .later }
def GaugeOrderUptoCardSaid : Prop := Claim7.holds Tryd.pinned (.plain (OpenSpec.upto gaugeOrderSpec)) gaugeOrderUptoCard

/-- THE SECOND FORM's CARD OF 'watershedlaw12.GaugeSorts'. -/
def gaugeSortsUptoCard : Claim7 := { stood := { row := gaugeSortsUptoRow, standIns := [], harness := (true, "031d5704a1090ced58c0510cb7f903524660bfe1f7ef664947be7901cbba2f10"), looks := false }, kinds := [], alts := [], laidByText := true, laidKinds := [.data, .data, .data], laidTests := true, laidLooks := .later }
def GaugeSortsUptoCardSaid : Prop := Claim7.holds Tryd.pinned (.plain (OpenSpec.upto gaugeSortsSpec)) gaugeSortsUptoCard

/-- THE SECOND FORM's CARD OF 'watershedlaw12.GaugeTexts'. -/
def gaugeTextsUptoCard : Claim7 := { stood := { row := gaugeTextsUptoRow, standIns := [], harness := (true, "031d5704a1090ced58c0510cb7f903524660bfe1f7ef664947be7901cbba2f10"), looks := false }, kinds := [], alts := [], laidByText := true, laidKinds := [.data, .data, .data], laidTests := true, laidLooks := .later }
def GaugeTextsUptoCardSaid : Prop := Claim7.holds Tryd.pinned (.plain (OpenSpec.upto gaugeTextsSpec)) gaugeTextsUptoCard

/-- THE SECOND FORM's CARD OF 'watershedlaw12.GaugeMeans'. -/
def gaugeMeansUptoCard : Claim7 := { stood := { row := gaugeMeansUptoRow, standIns := [], harness := (true, "031d5704a1090ced58c0510cb7f903524660bfe1f7ef664947be7901cbba2f10"), looks := false }, kinds := [], alts := [], laidByText := true, laidKinds := [.data, .data, .data], laidTests := true, laidLooks := .later }
def GaugeMeansUptoCardSaid : Prop := Claim7.holds Tryd.pinned (.plain (OpenSpec.upto gaugeMeansSpec)) gaugeMeansUptoCard

/-- THE SECOND FORM's CARD OF 'watershedlaw12.GaugeKnown'. -/
def gaugeKnownUptoCard : Claim7 := { stood := { row := gaugeKnownUptoRow, standIns := [], harness := (true, "031d5704a1090ced58c0510cb7f903524660bfe1f7ef664947be7901cbba2f10"), looks := false }, kinds := [], alts := [], laidByText := true, laidKinds := [.data, .data, .data], laidTests := true, laidLooks := .later }
def GaugeKnownUptoCardSaid : Prop := Claim7.holds Tryd.pinned (.plain (OpenSpec.upto gaugeKnownSpec)) gaugeKnownUptoCard

/-- THE SECOND FORM's CARD OF 'watershedlaw12.GaugeSigns'. -/
def gaugeSignsUptoCard : Claim7 := { stood := { row := gaugeSignsUptoRow, standIns := [], harness := (true, "031d5704a1090ced58c0510cb7f903524660bfe1f7ef664947be7901cbba2f10"), looks := false }, kinds := [], alts := [], laidByText := true, laidKinds := [.data, .data, .data], laidTests := true, laidLooks := .later }
def GaugeSignsUptoCardSaid : Prop := Claim7.holds Tryd.pinned (.plain (OpenSpec.upto gaugeSignsSpec)) gaugeSignsUptoCard

/-- THE SECOND FORM's CARD OF 'watershedlaw12.GaugeEnds'. -/
def gaugeEndsUptoCard : Claim7 := { stood := { row := gaugeEndsUptoRow, standIns := [], harness := (true, "031d5704a1090ced58c0510cb7f903524660bfe1f7ef664947be7901cbba2f10"), looks := false }, kinds := [], alts := [], laidByText := true, laidKinds := [.data, .data, .data], laidTests := true, laidLooks := .later }
def GaugeEndsUptoCardSaid : Prop := Claim7.holds Tryd.pinned (.plain (OpenSpec.upto gaugeEndsSpec)) gaugeEndsUptoCard

/-- THE SECOND FORM's CARD OF 'watershedlaw12.GaugeWhole'. -/
def gaugeWholeUptoCard : Claim7 := { stood := { row := gaugeWholeUptoRow, standIns := [], harness := (true, "031d5704a1090ced58c0510cb7f903524660bfe1f7ef664947be7901cbba2f10"), looks := false }, kinds := [], alts := [], laidByText := true, laidKinds := [.data, .data, .data], laidTests := true, laidLooks := .later }
def GaugeWholeUptoCardSaid : Prop := Claim7.holds Tryd.pinned (.plain (OpenSpec.upto gaugeWholeSpec)) gaugeWholeUptoCard

/-- THE SECOND FORM's CARD OF 'watershedlaw12.GaugeSame'. -/
def gaugeSameUptoCard : Claim7 := { stood := { row := gaugeSameUptoRow, standIns := [], harness := (true, "031d5704a1090ced58c0510cb7f903524660bfe1f7ef664947be7901cbba2f10"), looks := false }, kinds := [], alts := [], laidByText := true, laidKinds := [.data, .data, .data], laidTests := true, laidLooks := .later }
def GaugeSameUptoCardSaid : Prop := Claim7.holds Tryd.pinned (.plain (OpenSpec.upto gaugeSameSpec)) gaugeSameUptoCard

/-- THE SECOND FORM's CARD OF 'watershedlaw12.GaugeShares'. -/
def gaugeSharesUptoCard : Claim7 := { stood := { row := gaugeSharesUptoRow, standIns := [], harness := (true, "031d5704a1090ced58c0510cb7f903524660bfe1f7ef664947be7901cbba2f10"), looks := false }, kinds := [], alts := [], laidByText := true, laidKinds := [.data, .data, .data], laidTests := true, laidLooks := .later }
def GaugeSharesUptoCardSaid : Prop := Claim7.holds Tryd.pinned (.plain (OpenSpec.upto gaugeSharesSpec)) gaugeSharesUptoCard

/-- THE SECOND FORM's CARD OF 'watershedlaw12.GaugeOwn'. -/
def gaugeOwnUptoCard : Claim7 := { stood := { row := gaugeOwnUptoRow, standIns := [], harness := (true, "031d5704a1090ced58c0510cb7f903524660bfe1f7ef664947be7901cbba2f10"), looks := false }, kinds := [], alts := [], laidByText := true, laidKinds := [.data, .data, .data], laidTests := true, laidLooks := .later }
def GaugeOwnUptoCardSaid : Prop := Claim7.holds Tryd.pinned (.plain (OpenSpec.upto gaugeOwnSpec)) gaugeOwnUptoCard
end Rows
end Go.Proofs.YtpggfgkajkgcoaaDoor
