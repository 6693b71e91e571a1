/- From the row's condition to the table in memory; a start that meets it. -/
import Derived.Test.YtpggfgkajkgcoaaDoorG7
import Derived.Test.YtpggfgkajkgcoaaDoorLw
import Derived.LaidMore
import Derived.LaidLaws
import Derived.LaidHandle
import Derived.MakeChecks
import Derived.Lib.LaidTab
import Derived.Stop.LaidErr
set_option linter.unusedVariables false
namespace Go.Proofs.YtpggfgkajkgcoaaDoor
open Go.RowKit

theorem tab_of_laid {W : World} (h : laidMetH Tryd.prog Rows.gaugeKnownRow.laid W) : Tab W := by
  rw [MakeChecks.laidMetH_plain _ _ _ (by kernel_rfl)] at h
  have h2 := h.tail.tail
  exact Lib.tabIs_of_head (rest := []) (g := 1) (t := 79) (e := 63) (n := 20) (by kernel_rfl) (by kernel_rfl) Tryd.underlying79 Tryd.underlying63 (by kernel_rfl) (by kernel_rfl) h2
theorem door_met (os : Os) (args : Array Value) : laidMetH Tryd.prog Rows.gaugeKnownRow.laid ((World.doorLaid Tryd.prog 400 os).forCall (fun _ _ => 0) ⟨#[], args, []⟩).memory :=
  laidMetH_of_parts3 (fuel := 8) (laidMet_of_run' 8 (by kernel_rfl) (by kernel_rfl)) (by kernel_rfl) (by kernel_rfl)
end Go.Proofs.YtpggfgkajkgcoaaDoor
