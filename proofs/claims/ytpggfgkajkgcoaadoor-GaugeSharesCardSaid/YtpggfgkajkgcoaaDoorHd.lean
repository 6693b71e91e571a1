/- Where a dart ends; a dart laid behind another one. -/
import Derived.Test.YtpggfgkajkgcoaaDoorSm
set_option linter.unusedVariables false
namespace Go.Proofs.YtpggfgkajkgcoaaDoor
open Go.RowKit

section
variable {N : Int} {aT aX aC : Option Addr} {cT cX cC : Nat} {T X C : List Int} {w : World}
end
end Go.Proofs.YtpggfgkajkgcoaaDoor
