/- Ways up: the program's, and the document's. -/
import Derived.Test.YtidcofjadlfahaaTp
import Derived.Test.YtidcofjadlfahaaSl
set_option linter.unusedVariables false
set_option linter.unusedSimpArgs false
namespace Go.Proofs.Ytidcofjadlfahaa
open Go.RowKit

/-- The darts from a vertex up, no more than k. -/
def wayL (T up : List Int) : Nat → Int → List Int
  | 0, _ => []
  | k + 1, v => if rd up v < 0 then [] else rd up v :: wayL T up k (rd T (ot (rd up v)))
/-- A way that comes to its end in k steps. -/
def endsW (T up : List Int) : Nat → Int → Prop
  | 0, v => rd up v < 0
  | k + 1, v => rd up v < 0 ∨ endsW T up k (rd T (ot (rd up v)))
def UpOk (T up : List Int) (N : Nat) : Prop := ∀ v : Int, 0 ≤ v → v < N → rd up v = -1 ∨ (0 ≤ rd up v ∧ rd up v < T.length)
theorem wayL_stop {T up : List Int} {v : Int} (h : rd up v < 0) : ∀ k, wayL T up k v = []
  | 0 => rfl
  | k + 1 => by rw [wayL, if_pos h]
theorem wayL_le (T up : List Int) : ∀ k v, (wayL T up k v).length ≤ k
  | 0, _ => Nat.le_refl _
  | k + 1, v => by
    rw [wayL]
    split
    · exact Nat.zero_le _
    · have := wayL_le T up k (rd T (ot (rd up v)))
      rw [List.length_cons]
      omega

end Go.Proofs.Ytidcofjadlfahaa
