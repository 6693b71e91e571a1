/- What is left of a net beside a tree: the program's, and the document's. -/
import Derived.Test.YtidcofjadlfahaaTp
import Derived.Test.YtidcofjadlfahaaSl
set_option linter.unusedVariables false
set_option linter.unusedSimpArgs false
namespace Go.Proofs.Ytidcofjadlfahaa
open Go.RowKit

/-- Of the first k edges those of which no dart is in the row. -/
def leftTo (up : List Int) (k : Nat) : List Int := ((List.range k).map (fun i : Nat => 2 * (i : Int))).filter (fun d => !(hasB up d) && !(hasB up (d + 1)))
def leftL (T up : List Int) : List Int := leftTo up (T.length / 2)
theorem leftTo_next (up : List Int) (k : Nat) : leftTo up (k + 1) = if hasB up (2 * (k : Int)) = false ∧ hasB up (2 * (k : Int) + 1) = false then leftTo up k ++ [2 * (k : Int)] else leftTo up k := by
  unfold leftTo
  rw [List.range_succ, List.map_append, List.filter_append]
  cases h1 : hasB up (2 * (k : Int)) <;> cases h2 : hasB up (2 * (k : Int) + 1) <;> simp [h1, h2]
theorem leftTo_le (up : List Int) (k : Nat) : (leftTo up k).length ≤ k := by
  have := List.length_filter_le (fun d => !(hasB up d) && !(hasB up (d + 1))) ((List.range k).map (fun i : Nat => 2 * (i : Int)))
  simpa [leftTo] using this

/-- Is one of the first k of a row e, or e + 1? -/
def isB (up : List Int) (e : Int) (k : Nat) : Bool := hasB (up.take k) e || hasB (up.take k) (e + 1)
theorem isB_next {up : List Int} {e : Int} {k : Nat} (h : k < up.length) : isB up e (k + 1) = (isB up e k || rd up k == e || rd up k == e + 1) := by
  have e1 : rd up k = up[k] := by simp [rd, List.getD_eq_getElem?_getD, List.getElem?_eq_getElem h]
  unfold isB hasB
  rw [List.take_add_one, List.getElem?_eq_getElem h, e1]
  simp only [Option.toList_some, List.mem_append, List.mem_singleton, Bool.decide_or]
  rw [show (up[k] == e) = decide (e = up[k]) from by rw [Bool.eq_iff_iff]; constructor <;> (intro h; simp at h ⊢; exact h.symm), show (up[k] == e + 1) = decide (e + 1 = up[k]) from by rw [Bool.eq_iff_iff]; constructor <;> (intro h; simp at h ⊢; exact h.symm)]
  cases decide (e ∈ List.take k up) <;> cases decide (e + 1 ∈ List.take k up) <;> cases decide (e = up[k]) <;> cases decide (e + 1 = up[k]) <;> rfl
theorem isB_all {up : List Int} {e : Int} {k : Nat} (h : up.length ≤ k) : isB up e k = (hasB up e || hasB up (e + 1)) := by
  unfold isB
  rw [List.take_of_length_le h]

end Go.Proofs.Ytidcofjadlfahaa
