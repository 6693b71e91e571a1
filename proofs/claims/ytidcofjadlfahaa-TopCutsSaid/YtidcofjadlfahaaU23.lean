/- The net of known: what holds of it. -/
import Derived.Test.YtidcofjadlfahaaU17
import Derived.Test.YtidcofjadlfahaaU22
set_option linter.unusedVariables false
set_option linter.unusedSimpArgs false
namespace Go.Proofs.Ytidcofjadlfahaa
open Go.RowKit

theorem four {p : Int → Prop} (h0 : p 0) (h1 : p 1) (h2 : p 2) (h3 : p 3) : ∀ d : Int, 0 ≤ d → d < ((4 : Nat) : Int) → p d := fun d a b => by
  rcases (by omega : d = 0 ∨ d = 1 ∨ d = 2 ∨ d = 3) with rfl | rfl | rfl | rfl <;> assumption
theorem ring0_known : ringOf [2, 3, 0, 1] 0 = [0, 3] := ring_eq (l := [3]) ⟨by decide, by decide, by show phi [2, 3, 0, 1] 3 = 0; decide⟩
theorem ring1_known : ringOf [2, 3, 0, 1] 1 = [1, 2] := ring_eq (l := [2]) ⟨by decide, by decide, by show phi [2, 3, 0, 1] 2 = 1; decide⟩
theorem faces_known : faceN [2, 3, 0, 1] = 2 := by
  have e1 : fstep [2, 3, 0, 1] ([-1, -1, -1, -1], 0) 0 = ([0, -1, -1, 0], 1) := by unfold fstep; rw [if_neg (by decide), ring0_known]; decide
  have e2 : fstep [2, 3, 0, 1] ([0, -1, -1, 0], 1) 1 = ([0, 1, 1, 0], 2) := by unfold fstep; rw [if_neg (by decide), ring1_known]; decide
  have e3 : fstep [2, 3, 0, 1] ([0, 1, 1, 0], 2) 2 = ([0, 1, 1, 0], 2) := by unfold fstep; rw [if_pos (by decide)]
  have e4 : fstep [2, 3, 0, 1] ([0, 1, 1, 0], 2) 3 = ([0, 1, 1, 0], 2) := by unfold fstep; rw [if_pos (by decide)]
  show (fstep [2, 3, 0, 1] (fstep [2, 3, 0, 1] (fstep [2, 3, 0, 1] (fstep [2, 3, 0, 1] ([-1, -1, -1, -1], 0) 0) 1) 2) 3).2 = 2
  rw [e1, e2, e3, e4]
theorem conn_known : Conn [0, 1, 0, 1] ((2 : Nat) : Int) := by
  rintro S ⟨v, h0, h1, hv⟩ hj u g0 g1
  have j0 : S 0 → S 1 := fun h => hj 0 (by decide) (by decide) h
  have j1 : S 1 → S 0 := fun h => hj 1 (by decide) (by decide) h
  rcases (by omega : v = 0 ∨ v = 1) with rfl | rfl <;> rcases (by omega : u = 0 ∨ u = 1) with rfl | rfl
  · exact hv
  · exact j0 hv
  · exact j1 hv
  · exact hv
theorem good_known : Good 2 4 [0, 1, 0, 1] [2, 3, 0, 1] [5, 3, 2, 1] := by
  refine ⟨by decide, by decide, by decide, by decide, by decide, rfl, rfl, rfl, four (by decide) (by decide) (by decide) (by decide), ⟨four (by decide) (by decide) (by decide) (by decide), fun d e a1 a2 a3 a4 h => ?_⟩,
    four (by decide) (by decide) (by decide) (by decide), four (by decide) (by decide) (by decide) (by decide), fun d e a1 a2 a3 a4 h => ?_, conn_known, by rw [faces_known]; decide, by rw [faces_known]; decide⟩
  · rcases (by omega : d = 0 ∨ d = 1 ∨ d = 2 ∨ d = 3) with rfl | rfl | rfl | rfl <;> rcases (by omega : e = 0 ∨ e = 1 ∨ e = 2 ∨ e = 3) with rfl | rfl | rfl | rfl <;> first | rfl | exact absurd h (by decide)
  · rcases (by omega : d = 0 ∨ d = 1 ∨ d = 2 ∨ d = 3) with rfl | rfl | rfl | rfl <;> rcases (by omega : e = 0 ∨ e = 1 ∨ e = 2 ∨ e = 3) with rfl | rfl | rfl | rfl <;> first | exact ⟨0, rfl⟩ | exact ⟨1, by decide⟩ | exact absurd h (by decide)
theorem most_known : MostIs [0, 1, 0, 1] [5, 3, 2, 1] 2 4 0 1 [5, -5, 2, -2] := by
  refine ⟨by decide +kernel, 2, ?_⟩
  have s1 : mStep [0, 1, 0, 1] [5, 3, 2, 1] 2 4 0 1 [0, 0, 0, 0] = [5, -5, 0, 0] := by
    unfold mStep
    rw [if_pos (by decide +kernel), wayOf_eq (P := [0]) ⟨by decide, by decide +kernel, by show rd [0, 1, 0, 1] 0 = 0; decide⟩]
    decide
  have s2 : mStep [0, 1, 0, 1] [5, 3, 2, 1] 2 4 0 1 [5, -5, 0, 0] = [5, -5, 2, -2] := by
    unfold mStep
    rw [if_pos (by decide +kernel), wayOf_eq (P := [2]) ⟨by decide, by decide +kernel, by show rd [0, 1, 0, 1] 2 = 0; decide⟩]
    decide
  show [5, -5, 2, -2] = mStep [0, 1, 0, 1] [5, 3, 2, 1] 2 4 0 1 (mStep [0, 1, 0, 1] [5, 3, 2, 1] 2 4 0 1 [0, 0, 0, 0])
  rw [s1, s2]
theorem val_known : valF [0, 1, 0, 1] [5, -5, 2, -2] 0 4 = 7 := by decide +kernel
theorem sum_known : cutSum [0, 1, 0, 1] [5, 3, 2, 1] (inOf [0, 1, 0, 1] [5, 3, 2, 1] [5, -5, 2, -2] 2 4 0 1) 4 = 7 := by decide +kernel
theorem cut_known : (cutOf [0, 1, 0, 1] [2, 3, 0, 1] [5, 3, 2, 1] (inOf [0, 1, 0, 1] [5, 3, 2, 1] [5, -5, 2, -2] 2 4 0 1) 2 4).length = 2 := by
  have hI : inOf [0, 1, 0, 1] [5, 3, 2, 1] [5, -5, 2, -2] 2 4 0 1 = [true, false] := by decide +kernel
  unfold cutOf
  rw [hI, if_pos (by decide +kernel), cycL_length]
  decide +kernel
end Go.Proofs.Ytidcofjadlfahaa
