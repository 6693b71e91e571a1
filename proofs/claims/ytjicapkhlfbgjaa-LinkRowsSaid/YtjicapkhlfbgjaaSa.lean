/- The walk of same: two forests in one state answer alike. -/
import Derived.Test.YtjicapkhlfbgjaaSm
set_option linter.unusedVariables false
namespace Go.Proofs.Ytjicapkhlfbgjaa
open Go.RowKit

section
variable {w : World} {a b c d f x n : Nat} {U W : List Int}
set_option maxHeartbeats 1600000 in
theorem same_any (hF : Forest 52 w a b f n U W) (hX : Forest 54 w c d x n U W) (hg : Good U) (hn : n ≤ 300) : Calls Try.prog 21 #[.pointer (some ⟨f, 0, none⟩), .pointer (some ⟨x, 0, none⟩), .int .i64 n] w fun e w' => e = .returned (.bool true) ∧ w = w' := by
  go_enter Try.func21, Try.ntmps21
  go_wp2
  go_loopg [7] (n + 2) (fun q y wr => ∃ v : Int, y = .int .i64 v ∧ wr = w ∧ -1 ≤ v ∧ v ≤ n + 1 ∧ (q : Int) = n + 1 - v)
  case atStart => exact ⟨-1, rfl, rfl, by omega, by omega, by omega⟩
  case round =>
    obtain ⟨v, rfl, rfl, h0, h1, hq⟩ := hrel
    by_cases hv : v ≤ n
    · have q1 : (upA U v != upA U v) = false := by simp
      have q2 : (hasUp U v != hasUp U v) = false := by simp
      have q3 : (wtA U W v != wtA U W v) = false := by simp
      have q4 : (rootA U v != rootA U v) = false := by simp
      go_wp2_with fail
      refine (p_up _ hF hg).mono ?_
      rintro e w' ⟨rfl, rfl⟩
      go_wp2_with fail
      refine (r_up _ hX hg).mono ?_
      rintro e w' ⟨rfl, rfl⟩
      go_wp2_with fail
      refine (p_weight _ hF hg).mono ?_
      rintro e w' ⟨rfl, rfl⟩
      go_wp2_with fail
      refine (r_weight _ hX hg).mono ?_
      rintro e w' ⟨rfl, rfl⟩
      go_wp2_with fail
      refine (p_root _ hF hg).mono ?_
      rintro e w' ⟨rfl, rfl⟩
      go_wp2_with fail
      refine (r_root _ hX hg).mono ?_
      rintro e w' ⟨rfl, rfl⟩
      go_wp2
      go_roundg (n - v).toNat
      case rel => exact ⟨v + 1, rfl, rfl, by omega, by omega, by omega⟩
      case measure => omega
    · go_wp2
      go_ret
      exact ⟨rfl, rfl⟩
end
end Go.Proofs.Ytjicapkhlfbgjaa
