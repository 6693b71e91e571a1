/- The walk of two. -/
import Derived.Test.YtidcofjadlfahaaSm
import Derived.Test.YtidcofjadlfahaaU24
set_option linter.unusedVariables false
set_option linter.unusedSimpArgs false
namespace Go.Proofs.Ytidcofjadlfahaa
open Go.RowKit

section
variable {w : World} {aT aX aC : Option Addr} {lT kT lX kX lC kC : Nat}
theorem two_no (N s t : Int) (hN : N < 2) : Calls Try.prog 8 #[.agg #[.int .i64 N, .slice aT lT kT, .slice aX lX kX, .slice aC lC kC], .int .i64 s, .int .i64 t] w fun e w' => e = .returned (.tuple #[.int .i64 0, .int .i64 0, .bool false]) ∧ Below w.heap.size w w' := by
  have HB := Bx.mk (below_alloc (Below.refl w.heap.size w) (.cells #[.int .i64 N, .slice aT lT kT, .slice aX lX kX, .slice aC lC kC] 25))
  go_enter Try.func8, Try.ntmps8
  go_wp2
  go_ret3
  exact ⟨rfl, HB.out⟩
/-- Two vertices, unlike. -/
def twoB (N s t : Int) : Int := if wi s N = wi t N then (wi s N + 1) % N else wi t N
theorem two_yes (N s t : Int) (hN : 2 ≤ N) (h1 : N ≤ 1000) : Calls Try.prog 8 #[.agg #[.int .i64 N, .slice aT lT kT, .slice aX lX kX, .slice aC lC kC], .int .i64 s, .int .i64 t] w fun e w' => e = .returned (.tuple #[.int .i64 (wi s N), .int .i64 (twoB N s t), .bool true]) ∧ Below w.heap.size w w' := by
  have hB := below_alloc (Below.refl w.heap.size w) (.cells #[.int .i64 N, .slice aT lT kT, .slice aX lX kX, .slice aC lC kC] 25)
  have hbox := box_new w #[.int .i64 N, .slice aT lT kT, .slice aX lX kX, .slice aC lC kC] 25
  have WA := fun w => withint_any s N (by omega) (by omega) w
  have WB := fun w => withint_any t N (by omega) (by omega) w
  obtain ⟨x0, x1⟩ := wi_rng s N (by omega)
  have TB := Bx.mk (show twoB N s t = if wi s N = wi t N then (wi s N + 1) % N else wi t N from rfl)
  obtain ⟨x, hx⟩ : ∃ x, wi s N = x := ⟨_, rfl⟩
  obtain ⟨y, hy⟩ : ∃ y, wi t N = y := ⟨_, rfl⟩
  rw [hx] at WA x0 x1
  rw [hy] at WB
  rw [hx, hy] at TB
  clear hy
  have HX := Bx.mk hx
  rw [hx]
  clear hx
  go_enter Try.func8, Try.ntmps8
  go_upto_region 1 with fail
  generalize w.alloc _ = wa at hB hbox ⊢
  generalize w.heap.size = b at hbox ⊢
  have c0 : wa.cell? ⟨b, 0, none⟩ = some (.int .i64 N) := hbox.cell 0
  clear hbox
  go_upto_region 3 with fail
  go_quiet ((go_at_call 24; (first | (with_reducible refine (WA _).mono ?_; rintro e w' ⟨rfl, rfl⟩) | (with_reducible refine (WB _).mono ?_; rintro e w' ⟨rfl, rfl⟩)); first | exact ⟨rfl, _, rfl⟩ | exact ⟨rfl, 0, rfl⟩))
  by_cases hxy : x = y
  · have e1 : (x == y) = true := by simpa using hxy
    have hn0 : ¬ N = 0 := by omega
    have TM : (x + 1) % N = twoB N s t := by rw [TB.out, if_pos hxy]
    have TR := Bx.mk TM
    clear TB hxy TM
    go_wp2
    go_ret3
    exact ⟨by rw [TR.out]; rfl, below_drewN hB _⟩
  · have e1 : (x == y) = false := by simpa using hxy
    have TM : y = twoB N s t := by rw [TB.out, if_neg hxy]
    have TR := Bx.mk TM
    clear TB hxy TM
    go_wp2
    go_ret3
    exact ⟨by rw [← TR.out]; rfl, below_drewN hB _⟩
theorem two_rng {N s t : Int} (hN : 2 ≤ N) : 0 ≤ wi s N ∧ wi s N < N ∧ 0 ≤ twoB N s t ∧ twoB N s t < N ∧ wi s N ≠ twoB N s t := by
  obtain ⟨a, b⟩ := wi_rng s N (by omega)
  obtain ⟨c, d⟩ := wi_rng t N (by omega)
  unfold twoB
  split
  · rename_i h
    refine ⟨a, b, Int.emod_nonneg _ (by omega), Int.emod_lt_of_pos _ (by omega), fun k => ?_⟩
    by_cases e : wi s N + 1 = N
    · rw [e, Int.emod_self] at k
      omega
    · rw [Int.emod_eq_of_lt (by omega) (by omega)] at k
      omega
  · rename_i h
    exact ⟨a, b, c, d, h⟩
end
end Go.Proofs.Ytidcofjadlfahaa
