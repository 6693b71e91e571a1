/- Where a dart ends; a dart laid behind another one. -/
import Derived.Test.YtidcofjadlfahaaSm
set_option linter.unusedVariables false
namespace Go.Proofs.Ytidcofjadlfahaa
open Go.RowKit

theorem other_any (d : Int) (h0 : 0 ≤ d) (h1 : d < 256) (w : World) : Calls Try.prog 62 #[.int .i64 d] w fun e w' => e = .returned (.int .i64 (ot d)) ∧ w = w' := by
  have hx := xor_one d h0 h1
  go_enter Try.func62, Try.ntmps62
  go_wp2
  go_ret
  exact ⟨rfl, rfl⟩
section
variable {N : Int} {aT aX aC : Option Addr} {cT cX cC : Nat} {T X C : List Int} {w : World}
theorem rhead_any (d : Int) (hT : RowOf w aT T) (h0 : 0 ≤ d) (h1 : d < T.length) (he : (T.length : Int) % 2 = 0) (hm : T.length ≤ 240) :
    Calls Try.prog 61 #[(.agg #[.int .i64 N, .slice aT T.length cT, .slice aX X.length cX, .slice aC C.length cC]), .int .i64 d] w fun e w' => e = .returned (.int .i64 (rd T (ot d))) ∧ Below w.heap.size w w' := by
  have ho := ot_rng d T.length h0 h1 he
  have hx := xor_one d h0 (by omega)
  have hB := below_alloc (Below.refl w.heap.size w) (.cells #[.int .i64 N, .slice aT T.length cT, .slice aX X.length cX, .slice aC C.length cC] 25)
  obtain ⟨b, o, rfl, hc⟩ := hT.at hB (ot d) ho.1 ho.2
  go_enter Try.func61, Try.ntmps61
  go_wp2
  go_ret
  exact ⟨rfl, hB⟩
theorem head_any (d : Int) (hT : RowOf w aT T) (h0 : 0 ≤ d) (h1 : d < T.length) (he : (T.length : Int) % 2 = 0) (hm : T.length ≤ 240) :
    Calls Try.prog 49 #[(.agg #[.int .i64 N, .slice aT T.length cT, .slice aX X.length cX, .slice aC C.length cC]), .int .i64 d] w fun e w' => e = .returned (.int .i64 (rd T (ot d))) ∧ Below w.heap.size w w' := by
  have ho := ot_rng d T.length h0 h1 he
  have hd : decide (d < 0) = false := decide_eq_false (by omega)
  have hB := below_alloc (Below.refl w.heap.size w) (.cells #[.int .i64 N, .slice aT T.length cT, .slice aX X.length cX, .slice aC C.length cC] 25)
  have hc := hT.at hB (ot d) ho.1 ho.2
  have hge : decide (ot d ≥ (T.length : Int)) = false := decide_eq_false (by omega)
  obtain ⟨b, o, rfl, hc⟩ := hc
  go_enter Try.func49, Try.ntmps49
  go_wp2_with fail
  go_quiet ((go_at_call 62; refine (other_any d h0 (by omega) _).mono ?_; rintro e w' ⟨rfl, rfl⟩; first | exact ⟨rfl, _, rfl⟩ | exact ⟨rfl, 0, rfl⟩))
  go_wp2_with fail
  go_quiet ((go_at_call 62; refine (other_any d h0 (by omega) _).mono ?_; rintro e w' ⟨rfl, rfl⟩; first | exact ⟨rfl, _, rfl⟩ | exact ⟨rfl, 0, rfl⟩))
  go_wp2
  go_ret
  exact ⟨rfl, below_drewN (below_drewN hB _) _⟩
end
end Go.Proofs.Ytidcofjadlfahaa
