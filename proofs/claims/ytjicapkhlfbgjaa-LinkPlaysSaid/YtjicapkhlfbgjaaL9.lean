/- The walk of LinkPlays: it returns true, and writes nothing that was there. -/
import Derived.Test.YtjicapkhlfbgjaaLw
set_option linter.unusedVariables false
namespace Go.Proofs.Ytjicapkhlfbgjaa
open Go.RowKit

set_option maxHeartbeats 3200000 in
theorem plays_walk (s raw : Int) (a : Option Addr) (len cap : Nat) (zs : List Int) (w : World) (hz : RowOf w a len zs) :
    Calls Try.prog 9 #[.int .i64 s, .slice a len cap, .int .i64 raw] w fun e w' => e = .returned (.bool true) ∧ Below w.heap.size w w' := by
  have hs := wi_rng s 15 (by omega)
  obtain ⟨m, hm⟩ : ∃ m : Nat, 1 + wi s 15 = (m : Int) := ⟨(1 + wi s 15).toNat, by omega⟩
  have hm0 : 0 < m := by omega
  have hm1 : m ≤ 15 := by omega
  go_enter Try.func9, Try.ntmps9
  go_wp2_with fail
  refine (known_any _).mono ?_
  rintro e w1 ⟨rfl, hB1⟩
  go_wp2_with fail
  refine (within_any s 15 (by omega) (by omega) _).mono ?_
  rintro e w' ⟨rfl, rfl⟩
  go_wp2_with fail
  refine (p_new m m (by omega) _).mono ?_
  rintro e w2 ⟨g, rfl, hF, hB⟩
  have hB2 := below_below hB1 hB
  have hs1 := hB1.size
  have hs2 := hB.size
  clear hB hB1
  go_wp2_with fail
  refine (r_new m hm0 (by omega) _).mono ?_
  rintro e w3 ⟨x, rfl, hX, hB⟩
  have hF3 := forest_kept hF hB
  have hB3 := below_below hB2 hB
  have hs3 := hB.size
  clear hB hB2 hF
  have hP : Pair w3 w1.heap.size w3.heap.size g x m := ⟨_, _, _, _, _, _, Nat.le_refl _, Nat.le_refl _, Nat.le_refl _, hs2, hs3, good_zeros _, hF3, hX⟩
  clear hF3 hX
  go_wp2_with fail
  go_loopg [10] 120 (fun q y wr => ∃ i : Nat, y = .int .i64 i ∧ i ≤ 120 ∧ q = 120 - i ∧ Pair wr w1.heap.size w3.heap.size g x m ∧ Below w.heap.size w wr)
  case atStart => exact ⟨0, rfl, by omega, by omega, hP, hB3⟩
  case round =>
    obtain ⟨i, rfl, h0, hq, ⟨a1, b1, c1, d1, U, W, p1, p2, p3, p4, p5, hg, hF, hX⟩, hB⟩ := hrel
    have tail : ∀ (hF : Forest 52 wr a1 b1 g m U W), True := fun _ => trivial
    clear tail
    by_cases h1 : i < len
    · by_cases h2 : i < 120
      · obtain ⟨b, o, rfl, hc⟩ := hz.at hB i h1
        have hi1 : (i : Int) < len := by omega
        have hi2 : (i : Int) < 120 := by omega
        have hwi := wi_rng (zs.getD i 0) 1099511627776 (by omega)
        go_wp2_with fail
        refine (within_any (zs.getD i 0) 1099511627776 (by omega) (by omega) _).mono ?_
        rintro e w' ⟨rfl, rfl⟩
        go_wp2_with fail
        refine (step_any _ raw hwi.1 (by omega) p1 p2 p3 p4 p5 hF hX hg (by omega) hm0).mono ?_
        rintro e w5 ⟨rfl, hP5, hR5⟩
        have hB5 := hB.trans (hR5.below hs1 hB.size)
        go_wp2
        go_roundg (120 - (i + 1))
        case rel => exact ⟨i + 1, rfl, by omega, rfl, hP5, hB5⟩
        case measure => omega
      · have hi1 : (i : Int) < len := by omega
        have hi2 : ¬ (i : Int) < 120 := by omega
        go_wp2_with fail
        refine (same_any hF hX hg (by omega)).mono ?_
        rintro e w' ⟨rfl, rfl⟩
        go_wp2
        go_ret
        exact ⟨rfl, hB⟩
    · have hi1 : ¬ (i : Int) < len := by omega
      go_wp2_with fail
      refine (same_any hF hX hg (by omega)).mono ?_
      rintro e w' ⟨rfl, rfl⟩
      go_wp2
      go_ret
      exact ⟨rfl, hB⟩
end Go.Proofs.Ytjicapkhlfbgjaa
