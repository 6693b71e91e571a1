/- Small functions of the laws: within, bit. -/
import Derived.Test.YtjicapkhlfbgjaaNr
import Derived.Test.YtjicapkhlfbgjaaWp
import Derived.Test.YtjicapkhlfbgjaaWr
import Derived.Test.YtjicapkhlfbgjaaLp
import Derived.Test.YtjicapkhlfbgjaaLr
set_option linter.unusedVariables false
namespace Go.Proofs.Ytjicapkhlfbgjaa
open Go.RowKit

/-- A number from 0 to n - 1. -/
def wi (a n : Int) : Int := a % n
theorem wi_rng (a n : Int) (h : 0 < n) : 0 ≤ wi a n ∧ wi a n < n := ⟨Int.emod_nonneg _ (by omega), Int.emod_lt_of_pos _ h⟩
theorem wi_neg (a n : Int) (h : 0 < n) (k : a.tmod n < 0) : a.tmod n + n = wi a n := by
  unfold wi
  have h1 := Int.emod_add_mul_ediv a n
  have h2 := Int.tmod_add_mul_tdiv a n
  have h3 := Int.emod_nonneg a (b := n) (by omega)
  have h4 := Int.emod_lt_of_pos a h
  have h5 : -n < a.tmod n := Int.lt_tmod_of_pos a h
  have h6 : (a.tmod n + n) % n = a % n := by
    rw [Int.add_emod_right]
    conv => rhs; rw [← h2]
    rw [Int.add_mul_emod_self_left]
  rw [← h6, Int.emod_eq_of_lt (by omega) (by omega)]
theorem wi_pos (a n : Int) (h : 0 < n) (k : ¬ a.tmod n < 0) : a.tmod n = wi a n := by
  unfold wi
  have h2 := Int.tmod_add_mul_tdiv a n
  have h5 : a.tmod n < n := Int.tmod_lt_of_pos a h
  conv => rhs; rw [← h2]
  rw [Int.add_mul_emod_self_left, Int.emod_eq_of_lt (by omega) h5]

theorem within_any (a n : Int) (h0 : 0 < n) (h1 : n ≤ 1125899906842624) (w : World) : Calls Try.prog 14 #[.int .i64 a, .int .i64 n] w fun e w' => e = .returned (.int .i64 (wi a n)) ∧ w = w' := by
  have hn : ¬ n = 0 := by omega
  have h5 : -n < a.tmod n := Int.lt_tmod_of_pos a h0
  have h6 : a.tmod n < n := Int.tmod_lt_of_pos a h0
  by_cases hk : a.tmod n < 0
  · have E := Bx.mk (wi_neg a n h0 hk)
    go_enter Try.func14, Try.ntmps14
    go_wp2
    go_ret
    rw [← E.out]
    exact ⟨rfl, rfl⟩
  · have E := Bx.mk (wi_pos a n h0 hk)
    go_enter Try.func14, Try.ntmps14
    go_wp2
    go_ret
    rw [← E.out]
    exact ⟨rfl, rfl⟩

/-! ### the chapter's example -/
theorem forest_kept {T : TypeId} {w w' : World} {lo hi g n : Nat} {U W : List Int} (h : Forest T w lo hi g n U W) (hb : Below w.heap.size w w') : Forest T w' lo hi g n U W := by
  obtain ⟨bu, bw, cu, cw, k⟩ := h
  exact ⟨bu, bw, cu, cw, k.other (lo' := w.heap.size) (hi' := w.heap.size) ⟨hb.os, hb.tape, hb.output, hb.size, fun i hi _ => hb.block i hi⟩ (.inl k.size)⟩
theorem below_rng {w a w' : World} {lo hi : Nat} (h : Below w.heap.size w a) (k : Rng lo hi a w') (hl : w.heap.size ≤ lo) : Below w.heap.size w w' := h.trans (k.below hl h.size)
theorem below_below {w a w' : World} (h : Below w.heap.size w a) (k : Below a.heap.size a w') : Below w.heap.size w w' := below_of h k h.size
theorem kU1 : linkU (zeros (-1) 3) 0 1 = [1, -1, -1] ∧ linkW (zeros (-1) 3) (zeros 0 3) 0 1 5 = [5, 0, 0] ∧ linkE (zeros (-1) 3) 0 1 = 0 := by
  have r : rootV (zeros (-1) 3) 1 = 1 := root_root (by decide) (by decide) (by decide)
  have e : linkE (zeros (-1) 3) 0 1 = 0 := by
    unfold linkE
    rw [if_neg (by decide), if_neg (by decide), if_neg (by rw [r]; decide)]
  exact ⟨by unfold linkU; rw [if_pos e]; rfl, by unfold linkW; rw [if_pos e]; rfl, e⟩
theorem kU2 : linkU [1, -1, -1] 1 2 = [1, 2, -1] ∧ linkW [1, -1, -1] [5, 0, 0] 1 2 3 = [5, 3, 0] ∧ linkE [1, -1, -1] 1 2 = 0 := by
  have r : rootV [1, -1, -1] 2 = 2 := root_root (by decide) (by decide) (by decide)
  have e : linkE [1, -1, -1] 1 2 = 0 := by
    unfold linkE
    rw [if_neg (by decide), if_neg (by decide), if_neg (by rw [r]; decide)]
  exact ⟨by unfold linkU; rw [if_pos e]; rfl, by unfold linkW; rw [if_pos e]; rfl, e⟩
theorem kway : way [1, 2, -1] 0 = [0, 1, 2] :=
  (Way.step (by decide) (by decide) (.step (by decide) (by decide) (root_self (by decide) (by decide) (by decide))) : Way [1, 2, -1] 0 [0, 1, 2]).way
theorem kleast : leastT [1, 2, -1] [5, 3, 0] 0 = (1, 3, true) := by
  unfold leastT
  rw [if_pos (by decide), kway]
  decide
theorem kturn : turnedU [1, 2, -1] 0 = [-1, 0, 1] := by
  unfold turnedU
  rw [if_pos (by decide), kway]
  decide
theorem kroot : rootA [-1, 0, 1] 2 = 0 := by
  unfold rootA
  rw [if_pos (by decide)]
  exact (Way.step (by decide) (by decide) (.step (by decide) (by decide) (root_self (by decide) (by decide) (by decide))) : Way [-1, 0, 1] 2 [2, 1, 0]).root_eq
theorem kroot2 : rootA (zeros (-1) 2) 1 = 1 := by
  unfold rootA
  rw [if_pos (by decide)]
  exact root_root (by decide) (by decide) (by decide)
theorem kgood : Good (zeros (-1) 3) ∧ Good [1, -1, -1] ∧ Good [1, 2, -1] ∧ Good [-1, 0, 1] := by
  have h0 := good_zeros 3
  have h1 : Good [1, -1, -1] := by have := h0.link 0 1; rwa [kU1.1] at this
  have h2 : Good [1, 2, -1] := by have := h1.link 1 2; rwa [kU2.1] at this
  have h3 : Good [-1, 0, 1] := by have := h2.turned 0; rwa [kturn] at this
  exact ⟨h0, h1, h2, h3⟩

set_option maxHeartbeats 1600000 in
theorem known_any (w : World) : Calls Try.prog 12 #[] w fun e w' => e = .returned (.bool true) ∧ Below w.heap.size w w' := by
  go_enter Try.func12, Try.ntmps12
  go_wp2_with fail
  refine (p_new 3 3 (by decide) _).mono ?_
  rintro e w1 ⟨g, rfl, hF, hB⟩
  go_wp2_with fail
  refine (p_link 0 1 5 hF kgood.1).mono ?_
  rintro e w2 ⟨rfl, hF2, hR2⟩
  rw [kU1.1, kU1.2.1] at hF2
  rw [kU1.2.2]
  have hB2 := below_rng hB hR2 (Nat.le_refl _)
  clear hF hR2 hB
  go_wp2_with fail
  refine (p_link 1 2 3 hF2 kgood.2.1).mono ?_
  rintro e w3 ⟨rfl, hF3, hR3⟩
  rw [kU2.1, kU2.2.1] at hF3
  rw [kU2.2.2]
  have hB3 := below_rng hB2 hR3 (Nat.le_refl _)
  clear hF2 hR3 hB2
  go_wp2_with fail
  refine (p_least 0 hF3 kgood.2.2.1).mono ?_
  rintro e w4 ⟨rfl, hF4, hR4⟩
  rw [kleast]
  have hB4 := below_rng hB3 hR4 (Nat.le_refl _)
  clear hF3 hR4 hB3
  go_wp2_with fail
  refine (p_turn 0 hF4 kgood.2.2.1).mono ?_
  rintro e w5 ⟨rfl, hF5, hR5⟩
  rw [kturn] at hF5
  rw [show isv [1, 2, -1] 0 = true from rfl]
  have hB5 := below_rng hB4 hR5 (Nat.le_refl _)
  clear hF4 hR5 hB4
  go_wp2_with fail
  refine (p_up 2 hF5 kgood.2.2.2).mono ?_
  rintro e w6 ⟨rfl, rfl⟩
  rw [show upA [-1, 0, 1] 2 = 1 from rfl, show hasUp [-1, 0, 1] 2 = true from rfl]
  go_wp2_with fail
  refine (p_new 2 2 (by decide) _).mono ?_
  rintro e w7 ⟨g2, rfl, hF7, hB7⟩
  have hF6 := forest_kept hF5 hB7
  have hB8 := below_below hB5 hB7
  clear hF5 hB5 hB7
  go_wp2_with fail
  refine (p_root 1 hF7 (good_zeros 2)).mono ?_
  rintro e w8 ⟨rfl, rfl⟩
  rw [kroot2]
  go_wp2_with fail
  refine (p_root 2 hF6 kgood.2.2.2).mono ?_
  rintro e w9 ⟨rfl, rfl⟩
  rw [kroot]
  go_wp2
  go_ret
  exact ⟨rfl, hB8⟩
end Go.Proofs.Ytjicapkhlfbgjaa
