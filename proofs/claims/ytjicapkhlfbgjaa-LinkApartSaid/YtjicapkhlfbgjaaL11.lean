/- The walk of LinkApart: it returns true, and writes nothing that was there. -/
import Derived.Test.YtjicapkhlfbgjaaLw
set_option linter.unusedVariables false
namespace Go.Proofs.Ytjicapkhlfbgjaa
open Go.RowKit

theorem rng_of_below {w w' : World} (h : Below w.heap.size w w') : Rng w.heap.size w.heap.size w w' := ⟨h.os, h.tape, h.output, h.size, fun i hi _ => h.block i hi⟩
theorem Pair.other {w w' : World} {lo hi lo' hi' f x n : Nat} (h : Pair w lo hi f x n) (hr : Rng lo' hi' w w') (hd : hi ≤ lo' ∨ hi' ≤ lo) : Pair w' lo hi f x n := by
  obtain ⟨a, b, c, d, U, W, p1, p2, p3, p4, p5, hg, hF, hX⟩ := h
  exact ⟨a, b, c, d, U, W, p1, p2, p3, p4, p5, hg, hF.other hr (by omega), hX.other hr (by omega)⟩
theorem step_pair {w : World} {lo hi f x n : Nat} (s raw : Int) (hs0 : 0 ≤ s) (hs1 : s < 1125899906842624) (h : Pair w lo hi f x n) (hn : n ≤ 300) (hn0 : 0 < n) :
    Calls Try.prog 28 #[.pointer (some ⟨f, 0, none⟩), .pointer (some ⟨x, 0, none⟩), .int .i64 s, .int .i64 n, .int .i64 raw] w fun e w' => e = .returned (.bool true) ∧ Pair w' lo hi f x n ∧ Rng lo hi w w' := by
  obtain ⟨a, b, c, d, U, W, p1, p2, p3, p4, p5, hg, hF, hX⟩ := h
  exact step_any s raw hs0 hs1 p1 p2 p3 p4 p5 hF hX hg hn hn0
theorem same_pair {w : World} {lo hi f x n : Nat} (h : Pair w lo hi f x n) (hn : n ≤ 300) :
    Calls Try.prog 21 #[.pointer (some ⟨f, 0, none⟩), .pointer (some ⟨x, 0, none⟩), .int .i64 n] w fun e w' => e = .returned (.bool true) ∧ w = w' := by
  obtain ⟨a, b, c, d, U, W, p1, p2, p3, p4, p5, hg, hF, hX⟩ := h
  exact same_any hF hX hg hn

set_option maxHeartbeats 6400000 in
theorem apart_walk (raw : Int) (a : Option Addr) (len cap : Nat) (zs : List Int) (a2 : Option Addr) (len2 cap2 : Nat) (ys : List Int) (w : World) (hz : RowOf w a len zs) (hy : RowOf w a2 len2 ys) :
    Calls Try.prog 11 #[.slice a len cap, .slice a2 len2 cap2, .int .i64 raw] w fun e w' => e = .returned (.bool true) ∧ Below w.heap.size w w' := by
  go_enter Try.func11, Try.ntmps11
  go_wp2_with fail
  refine (known_any _).mono ?_
  rintro e w1 ⟨rfl, hB1⟩
  go_wp2_with fail
  refine (p_new 9 9 (by decide) _).mono ?_
  rintro e w2 ⟨f, rfl, hF, hB⟩
  have hs1 := hB1.size
  have hs2 := hB.size
  have hB2 := below_below hB1 hB
  clear hB hB1
  go_wp2_with fail
  refine (r_new 9 (by decide) (by decide) _).mono ?_
  rintro e w3 ⟨x, rfl, hX, hB⟩
  have hF3 := forest_kept hF hB
  have hs3 := hB.size
  have hB3 := below_below hB2 hB
  clear hB hB2 hF
  have hP : Pair w3 w1.heap.size w3.heap.size f x 9 := ⟨_, _, _, _, _, _, Nat.le_refl _, Nat.le_refl _, Nat.le_refl _, hs2, hs3, good_zeros _, hF3, hX⟩
  clear hF3 hX
  go_wp2_with fail
  refine (p_new 7 7 (by decide) _).mono ?_
  rintro e w4 ⟨g, rfl, hF, hB⟩
  have hs4 := hB.size
  have hP4 := hP.other (rng_of_below hB) (.inl (Nat.le_refl _))
  have hB4 := below_below hB3 hB
  clear hB hB3 hP
  go_wp2_with fail
  refine (r_new 7 (by decide) (by decide) _).mono ?_
  rintro e w5 ⟨y, rfl, hX, hB⟩
  have hs5 := hB.size
  have hF5 := forest_kept hF hB
  have hP5 := hP4.other (rng_of_below hB) (.inl hs4)
  have hB5 := below_below hB4 hB
  clear hB hB4 hP4 hF
  have hQ5 : Pair w5 w3.heap.size w5.heap.size g y 7 := ⟨_, _, _, _, _, _, Nat.le_refl _, Nat.le_refl _, Nat.le_refl _, hs4, hs5, good_zeros _, hF5, hX⟩
  clear hF5 hX
  go_wp2_with fail
  go_loopg [11] 50 (fun q y0 wr => ∃ i : Nat, y0 = .int .i64 i ∧ i ≤ 50 ∧ q = 50 - i ∧ Pair wr w1.heap.size w3.heap.size f x 9 ∧ Pair wr w3.heap.size w5.heap.size g y 7 ∧ Below w.heap.size w wr)
  case atStart => exact ⟨0, rfl, by omega, by omega, hP5, hQ5, hB5⟩
  case round =>
    clear hP5 hQ5 hB5
    obtain ⟨i, rfl, h0, hq, hP, hQ, hB⟩ := hrel
    by_cases h2 : i < 50
    · have hi2 : (i : Int) < 50 := by omega
      by_cases h1 : i < len
      · obtain ⟨b, o, rfl, hc⟩ := hz.at hB i h1
        have hi1 : (i : Int) < len := by omega
        have hwi := wi_rng (zs.getD i 0) 1099511627776 (by omega)
        go_wp2_with fail
        refine (within_any (zs.getD i 0) 1099511627776 (by omega) (by omega) _).mono ?_
        rintro e w' ⟨rfl, rfl⟩
        go_wp2_with fail
        refine (step_pair (n := 9) _ raw hwi.1 (by omega) hP (by decide) (by decide)).mono ?_
        rintro e w6 ⟨rfl, hP6, hR6⟩
        have hB6 := hB.trans (hR6.below hs1 hB.size)
        have hQ6 := hQ.other hR6 (.inr (Nat.le_refl _))
        by_cases h3 : i < len2
        · obtain ⟨b3, o3, rfl, hc3⟩ := hy.at hB6 i h3
          have hi3 : (i : Int) < len2 := by omega
          have hwi3 := wi_rng (ys.getD i 0) 1099511627776 (by omega)
          go_wp2_with fail
          refine (within_any (ys.getD i 0) 1099511627776 (by omega) (by omega) _).mono ?_
          rintro e w' ⟨rfl, rfl⟩
          go_wp2_with fail
          refine (step_pair (n := 7) _ raw hwi3.1 (by omega) hQ6 (by decide) (by decide)).mono ?_
          rintro e w7 ⟨rfl, hQ7, hR7⟩
          have hB7 := hB6.trans (hR7.below (by omega) hB6.size)
          have hP7 := hP6.other hR7 (.inl (Nat.le_refl _))
          go_wp2
          go_roundg (50 - (i + 1))
          case rel => exact ⟨i + 1, rfl, by omega, rfl, hP7, hQ7, hB7⟩
          case measure => omega
        · have hi3 : ¬ (i : Int) < len2 := by omega
          have hP7 := hP6
          have hQ7 := hQ6
          have hB7 := hB6
          go_wp2
          go_roundg (50 - (i + 1))
          case rel => exact ⟨i + 1, rfl, by omega, rfl, hP7, hQ7, hB7⟩
          case measure => omega
      · have hi1 : ¬ (i : Int) < len := by omega
        have hP6 := hP
        have hQ6 := hQ
        have hB6 := hB
        by_cases h3 : i < len2
        · obtain ⟨b3, o3, rfl, hc3⟩ := hy.at hB6 i h3
          have hi3 : (i : Int) < len2 := by omega
          have hwi3 := wi_rng (ys.getD i 0) 1099511627776 (by omega)
          go_wp2_with fail
          refine (within_any (ys.getD i 0) 1099511627776 (by omega) (by omega) _).mono ?_
          rintro e w' ⟨rfl, rfl⟩
          go_wp2_with fail
          refine (step_pair (n := 7) _ raw hwi3.1 (by omega) hQ6 (by decide) (by decide)).mono ?_
          rintro e w7 ⟨rfl, hQ7, hR7⟩
          have hB7 := hB6.trans (hR7.below (by omega) hB6.size)
          have hP7 := hP6.other hR7 (.inl (Nat.le_refl _))
          go_wp2
          go_roundg (50 - (i + 1))
          case rel => exact ⟨i + 1, rfl, by omega, rfl, hP7, hQ7, hB7⟩
          case measure => omega
        · have hi3 : ¬ (i : Int) < len2 := by omega
          have hP7 := hP6
          have hQ7 := hQ6
          have hB7 := hB6
          go_wp2
          go_roundg (50 - (i + 1))
          case rel => exact ⟨i + 1, rfl, by omega, rfl, hP7, hQ7, hB7⟩
          case measure => omega
    · have hi2 : ¬ (i : Int) < 50 := by omega
      go_wp2_with fail
      refine (same_pair (n := 9) hP (by decide)).mono ?_
      rintro e w' ⟨rfl, rfl⟩
      go_wp2_with fail
      refine (same_pair (n := 7) hQ (by decide)).mono ?_
      rintro e w' ⟨rfl, rfl⟩
      go_wp2
      go_ret
      exact ⟨rfl, hB⟩
end Go.Proofs.Ytjicapkhlfbgjaa
