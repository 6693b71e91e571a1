/- known: what is told of one vertex, and of one edge. -/
import Derived.Test.YtjeddcijefnbfaaSp
import Derived.Test.YtjeddcijefnbfaaRr
import Derived.Test.YtjeddcijefnbfaaLf
import Derived.Test.YtjeddcijefnbfaaWy
import Derived.Deep.RegionHeld3
set_option linter.unusedVariables false
set_option linter.unusedSimpArgs false
namespace Go.Proofs.Ytjeddcijefnbfaa
open Go.RowKit

theorem two_rng : ∀ d : Int, 0 ≤ d → d < (([0, 1] : List Int).length : Int) → 0 ≤ rd [0, 1] d ∧ rd [0, 1] d < ((2 : Nat) : Int) := by
  intro d h0 h1
  have h1' : d < 2 := h1
  rcases (by omega : d = 0 ∨ d = 1) with rfl | rfl <;> decide
theorem span_one (w : World) : Calls Try.prog 15 #[.agg #[.int .i64 1, .slice none 0 0, .slice none 0 0, .slice none 0 0], .int .i64 0] w fun e w' => ∃ v, e = .returned v ∧ Own w' w.heap.size v [-1] ∧ Below w.heap.size w w' :=
  span_any (aT := none) (aX := none) (aC := none) (cT := 0) (cX := 0) (cC := 0) (T := []) (X := []) (C := []) (m := 1) (r := 0) (RowOf.nil _ _) (by decide) (by decide) (by decide) (fun d h0 h1 => by simp at h1; omega) (by decide) (by decide)
section
variable {w : World} {aT aX aC aU : Option Addr} {cT cX cC cU : Nat}
theorem span_two (hT : RowOf w aT [0, 1]) : Calls Try.prog 15 #[.agg #[.int .i64 2, .slice aT 2 cT, .slice aX 2 cX, .slice aC 2 cC], .int .i64 0] w fun e w' => ∃ v, e = .returned v ∧ Own w' w.heap.size v [-1, 1] ∧ Below w.heap.size w w' :=
  span_any (aT := aT) (T := [0, 1]) (X := [0, 1]) (C := [5, 3]) (m := 2) (r := 0) hT (by decide) (by decide) (by decide) two_rng (by decide) (by decide)
theorem tree_two : IsTree [0, 1] [-1, 1] 2 0 := by
  refine ⟨rfl, by decide, by decide, ?_, ?_⟩ <;> intro v h0 h1 <;> rcases (by omega : v = 0 ∨ v = 1) with rfl | rfl
  · exact ⟨fun _ => rfl, fun h => absurd rfl h⟩
  · exact ⟨fun h => absurd h (by decide), fun _ => by decide⟩
  · decide
  · decide
theorem right_two (hT : RowOf w aT [0, 1]) (hU : RowOf w aU [-1, 1]) : Calls Try.prog 18 #[.agg #[.int .i64 2, .slice aT 2 cT, .slice aX 2 cX, .slice aC 2 cC], .slice aU 2 cU, .int .i64 0] w fun e w' => e = .returned (.bool true) ∧ Below w.heap.size w w' := by
  refine (right_any (aT := aT) (aU := aU) (T := [0, 1]) (X := [0, 1]) (C := [5, 3]) (up := [-1, 1]) (m := 2) (r := 0) (cT := cT) (cX := cX) (cC := cC) (cU := cU) hT hU (by decide) (by decide) (by decide) (by decide) (by decide) two_rng).mono ?_
  rintro e w' ⟨b, rfl, hb, hB⟩
  exact ⟨by rw [hb.2 tree_two], hB⟩
theorem left_two (hU : RowOf w aU [-1, 1]) : Calls Try.prog 19 #[.agg #[.int .i64 2, .slice aT 2 cT, .slice aX 2 cX, .slice aC 2 cC], .slice aU 2 cU] w fun e w' => (∃ a c, e = .returned (.slice a 0 c)) ∧ Below w.heap.size w w' := by
  refine (left_any (N := 2) (T := [0, 1]) (X := [0, 1]) (C := [5, 3]) (up := [-1, 1]) (aT := aT) (aX := aX) (aC := aC) (cT := cT) (cX := cX) (cC := cC) (cU := cU) hU (by decide) (by decide) (by decide)).mono ?_
  rintro e w' ⟨v, rfl, hv, hB⟩
  obtain ⟨a, c, rfl, _⟩ := hv.row
  exact ⟨⟨a, c, rfl⟩, hB⟩
theorem way_two (hT : RowOf w aT [0, 1]) (hU : RowOf w aU [-1, 1]) : Calls Try.prog 21 #[.agg #[.int .i64 2, .slice aT 2 cT, .slice aX 2 cX, .slice aC 2 cC], .slice aU 2 cU, .int .i64 1] w fun e w' => ∃ v, e = .returned v ∧ Own w' w.heap.size v [1] ∧ Below w.heap.size w w' :=
  way_any (N := 2) (T := [0, 1]) (X := [0, 1]) (C := [5, 3]) (up := [-1, 1]) (aT := aT) (aX := aX) (aC := aC) (cT := cT) (cX := cX) (cC := cC) (cU := cU) 1 hT hU (by decide) (by decide) (by decide) two_rng (by
    intro v h0 h1
    have h1' : v < 2 := h1
    rcases (by omega : v = 0 ∨ v = 1) with rfl | rfl <;> decide) (by decide) (by decide)
end

set_option maxHeartbeats 3200000 in
theorem known_any (w : World) : Calls Try.prog 12 #[] w fun e w' => e = .returned (.bool true) ∧ Below w.heap.size w w' := by
  go_enter Try.func12, Try.ntmps12
  go_upto_region 2 with fail
  have hB : Below w.heap.size w ((((w.alloc (.cells #[.int .i64 0, .int .i64 1] 3)).alloc (.cells #[.int .i64 0, .int .i64 1] 3)).alloc (.cells #[.int .i64 5, .int .i64 3] 3)).alloc (.cells #[.int .i64 2, .slice (some ⟨w.heap.size, 0, none⟩) 2 2, .slice (some ⟨w.heap.size + 1, 0, none⟩) 2 2, .slice (some ⟨w.heap.size + 1 + 1, 0, none⟩) 2 2] 25)) := below_alloc (below_alloc (below_alloc (below_alloc (Below.refl _ _) _) _) _) _
  have hbox : BoxN ((((w.alloc (.cells #[.int .i64 0, .int .i64 1] 3)).alloc (.cells #[.int .i64 0, .int .i64 1] 3)).alloc (.cells #[.int .i64 5, .int .i64 3] 3)).alloc (.cells #[.int .i64 2, .slice (some ⟨w.heap.size, 0, none⟩) 2 2, .slice (some ⟨w.heap.size + 1, 0, none⟩) 2 2, .slice (some ⟨w.heap.size + 1 + 1, 0, none⟩) 2 2] 25)) (w.heap.size + 1 + 1 + 1) #[.int .i64 2, .slice (some ⟨w.heap.size, 0, none⟩) 2 2, .slice (some ⟨w.heap.size + 1, 0, none⟩) 2 2, .slice (some ⟨w.heap.size + 1 + 1, 0, none⟩) 2 2] 25 := by
    have h := box_new (((w.alloc (.cells #[.int .i64 0, .int .i64 1] 3)).alloc (.cells #[.int .i64 0, .int .i64 1] 3)).alloc (.cells #[.int .i64 5, .int .i64 3] 3)) #[.int .i64 2, .slice (some ⟨w.heap.size, 0, none⟩) 2 2, .slice (some ⟨w.heap.size + 1, 0, none⟩) 2 2, .slice (some ⟨w.heap.size + 1 + 1, 0, none⟩) 2 2] 25
    simpa using h
  have hT : RowOf ((((w.alloc (.cells #[.int .i64 0, .int .i64 1] 3)).alloc (.cells #[.int .i64 0, .int .i64 1] 3)).alloc (.cells #[.int .i64 5, .int .i64 3] 3)).alloc (.cells #[.int .i64 2, .slice (some ⟨w.heap.size, 0, none⟩) 2 2, .slice (some ⟨w.heap.size + 1, 0, none⟩) 2 2, .slice (some ⟨w.heap.size + 1 + 1, 0, none⟩) 2 2] 25)) (some ⟨w.heap.size, 0, none⟩) [0, 1] :=
    (((row_new w [0, 1]).keep (below_alloc (Below.refl _ _) _)).keep (below_alloc (Below.refl _ _) _)).keep (below_alloc (Below.refl _ _) _)
  generalize ((((w.alloc _).alloc _).alloc _).alloc _) = wa at hB hbox hT ⊢
  generalize w.heap.size + 1 + 1 + 1 = b at hbox ⊢
  obtain ⟨aT, hT0⟩ : ∃ aT, aT = (some ⟨w.heap.size, 0, none⟩ : Option Addr) := ⟨_, rfl⟩
  obtain ⟨aX, hX0⟩ : ∃ aX, aX = (some ⟨w.heap.size + 1, 0, none⟩ : Option Addr) := ⟨_, rfl⟩
  obtain ⟨aC, hC0⟩ : ∃ aC, aC = (some ⟨w.heap.size + 1 + 1, 0, none⟩ : Option Addr) := ⟨_, rfl⟩
  rw [← hT0] at hT
  rw [← hT0, ← hX0, ← hC0] at hbox ⊢
  clear hT0 hX0 hC0
  have HK : Bx (∀ W, Below wa.heap.size wa W → Below wa.heap.size wa W ∧ W.cell? ⟨b, 0, none⟩ = some (.int .i64 2) ∧ W.cell? ⟨b, 1, none⟩ = some (.slice aT 2 2) ∧ W.cell? ⟨b, 2, none⟩ = some (.slice aX 2 2) ∧ W.cell? ⟨b, 3, none⟩ = some (.slice aC 2 2)) := ⟨fun W h => ⟨h, (hbox.keep h).cell 0, (hbox.keep h).cell 1, (hbox.keep h).cell 2, (hbox.keep h).cell 3⟩⟩
  clear hbox
  go_region_held3 (fun W => Below wa.heap.size wa W ∧ W.cell? ⟨b, 0, none⟩ = some (.int .i64 2) ∧ W.cell? ⟨b, 1, none⟩ = some (.slice aT 2 2) ∧ W.cell? ⟨b, 2, none⟩ = some (.slice aX 2 2) ∧ W.cell? ⟨b, 3, none⟩ = some (.slice aC 2 2))
    (first | exact HK.out _ (below_below (And.left ‹_ ∧ _›) hB1) | exact HK.out _ (Below.drew (Below.refl _ _)))
    (first
      | (go_at_call 15; (with_reducible refine (span_one _).mono ?_); rintro e W1 ⟨v1, rfl, o1, hB1⟩)
      | (go_at_call 15; (with_reducible refine (span_two (hT.keep (And.left ‹_ ∧ _›))).mono ?_); rintro e W2 ⟨v2, rfl, o2, hB1⟩; replace o1 := o1.keep hB1))
  have B2 : Below wa.heap.size wa W2 := And.left ‹Below wa.heap.size wa W2 ∧ _›
  clear hB1
  obtain ⟨a1, c1, e1, r1⟩ := o1.row
  obtain ⟨a2, c2, e2, r2⟩ := o2.row
  replace e1 : v1 = .slice a1 1 c1 := e1
  replace e2 : v2 = .slice a2 2 c2 := e2
  subst e1 e2
  have B3 := below_alloc B2 (.cells #[.int .i64 (-1), .int .i64 1] 3)
  obtain ⟨_, k0, k1, k2, k3⟩ := HK.out _ B2
  obtain ⟨_, m0, m1, m2, m3⟩ := HK.out _ B3
  have r1' := r1.keep (below_alloc (Below.refl _ _) (.cells #[.int .i64 (-1), .int .i64 1] 3))
  have r2' := r2.keep (below_alloc (Below.refl _ _) (.cells #[.int .i64 (-1), .int .i64 1] 3))
  have nU := row_new W2 [-1, 1]
  have WT := way_two (cX := 2) (cT := 2) (cC := 2) (aX := aX) (aC := aC) (cU := 2) (hT.keep B3) nU
  clear r1 r2 o1 o2
  go_wp2_with fail
  refine WT.mono ?_
  rintro e W4 ⟨v4, rfl, o4, hB4⟩
  have B4 := below_below B3 hB4
  obtain ⟨a4, c4, e4, r4⟩ := o4.row
  replace e4 : v4 = .slice a4 1 c4 := e4
  subst e4
  have r1 := r1'.keep hB4
  have r2 := r2'.keep hB4
  clear WT k0 k1 k2 k3 m0 m1 m2 m3 r1' r2' nU B3 hB4 o4
  obtain ⟨_, k0, k1, k2, k3⟩ := HK.out _ B4
  obtain ⟨b1, o1, rfl, _, u1⟩ := r1 0 (by decide) (by decide)
  obtain ⟨b2, o2, rfl, _, u2⟩ := r2 1 (by decide) (by decide)
  replace u1 : W4.cell? ⟨b1, o1, none⟩ = some (.int .i64 (-1)) := u1
  replace u2 : W4.cell? ⟨b2, o2 + 1, none⟩ = some (.int .i64 1) := u2
  have RT := right_two (cX := 2) (cT := 2) (cC := 2) (aX := aX) (aC := aC) (cU := c2) (hT.keep B4) r2
  go_wp2_with fail
  refine RT.mono ?_
  rintro e W5 ⟨rfl, hB5⟩
  have B5 := below_below B4 hB5
  have r2' := r2.keep hB5
  have r4' := r4.keep hB5
  clear RT k0 k1 k2 k3 u1 u2 r1 r2 r4 hB5
  obtain ⟨_, k0, k1, k2, k3⟩ := HK.out _ B5
  have LT := left_two (cX := 2) (cT := 2) (cC := 2) (aT := aT) (aX := aX) (aC := aC) (cU := c2) r2'
  go_wp2_with fail
  refine LT.mono ?_
  rintro e W6 ⟨⟨a6, c6, rfl⟩, hB6⟩
  have B6 := below_below B5 hB6
  have r4 := r4'.keep hB6
  clear LT k0 k1 k2 k3 r2' r4' hB6
  obtain ⟨b4, o4, rfl, _, u4⟩ := r4 0 (by decide) (by decide)
  replace u4 : W6.cell? ⟨b4, o4, none⟩ = some (.int .i64 1) := u4
  go_wp2
  go_ret
  exact ⟨rfl, below_below hB B6⟩
end Go.Proofs.Ytjeddcijefnbfaa
