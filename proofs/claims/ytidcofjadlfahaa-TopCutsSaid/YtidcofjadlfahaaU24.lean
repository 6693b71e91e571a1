/- The walk of known. -/
import Derived.Test.YtidcofjadlfahaaU23
set_option linter.unusedVariables false
set_option linter.unusedSimpArgs false
namespace Go.Proofs.Ytidcofjadlfahaa
open Go.RowKit

theorem row_lit (w : World) (xs : List Int) (hl : xs.length ≤ 1000) : RowAt (w.alloc (.cells (nums xs).toArray 3)) w.heap.size 0 xs.length xs := (own_lit w w.heap.size xs (Nat.le_refl _) hl).at'
set_option maxHeartbeats 6400000 in
set_option maxRecDepth 100000 in
theorem known_any (w : World) : Calls Try.prog 6 #[] w fun e w' => e = .returned (.bool true) ∧ Below w.heap.size w w' := by
  have b0 := Below.refl w.heap.size w
  have b1 := below_alloc b0 (.cells (nums [0, 1, 0, 1]).toArray 3)
  have b2 := below_alloc b1 (.cells (nums [2, 3, 0, 1]).toArray 3)
  have b3 := below_alloc b2 (.cells (nums [5, 3, 2, 1]).toArray 3)
  have hB := below_alloc b3 (.cells #[.int .i64 2, .slice (some ⟨w.heap.size, 0, none⟩) 4 4, .slice (some ⟨w.heap.size + 1, 0, none⟩) 4 4, .slice (some ⟨w.heap.size + 1 + 1, 0, none⟩) 4 4] 25)
  have rT := (((row_lit w [0, 1, 0, 1] (by decide)).keep (below_alloc (Below.refl _ _) (.cells (nums [2, 3, 0, 1]).toArray 3))).keep (below_alloc (Below.refl _ _) (.cells (nums [5, 3, 2, 1]).toArray 3))).keep (below_alloc (Below.refl _ _) (.cells #[.int .i64 2, .slice (some ⟨w.heap.size, 0, none⟩) 4 4, .slice (some ⟨w.heap.size + 1, 0, none⟩) 4 4, .slice (some ⟨w.heap.size + 1 + 1, 0, none⟩) 4 4] 25))
  have rX := ((row_lit (w.alloc (.cells (nums [0, 1, 0, 1]).toArray 3)) [2, 3, 0, 1] (by decide)).keep (below_alloc (Below.refl _ _) (.cells (nums [5, 3, 2, 1]).toArray 3))).keep (below_alloc (Below.refl _ _) (.cells #[.int .i64 2, .slice (some ⟨w.heap.size, 0, none⟩) 4 4, .slice (some ⟨w.heap.size + 1, 0, none⟩) 4 4, .slice (some ⟨w.heap.size + 1 + 1, 0, none⟩) 4 4] 25))
  have rC := (row_lit ((w.alloc (.cells (nums [0, 1, 0, 1]).toArray 3)).alloc (.cells (nums [2, 3, 0, 1]).toArray 3)) [5, 3, 2, 1] (by decide)).keep (below_alloc (Below.refl _ _) (.cells #[.int .i64 2, .slice (some ⟨w.heap.size, 0, none⟩) 4 4, .slice (some ⟨w.heap.size + 1, 0, none⟩) 4 4, .slice (some ⟨w.heap.size + 1 + 1, 0, none⟩) 4 4] 25))
  have hbox := box_new (((w.alloc (.cells (nums [0, 1, 0, 1]).toArray 3)).alloc (.cells (nums [2, 3, 0, 1]).toArray 3)).alloc (.cells (nums [5, 3, 2, 1]).toArray 3)) #[.int .i64 2, .slice (some ⟨w.heap.size, 0, none⟩) 4 4, .slice (some ⟨w.heap.size + 1, 0, none⟩) 4 4, .slice (some ⟨w.heap.size + 1 + 1, 0, none⟩) 4 4] 25
  simp only [World.size_alloc] at rX rC hbox
  simp only [nums, List.map] at b1 b2 b3 hB rT rX rC hbox
  clear b0 b1 b2 b3
  go_enter Try.func6, Try.ntmps6
  go_upto_region 2 with fail
  generalize (((w.alloc _).alloc _).alloc _).alloc _ = wa at hB rT rX rC hbox ⊢
  generalize w.heap.size + 1 + 1 + 1 = b at hbox ⊢
  generalize w.heap.size + 1 + 1 = bC at hbox rC ⊢
  generalize w.heap.size + 1 = bX at hbox rX ⊢
  have HR := Bx.mk (fun W (h : Below wa.heap.size wa W) => (⟨rT.keep h, rX.keep h, rC.keep h⟩ : Rows3 W 4 w.heap.size 0 bX 0 bC 0 [0, 1, 0, 1] [2, 3, 0, 1] [5, 3, 2, 1]))
  have HB := Bx.mk hB
  have HK := Bx.mk (fun W (h : Below wa.heap.size wa W) => (⟨(hbox.keep h).cell 0, (hbox.keep h).cell 1, (hbox.keep h).cell 2, (hbox.keep h).cell 3⟩ : W.cell? ⟨b, 0, none⟩ = some (.int .i64 2) ∧ W.cell? ⟨b, 1, none⟩ = some (.slice (some ⟨w.heap.size, 0, none⟩) 4 4) ∧ W.cell? ⟨b, 2, none⟩ = some (.slice (some ⟨bX, 0, none⟩) 4 4) ∧ W.cell? ⟨b, 3, none⟩ = some (.slice (some ⟨bC, 0, none⟩) 4 4)))
  clear rT rX rC hbox hB
  obtain ⟨k0, k1, k2, k3⟩ := HK.out wa (Below.refl _ _)
  have S1 := most_any (kT := 4) (kX := 4) (kC := 4) good_known (HR.out wa (Below.refl _ _)) 0 1 (by decide) (by decide) (by decide) (by decide) (by decide)
  go_upto_region 3 with (go_at_call 15; refine S1.mono ?_; rintro e w2 ⟨gF, f, rfl, oF, MI, B2⟩)
  obtain rfl := MI.det most_known
  have FO := Bx.mk (MI.flow good_known (by decide) (by decide) (by decide) (by decide) (by decide))
  rw [val_known]
  have rF := oF.at'
  have RF := Bx.mk rF
  clear S1 MI k0 k1 k2 k3 oF rF
  obtain ⟨k0, k1, k2, k3⟩ := HK.out _ B2
  have S1 := least_any (kT := 4) (kX := 4) (kC := 4) good_known (HR.out _ B2) 0 1 (by decide) (by decide) (by decide) (by decide) (by decide)
  go_wp2_with (go_at_call 16; refine S1.mono ?_; rintro e w3 ⟨f3, g3, v3, rfl, MI, _, o3, B3⟩)
  obtain rfl := MI.det most_known
  rw [sum_known]
  obtain ⟨a3, c3, rfl, _⟩ := o3.row
  rw [cut_known]
  have B4 := below_alloc (below_below B2 B3) (.cells #[.slice (some ⟨g3, 0, none⟩) 2 2, .int .i64 7, .slice a3 2 c3] 42)
  have hz := box_new w3 #[.slice (some ⟨g3, 0, none⟩) 2 2, .int .i64 7, .slice a3 2 c3] 42
  have rF := (RF.out.keep B3).keep (below_alloc (Below.refl _ _) (.cells #[.slice (some ⟨g3, 0, none⟩) 2 2, .int .i64 7, .slice a3 2 c3] 42))
  have HZ := Bx.mk hz
  clear S1 MI k0 k1 k2 k3 o3
  go_upto_region 4 with fail
  go_simp
  go_upto_region 4 with fail
  generalize w3.alloc _ = w4 at B4 HZ rF ⊢
  generalize w3.heap.size = z at HZ ⊢
  clear hz
  obtain ⟨k0, k1, k2, k3⟩ := HK.out _ B4
  have S1 := pcheck_any (kT := 4) (kX := 4) (kC := 4) good_known (HR.out _ B4)
  go_wp2_with fail
  refine S1.mono ?_
  rintro e w5 ⟨rfl, B5⟩
  clear S1 k0 k1 k2 k3
  obtain ⟨k0, k1, k2, k3⟩ := HK.out _ (below_below B4 B5)
  have S1 := flow_check (kT := 4) (kX := 4) (kC := 4) (kF := 4) good_known (HR.out _ (below_below B4 B5)) (rF.keep B5) 0 1 (by decide) (by decide) (by decide) (by decide) (by decide) FO.out
  go_wp2_with fail
  refine S1.mono ?_
  rintro e w6 ⟨rfl, B6⟩
  clear S1 k0 k1 k2 k3
  have hz := (HZ.out.keep B5).keep B6
  have z0 : w6.cell? ⟨z, 0, none⟩ = some (.slice (some ⟨g3, 0, none⟩) 2 2) := hz.cell 0
  have z1 : w6.cell? ⟨z, 1, none⟩ = some (.int .i64 7) := hz.cell 1
  have z2 : w6.cell? ⟨z, 2, none⟩ = some (.slice a3 2 c3) := hz.cell 2
  clear hz
  go_wp2
  go_ret
  exact ⟨rfl, below_below HB.out (below_below (below_below B4 B5) B6)⟩
end Go.Proofs.Ytidcofjadlfahaa
