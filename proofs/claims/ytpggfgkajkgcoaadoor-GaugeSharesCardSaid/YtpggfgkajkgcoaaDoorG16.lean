/- Shares of nothing; two sorted rows of the same numbers. -/
import Derived.Test.YtpggfgkajkgcoaaDoorG15
set_option linter.unusedVariables false
set_option linter.unusedSimpArgs false
namespace Go.Proofs.YtpggfgkajkgcoaaDoor
open Go.RowKit

theorem shares_nil (w : World) (N : Int) (aT aX aC : Option Addr) (lT cT lX cX lC cC : Nat) : Calls Tryd.prog 32 #[.agg #[.int .i64 N, .slice aT lT cT, .slice aX lX cX, .slice aC lC cC], .slice none 0 0] w fun e w' => (∃ a c, e = .returned (.slice a 0 c)) ∧ Below w.heap.size w w' := by
  have hmk : ∀ w : World, (Instr.makeSlice 25 (.int .i64 0) (.int .i64 0)).run Tryd.prog w = .ok (.slice (some ⟨w.heap.size, 0, none⟩) 0 0) (w.alloc (.cells (madeCells #[.float .f64 0] 0) 22)) := fun w => by
    have := run_make_row' (P := Tryd.prog) 25 22 (.float .f64 0) 8 Tryd.underlying25 infoF rfl .i64 .i64 0 (by omega) (by omega) w
    simpa using this
  have B1 := below_alloc (below_alloc (Below.refl w.heap.size w) (.cells #[.int .i64 N, .slice aT lT cT, .slice aX lX cX, .slice aC lC cC] 47)) (.cells (madeCells #[.float .f64 0] 0) 22)
  go_enter Tryd.func32, Tryd.ntmps32
  go_wp2
  go_loopg [5, 13] 1 (fun q z y wr => (∃ a c, z = .slice a 0 c) ∧ y = .int .i64 0 ∧ q = 1 ∧ Below w.heap.size w wr)
  case atStart => exact ⟨⟨_, _, rfl⟩, rfl, rfl, B1⟩
  case round =>
    obtain ⟨⟨a, c, rfl⟩, rfl, hq, BW⟩ := hrel
    go_wp2
    go_ret
    exact ⟨⟨_, _, rfl⟩, BW⟩
theorem sort_two {xs ms ys zs : List Nat} (hk : xs.map fkey = ms.map fkey) (hy : SortOf xs ys) (hz : SortOf ms zs) : ys.map fkey = zs.map fkey := by
  refine List.Perm.eq_of_pairwise (le := (· ≤ ·)) (fun a b _ _ h k => Int.le_antisymm h k) (srt_keys hy.srt) (srt_keys hz.srt) ?_
  have h1 := hy.perm.map fkey
  have h2 := hz.perm.map fkey
  rw [hk] at h1
  exact h1.trans h2.symm
theorem sort_twins {xs ms ys zs : List Nat} {n : Nat} (lx : xs.length = n) (lm : ms.length = n) (H : ∀ j : Nat, j < n → fsame (fd xs j) (fd ms j) = true) (hy : SortOf xs ys) (hz : SortOf ms zs) : ys.length = n ∧ zs.length = n ∧ ∀ j : Nat, j < n → fsame (fd ys j) (fd zs j) = true := by
  have hk : xs.map fkey = ms.map fkey := by
    apply List.ext_getElem (by simp [lx, lm])
    intro j h1 h2
    rw [List.length_map] at h1 h2
    rw [map_fk xs j h1, map_fk ms j h2]
    exact of_decide_eq_true (H j (by omega))
  have h := sort_two hk hy hz
  have l1 : ys.length = n := by rw [hy.perm.length_eq, lx]
  have l2 : zs.length = n := by rw [hz.perm.length_eq, lm]
  refine ⟨l1, l2, fun j hj => decide_eq_true ?_⟩
  show fk ys j = fk zs j
  rw [← map_fk ys j (by omega), ← map_fk zs j (by omega)]
  simp only [h]
end Go.Proofs.YtpggfgkajkgcoaaDoor
