/- The walks of the wide numbers and of ends. -/
import Derived.Test.YtidcofjadlfahaaU6
import Derived.Laws.Externs
set_option linter.unusedVariables false
set_option linter.unusedSimpArgs false
namespace Go.Proofs.Ytidcofjadlfahaa
open Go.RowKit

/-- A number's two parts. -/
def wHi (x : Int) : Int := if x < 0 then -1 else 0
def wLo (x : Int) : Int := if x < 0 then x + 18446744073709551616 else x
def wideV (x : Int) : Value := .agg #[.int .i64 (wHi x), .int .u64 (wLo x)]
theorem of_any {w : World} (x : Int) (h0 : -4611686018427387904 < x) (h1 : x < 4611686018427387904) : Calls Try.prog 32 #[.int .i64 x] w fun e w' => e = .returned (wideV x) ∧ Below w.heap.size w w' := by
  have b0 := Below.refl w.heap.size w
  have HB := Bx.mk (below_set (below_set (below_alloc b0 (.cells #[.int .i64 0, .int .u64 0] 61)) (p := ⟨w.heap.size, 0, none⟩) (Nat.le_refl _) (.int .i64 (wHi x))) (p := ⟨w.heap.size, 1, none⟩) (Nat.le_refl _) (.int .u64 (wLo x)))
  clear b0
  by_cases hx : x < 0
  · have e : decide (x < 0) = true := by simpa using hx
    have ew : wideV x = .agg #[.int .i64 (-1), .int .u64 (x + 18446744073709551616)] := by unfold wideV wHi wLo; rw [if_pos hx, if_pos hx]
    have HW := Bx.mk ew
    clear ew
    go_enter Try.func32, Try.ntmps32
    go_wp2
    have d := box_new w #[.int .i64 (-1), .int .u64 (IntKind.u64.wrap x)] 61
    have B := below_alloc (Below.refl w.heap.size w) (.cells #[.int .i64 (-1), .int .u64 (IntKind.u64.wrap x)] 61)
    generalize w.alloc _ = w1 at d B ⊢
    have d0 : w1.cell? ⟨w.heap.size, 0, none⟩ = some (.int .i64 (-1)) := d.cell 0
    have d1 : w1.cell? ⟨w.heap.size, 1, none⟩ = some (.int .u64 (IntKind.u64.wrap x)) := d.cell 1
    refine bodyPost_ret (v := .agg #[.int .i64 (-1), .int .u64 (IntKind.u64.wrap x)]) (by simp [results, Try.results32, go_sem, d0, d1]) rfl ?_
    refine ⟨?_, B⟩
    rw [HW.out, show IntKind.u64.wrap x = x + 18446744073709551616 from by simp [IntKind.wrap, IntKind.bits, IntKind.signed]; omega]
  · have e : decide (x < 0) = false := by simpa using hx
    go_enter Try.func32, Try.ntmps32
    go_wp2
    have d := box_new w #[.int .i64 0, .int .u64 x] 61
    have B := below_alloc (Below.refl w.heap.size w) (.cells #[.int .i64 0, .int .u64 x] 61)
    generalize w.alloc _ = w1 at d B ⊢
    have d0 : w1.cell? ⟨w.heap.size, 0, none⟩ = some (.int .i64 0) := d.cell 0
    have d1 : w1.cell? ⟨w.heap.size, 1, none⟩ = some (.int .u64 x) := d.cell 1
    refine bodyPost_ret (v := .agg #[.int .i64 0, .int .u64 x]) (by simp [results, Try.results32, go_sem, d0, d1]) rfl ?_
    refine ⟨?_, B⟩
    unfold wideV wHi wLo
    rw [if_neg (by omega), if_neg (by omega)]
theorem run_add64' (x y : Int) (hx : 0 ≤ x) (hy : 0 ≤ y) (w : World) : (callFunc 50 #[.int .u64 x, .int .u64 y, .int .u64 0]).run Try.prog w = .ok (.value (.tuple #[.int .u64 ((x + y) % 18446744073709551616), .int .u64 ((x + y) / 18446744073709551616)])) w := by
  rw [run_callFunc_extern (e := add64Entry) Try.func50 (by kernel_rfl) (by kernel_rfl) (by kernel_rfl) (by kernel_rfl), run_add64 x y 0 hx hy (by omega) (by omega)]
  simp only [Result.andThen, Int.add_zero]
theorem box2_set {w : World} {b : Nat} {y0 y1 : Value} {t : TypeId} (h : BoxN w b #[y0, y1] t) (x0 x1 : Value) : BoxN ((w.setCell ⟨b, 0, none⟩ x0).setCell ⟨b, 1, none⟩ x1) b #[x0, x1] t := by
  unfold BoxN at *
  simp [World.setCell, Array.getElem?_modify, h]
theorem add_any {w : World} (h1 l1 h2 l2 : Int) (a1 : 0 ≤ l1) (a2 : 0 ≤ l2) (a3 : (l1 + l2) % 18446744073709551616 = 0) (b1 : -1 ≤ h1) (b2 : h1 ≤ 0) (b3 : -1 ≤ h2) (b4 : h2 ≤ 0) (b5 : (l1 + l2) / 18446744073709551616 = -(h1 + h2)) (b6 : -1 ≤ h1 + h2) :
    Calls Try.prog 30 #[.agg #[.int .i64 h1, .int .u64 l1], .agg #[.int .i64 h2, .int .u64 l2]] w fun e w' => e = .returned (.agg #[.int .i64 0, .int .u64 0]) ∧ Below w.heap.size w w' := by
  have k0 := Below.refl w.heap.size w
  have k1 := below_alloc k0 (.cells #[.int .i64 h1, .int .u64 l1] 61)
  have k2 := below_alloc k1 (.cells #[.int .i64 h2, .int .u64 l2] 61)
  have hB := below_alloc k2 (.cells #[.int .i64 0, .int .u64 0] 61)
  have q1 := ((box_new w #[.int .i64 h1, .int .u64 l1] 61).keep (below_alloc (Below.refl _ _) (.cells #[.int .i64 h2, .int .u64 l2] 61))).keep (below_alloc (Below.refl _ _) (.cells #[.int .i64 0, .int .u64 0] 61))
  have q2 := (box_new (w.alloc (.cells #[.int .i64 h1, .int .u64 l1] 61)) #[.int .i64 h2, .int .u64 l2] 61).keep (below_alloc (Below.refl _ _) (.cells #[.int .i64 0, .int .u64 0] 61))
  have q3 := box_new ((w.alloc (.cells #[.int .i64 h1, .int .u64 l1] 61)).alloc (.cells #[.int .i64 h2, .int .u64 l2] 61)) #[.int .i64 0, .int .u64 0] 61
  simp only [World.size_alloc] at q2 q3
  have FB := fun w => run_add64' l1 l2 a1 a2 w
  rw [a3, b5] at FB
  clear k0 k1 k2
  go_enter Try.func30, Try.ntmps30
  go_upto_region 1 with fail
  generalize ((w.alloc _).alloc _).alloc _ = wa at hB q1 q2 q3 ⊢
  have hl1 : w.heap.size ≤ w.heap.size + 1 + 1 := by omega
  generalize w.heap.size + 1 + 1 = b3 at q3 hl1 ⊢
  generalize w.heap.size + 1 = b2 at q2 ⊢
  have c10 : wa.cell? ⟨w.heap.size, 0, none⟩ = some (.int .i64 h1) := q1.cell 0
  have c11 : wa.cell? ⟨w.heap.size, 1, none⟩ = some (.int .u64 l1) := q1.cell 1
  have c20 : wa.cell? ⟨b2, 0, none⟩ = some (.int .i64 h2) := q2.cell 0
  have c21 : wa.cell? ⟨b2, 1, none⟩ = some (.int .u64 l2) := q2.cell 1
  have c30 : wa.cell? ⟨b3, 0, none⟩ = some (.int .i64 0) := q3.cell 0
  have c31 : wa.cell? ⟨b3, 1, none⟩ = some (.int .u64 0) := q3.cell 1
  have f30 := q3.fz 0
  have f31 := q3.fz 1
  have Q3 := Bx.mk q3
  have HB := Bx.mk hB
  clear q1 q2 q3 a3 b5 hB
  go_wp2
  rw [show h1 + h2 + -(h1 + h2) = 0 from by omega]
  have d := box2_set Q3.out (.int .i64 0) (.int .u64 0)
  have B := below_set (below_set HB.out (p := ⟨b3, 0, none⟩) hl1 (.int .i64 0)) (p := ⟨b3, 1, none⟩) hl1 (.int .u64 0)
  generalize World.setCell (World.setCell wa _ _) _ _ = w1 at d B ⊢
  have d0 : w1.cell? ⟨b3, 0, none⟩ = some (.int .i64 0) := d.cell 0
  have d1 : w1.cell? ⟨b3, 1, none⟩ = some (.int .u64 0) := d.cell 1
  refine bodyPost_ret (v := .agg #[.int .i64 0, .int .u64 0]) (by simp [results, Try.results30, go_sem, d0, d1]) rfl ?_
  exact ⟨rfl, B⟩
theorem above_neg {w : World} (l c : Int) : Calls Try.prog 31 #[.agg #[.int .i64 (-1), .int .u64 l], .agg #[.int .i64 0, .int .u64 c]] w fun e w' => e = .returned (.bool false) ∧ Below w.heap.size w w' := by
  have HB := Bx.mk (below_alloc (below_alloc (Below.refl w.heap.size w) (.cells #[.int .i64 (-1), .int .u64 l] 61)) (.cells #[.int .i64 0, .int .u64 c] 61))
  go_enter Try.func31, Try.ntmps31
  go_wp2
  go_ret
  exact ⟨rfl, HB.out⟩
theorem above_pos {w : World} (l c : Int) (h : l ≤ c) : Calls Try.prog 31 #[.agg #[.int .i64 0, .int .u64 l], .agg #[.int .i64 0, .int .u64 c]] w fun e w' => e = .returned (.bool false) ∧ Below w.heap.size w w' := by
  have HB := Bx.mk (below_alloc (below_alloc (Below.refl w.heap.size w) (.cells #[.int .i64 0, .int .u64 l] 61)) (.cells #[.int .i64 0, .int .u64 c] 61))
  have e1 : decide (l > c) = false := decide_eq_false (by omega)
  go_enter Try.func31, Try.ntmps31
  go_wp2
  go_ret
  exact ⟨rfl, HB.out⟩
section
variable {m n bT oT bX oX bC oC kT kX kC : Nat} {T X C : List Int} {w : World}
set_option maxHeartbeats 3200000 in
theorem ends_any (G : Good m n T X C) (R : Rows3 w n bT oT bX oX bC oC T X C) (s t : Int) (hs0 : 0 ≤ s) (hs1 : s < m) (ht0 : 0 ≤ t) (ht1 : t < m) (hst : s ≠ t) :
    Calls Try.prog 29 #[(.agg #[.int .i64 m, .slice (some ⟨bT, oT, none⟩) n kT, .slice (some ⟨bX, oX, none⟩) n kX, .slice (some ⟨bC, oC, none⟩) n kC]), .int .i64 s, .int .i64 t] w fun e w' => e = .returned (.int .i64 0) ∧ Below w.heap.size w w' := by
  have CH := fun W (h : Below w.heap.size w W) => pcheck_any (kT := kT) (kX := kX) (kC := kC) G (R.keep h)
  clear G R
  have hB := below_alloc (Below.refl w.heap.size w) (.cells #[.int .i64 m, .slice (some ⟨bT, oT, none⟩) n kT, .slice (some ⟨bX, oX, none⟩) n kX, .slice (some ⟨bC, oC, none⟩) n kC] 25)
  have hbox := box_new w #[.int .i64 m, .slice (some ⟨bT, oT, none⟩) n kT, .slice (some ⟨bX, oX, none⟩) n kX, .slice (some ⟨bC, oC, none⟩) n kC] 25
  go_enter Try.func29, Try.ntmps29
  go_upto_region 1 with fail
  generalize w.alloc _ = wa at hB hbox ⊢
  generalize w.heap.size = b at hbox ⊢
  have HK := Bx.mk (fun W (h : Below wa.heap.size wa W) => (⟨(hbox.keep h).cell 0, (hbox.keep h).cell 1, (hbox.keep h).cell 2, (hbox.keep h).cell 3⟩ : W.cell? ⟨b, 0, none⟩ = some (.int .i64 m) ∧ W.cell? ⟨b, 1, none⟩ = some (.slice (some ⟨bT, oT, none⟩) n kT) ∧ W.cell? ⟨b, 2, none⟩ = some (.slice (some ⟨bX, oX, none⟩) n kX) ∧ W.cell? ⟨b, 3, none⟩ = some (.slice (some ⟨bC, oC, none⟩) n kC)))
  have HBX := Bx.mk hbox
  have HBW := Bx.mk (fun W (h : Below wa.heap.size wa W) => below_below hB h)
  clear hbox
  obtain ⟨k0, k1, k2, k3⟩ := HK.out wa (Below.refl _ _)
  have S1 := CH _ hB
  have e1 : decide (s < 0) = false := decide_eq_false (by omega)
  have e2 : decide (t < 0) = false := decide_eq_false (by omega)
  have e3 : decide (s ≥ (m : Int)) = false := decide_eq_false (by omega)
  have e4 : decide (t ≥ (m : Int)) = false := decide_eq_false (by omega)
  have e5 : (s == t) = false := by simpa using hst
  have hlt : (s < t ∧ ¬ t < s) ∨ (t < s ∧ ¬ s < t) := by omega
  rcases hlt with ⟨hl1, hl2⟩ | ⟨hl1, hl2⟩
  all_goals
    go_wp2_with fail
    refine S1.mono ?_
    rintro e w2 ⟨rfl, B2⟩
    clear S1 CH k0 k1 k2 k3
    obtain ⟨k0, k1, k2, k3⟩ := HK.out _ B2
    go_wp2
    go_ret
    exact ⟨rfl, below_below hB B2⟩
end
theorem ofW_any {w : World} (x : Int) (h0 : -4611686018427387904 < x) (h1 : x < 4611686018427387904) : Calls Try.prog 32 #[.int .i64 x] w fun e w' => e = .returned (.agg #[.int .i64 (wHi x), .int .u64 (wLo x)]) ∧ Below w.heap.size w w' := of_any x h0 h1
theorem addW_any {w : World} (x y : Int) (h0 : -4611686018427387904 < x) (h1 : x < 4611686018427387904) (hy : y = -x) : Calls Try.prog 30 #[.agg #[.int .i64 (wHi x), .int .u64 (wLo x)], .agg #[.int .i64 (wHi y), .int .u64 (wLo y)]] w fun e w' => e = .returned (.agg #[.int .i64 0, .int .u64 0]) ∧ Below w.heap.size w w' := by
  subst hy
  rcases Int.lt_trichotomy x 0 with h | h | h
  · rw [show wHi x = -1 from if_pos h, show wLo x = x + 18446744073709551616 from if_pos h, show wHi (-x) = 0 from if_neg (by omega), show wLo (-x) = -x from if_neg (by omega)]
    exact add_any _ _ _ _ (by omega) (by omega) (by omega) (by omega) (by omega) (by omega) (by omega) (by omega) (by omega)
  · subst h
    exact add_any _ _ _ _ (by decide) (by decide) (by decide) (by decide) (by decide) (by decide) (by decide) (by decide) (by decide)
  · rw [show wHi x = 0 from if_neg (by omega), show wLo x = x from if_neg (by omega), show wHi (-x) = -1 from if_pos (by omega), show wLo (-x) = -x + 18446744073709551616 from if_pos (by omega)]
    exact add_any _ _ _ _ (by omega) (by omega) (by omega) (by omega) (by omega) (by omega) (by omega) (by omega) (by omega)
theorem aboveW_any {w : World} (x c : Int) (hc : 0 ≤ c) (hx : x ≤ c) : Calls Try.prog 31 #[.agg #[.int .i64 (wHi x), .int .u64 (wLo x)], .agg #[.int .i64 (wHi c), .int .u64 (wLo c)]] w fun e w' => e = .returned (.bool false) ∧ Below w.heap.size w w' := by
  rw [show wHi c = 0 from if_neg (by omega), show wLo c = c from if_neg (by omega)]
  by_cases h : x < 0
  · rw [show wHi x = -1 from if_pos h]
    exact above_neg _ _
  · rw [show wHi x = 0 from if_neg h, show wLo x = x from if_neg h]
    exact above_pos _ _ hx
end Go.Proofs.Ytidcofjadlfahaa
