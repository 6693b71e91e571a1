/- Floats in the walk: IsNaN, Signbit, both orders, One. -/
import Derived.Test.YtpggfgkajkgcoaaDoorBa
import Derived.Test.YtpggfgkajkgcoaaDoorF3
import Derived.Laws.Externs
set_option linter.unusedVariables false
set_option linter.unusedSimpArgs false
namespace Go.Proofs.YtpggfgkajkgcoaaDoor
open Go.RowKit

theorem wlt_eq (a b : Nat) : (FloatKind.f64.format.order a b == some .lt) = flt a b := order_lt a b
theorem weq_eq (a b : Nat) : (FloatKind.f64.format.order a b == some .eq) = feq a b := order_eq a b
theorem wgt_eq (a b : Nat) : (FloatKind.f64.format.order a b == some .gt) = flt b a := order_gt a b
theorem wne_eq (a b : Nat) : (FloatKind.f64.format.order a b != some .eq) = !feq a b := order_ne a b
theorem feq_self (a : Nat) : feq a a = !nanb a := by
  unfold feq
  cases nanb a <;> simp
theorem f64bits (a : Nat) (w : World) : (callFunc 50 #[.float .f64 a]).run Tryd.prog w = .ok (.value (.int .u64 a)) w := by
  rw [run_callFunc_extern (e := Extern.MathFloatBits.float64bits) Tryd.func50 (by kernel_rfl) (by kernel_rfl) (by kernel_rfl) (by kernel_rfl)]
  rfl
theorem wrap_neg (a : Nat) (h : a < 18446744073709551616) : decide (wrap64 (a : Int) < 0) = fsg a := by
  unfold fsg wrap64
  have h1 : a / 9223372036854775808 = 0 ∨ a / 9223372036854775808 = 1 := by omega
  rcases h1 with h1 | h1
  · rw [h1, decide_eq_false (by omega)]; rfl
  · rw [h1, decide_eq_true (by omega)]; rfl
theorem isnan_any (a : Nat) (w : World) : Calls Tryd.prog 34 #[.float .f64 a] w fun e w' => e = .returned (.bool (nanb a)) ∧ w = w' := by
  have E : (FloatKind.f64.format.order a a != some .eq) = nanb a := by rw [wne_eq, feq_self, Bool.not_not]
  go_enter Tryd.func34, Tryd.ntmps34
  go_wp2
  go_ret
  exact ⟨rfl, rfl⟩
theorem signbit_any (a : Nat) (h : a < 18446744073709551616) (w : World) : Calls Tryd.prog 35 #[.float .f64 a] w fun e w' => e = .returned (.bool (fsg a)) ∧ w = w' := by
  have F := f64bits a
  have E := wrap_neg a h
  go_enter Tryd.func35, Tryd.ntmps35
  go_wp2
  go_ret
  exact ⟨rfl, rfl⟩
theorem less_any (a b : Nat) (ha : a < 18446744073709551616) (hb : b < 18446744073709551616) (w : World) : Calls Tryd.prog 16 #[.float .f64 a, .float .f64 b] w fun e w' => e = .returned (.bool (fless a b)) ∧ w = w' := by
  cases na : nanb a
  · cases nb : nanb b
    · have EQ : (FloatKind.f64.format.order a b == some .eq) = feq a b := weq_eq a b
      have LT : (FloatKind.f64.format.order a b == some .lt) = flt a b := wlt_eq a b
      cases he : feq a b
      · have hz : zk a ≠ zk b := by
          unfold feq at he
          rw [na, nb] at he
          simpa using he
        have F := Bx.mk (fless_ne na nb hz)
        have H : flt a b = decide (zk a < zk b) := by unfold flt; rw [na, nb]; rfl
        rw [H] at LT
        clear H
        go_enter Tryd.func16, Tryd.ntmps16
        go_wp2_with (first | (go_at_call 34; refine (isnan_any _ _).mono ?_; rintro e w' ⟨rfl, rfl⟩))
        go_ret
        rw [F.out]
        exact ⟨rfl, rfl⟩
      · have hz : zk a = zk b := by
          unfold feq at he
          rw [na, nb] at he
          simpa using he
        have F := Bx.mk (fless_eq na nb hz)
        cases sa : fsg a
        · rw [sa] at F
          go_enter Tryd.func16, Tryd.ntmps16
          go_wp2_with (first | (go_at_call 34; refine (isnan_any _ _).mono ?_; rintro e w' ⟨rfl, rfl⟩) | (go_at_call 35; refine (signbit_any _ (by assumption) _).mono ?_; rintro e w' ⟨rfl, rfl⟩))
          go_ret
          rw [F.out]
          exact ⟨rfl, rfl⟩
        · rw [sa] at F
          cases sb : fsg b
          all_goals
            rw [sb] at F
            go_enter Tryd.func16, Tryd.ntmps16
            go_wp2_with (first | (go_at_call 34; refine (isnan_any _ _).mono ?_; rintro e w' ⟨rfl, rfl⟩) | (go_at_call 35; refine (signbit_any _ (by assumption) _).mono ?_; rintro e w' ⟨rfl, rfl⟩))
            go_ret
            rw [F.out]
            exact ⟨rfl, rfl⟩
    · have F := Bx.mk (fless_nan (.inr nb) : fless a b = _)
      rw [na, nb] at F
      go_enter Tryd.func16, Tryd.ntmps16
      go_wp2_with (first | (go_at_call 34; refine (isnan_any _ _).mono ?_; rintro e w' ⟨rfl, rfl⟩))
      go_ret
      rw [F.out]
      exact ⟨rfl, rfl⟩
  · have F := Bx.mk (fless_nan (.inl na) : fless a b = _)
    rw [na] at F
    go_enter Tryd.func16, Tryd.ntmps16
    go_wp2_with (first | (go_at_call 34; refine (isnan_any _ _).mono ?_; rintro e w' ⟨rfl, rfl⟩))
    go_ret
    rw [F.out]
    exact ⟨rfl, rfl⟩
theorem zero_cases {a : Nat} (ha : a < 18446744073709551616) (h : rung a = 0) : a = 0 ∨ a = 9223372036854775808 := by
  have := wd_self ha
  rw [h] at this
  unfold wd at this
  cases h2 : fsg a <;> rw [h2] at this <;> simp at this <;> omega
theorem zk_zero {a : Nat} : zk a = 0 ↔ rung a = 0 := by
  unfold zk sv
  cases fsg a <;> simp
theorem feq_zero (a : Nat) : feq a 0 = decide (rung a = 0) := by
  unfold feq
  rw [show nanb 0 = false from by decide, show zk 0 = 0 from by decide]
  by_cases h : rung a = 0
  · rw [show nanb a = false from by unfold nanb; rw [h]; rfl, decide_eq_true h, decide_eq_true (zk_zero.2 h)]; rfl
  · rw [decide_eq_false h, decide_eq_false (fun k => h (zk_zero.1 k)), Bool.and_false]
theorem rless_any (a b : Nat) (ha : a < 18446744073709551616) (hb : b < 18446744073709551616) (w : World) : Calls Tryd.prog 17 #[.float .f64 a, .float .f64 b] w fun e w' => e = .returned (.bool (fless a b)) ∧ w = w' := by
  have EA : (FloatKind.f64.format.order a a != some .eq) = nanb a := by rw [wne_eq, feq_self, Bool.not_not]
  have EB : (FloatKind.f64.format.order b b != some .eq) = nanb b := by rw [wne_eq, feq_self, Bool.not_not]
  cases na : nanb a
  · cases nb : nanb b
    · rw [na] at EA
      rw [nb] at EB
      by_cases hz : rung a = 0 ∧ rung b = 0
      · have QA : ∀ w : World, (binOp .quo 22 (.float .f64 4607182418800017408) (.float .f64 a)).run Tryd.prog w = .ok (.float .f64 (wd (fsg a) 9218868437227405312)) w := fun w => run_float_arith w .quo 22 .f64 _ _ _ (by rcases zero_cases ha hz.1 with rfl | rfl <;> decide +kernel)
        have QB : ∀ w : World, (binOp .quo 22 (.float .f64 4607182418800017408) (.float .f64 b)).run Tryd.prog w = .ok (.float .f64 (wd (fsg b) 9218868437227405312)) w := fun w => run_float_arith w .quo 22 .f64 _ _ _ (by rcases zero_cases hb hz.2 with rfl | rfl <;> decide +kernel)
        have L : (FloatKind.f64.format.order (wd (fsg a) 9218868437227405312) (wd (fsg b) 9218868437227405312) == some .lt) = fless a b := by rcases zero_cases ha hz.1 with rfl | rfl <;> rcases zero_cases hb hz.2 with rfl | rfl <;> decide +kernel
        have A0 : (FloatKind.f64.format.order a 0 == some .eq) = true := by rw [weq_eq, feq_zero, decide_eq_true hz.1]
        have B0 : (FloatKind.f64.format.order b 0 == some .eq) = true := by rw [weq_eq, feq_zero, decide_eq_true hz.2]
        generalize wd (fsg a) 9218868437227405312 = qa at QA L
        generalize wd (fsg b) 9218868437227405312 = qb at QB L
        clear na nb ha hb hz
        go_enter Tryd.func17, Tryd.ntmps17
        go_wp2
        go_ret
        exact ⟨rfl, rfl⟩
      · have A0 : (FloatKind.f64.format.order a 0 == some .eq) = decide (rung a = 0) := by rw [weq_eq, feq_zero]
        have B0 : (FloatKind.f64.format.order b 0 == some .eq) = decide (rung b = 0) := by rw [weq_eq, feq_zero]
        have LT : (FloatKind.f64.format.order a b == some .lt) = fless a b := by
          rw [wlt_eq]
          unfold flt
          rw [na, nb]
          by_cases h : zk a = zk b
          · rw [fless_eq na nb h, decide_eq_false (by omega)]
            unfold zk sv at h
            cases sa : fsg a <;> cases sb : fsg b <;> simp [sa, sb] at h ⊢ <;> omega
          · rw [fless_ne na nb h]; rfl
        by_cases ra : rung a = 0
        · have rb : ¬ rung b = 0 := fun k => hz ⟨ra, k⟩
          rw [decide_eq_true ra] at A0
          rw [decide_eq_false rb] at B0
          clear hz ra rb na nb
          go_enter Tryd.func17, Tryd.ntmps17
          go_wp2
          go_ret
          exact ⟨rfl, rfl⟩
        · rw [decide_eq_false ra] at A0
          clear hz ra na nb B0
          go_enter Tryd.func17, Tryd.ntmps17
          go_wp2
          go_ret
          exact ⟨rfl, rfl⟩
    · rw [na] at EA
      rw [nb] at EB
      have F := Bx.mk (fless_nan (.inr nb) : fless a b = _)
      rw [na, nb] at F
      clear na nb
      go_enter Tryd.func17, Tryd.ntmps17
      go_wp2
      go_ret
      rw [F.out]
      exact ⟨rfl, rfl⟩
  · rw [na] at EA
    have F := Bx.mk (fless_nan (.inl na) : fless a b = _)
    rw [na] at F
    clear na EB
    go_enter Tryd.func17, Tryd.ntmps17
    go_wp2
    go_ret
    rw [F.out]
    exact ⟨rfl, rfl⟩
/-- The same in the order: one number, or both none. -/
def fsame (a b : Nat) : Bool := decide (fkey a = fkey b)
theorem fsame_less (a b : Nat) : fsame a b = (!fless a b && !fless b a) := by
  unfold fsame fless
  rcases Int.lt_trichotomy (fkey a) (fkey b) with h | h | h
  · rw [decide_eq_false (by omega), decide_eq_true h]; rfl
  · rw [decide_eq_true h, decide_eq_false (by omega), decide_eq_false (by omega)]; rfl
  · rw [decide_eq_false (by omega), decide_eq_true h, Bool.and_comm]; rfl
theorem one_any (a b : Nat) (ha : a < 18446744073709551616) (hb : b < 18446744073709551616) (w : World) : Calls Tryd.prog 26 #[.float .f64 a, .float .f64 b] w fun e w' => e = .returned (.bool (fsame a b)) ∧ w = w' := by
  have F := Bx.mk (fsame_less a b)
  cases h1 : fless a b
  all_goals
    rw [h1] at F
    go_enter Tryd.func26, Tryd.ntmps26
    go_wp2_with (first | (go_at_call 17; refine (rless_any _ _ (by assumption) (by assumption) _).mono ?_; rintro e w' ⟨rfl, rfl⟩))
    go_ret
    rw [F.out]
    exact ⟨rfl, rfl⟩

end Go.Proofs.YtpggfgkajkgcoaaDoor
