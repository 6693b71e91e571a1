/- Small functions: within, what a dart holds, a dart's other one, where it ends. -/
import Derived.Test.YtidcofjadlfahaaBa
set_option linter.unusedVariables false
namespace Go.Proofs.Ytidcofjadlfahaa
open Go.RowKit

/-- A number from 0 to n - 1. -/
def wi (a n : Int) : Int := a % n
theorem wi_rng (a n : Int) (h : 0 < n) : 0 ≤ wi a n ∧ wi a n < n := ⟨Int.emod_nonneg _ (by omega), Int.emod_lt_of_pos _ h⟩
theorem wi_neg (a n : Int) (h : 0 < n) (k : a.tmod n < 0) : a.tmod n + n = wi a n := by
  unfold wi
  have h2 := Int.tmod_add_mul_tdiv a n
  have h4 := Int.emod_lt_of_pos a h
  have h5 : -n < a.tmod n := Int.lt_tmod_of_pos a h
  have h6 : (a.tmod n + n) % n = a % n := by
    rw [Int.add_emod_right]
    conv => rhs; rw [← h2]
    rw [Int.add_mul_emod_self_left]
  rw [← h6, Int.emod_eq_of_lt (by omega) (by omega)]
theorem wi_pos (a n : Int) (h : 0 < n) (k : ¬ a.tmod n < 0) : a.tmod n = wi a n := by
  unfold wi
  have h2 := Int.tmod_add_mul_tdiv a n
  have h5 : a.tmod n < n := Int.tmod_lt_of_pos a h
  conv => rhs; rw [← h2]
  rw [Int.add_mul_emod_self_left, Int.emod_eq_of_lt (by omega) h5]
theorem tdiv_rng (s k : Int) (h : 0 ≤ s) (hk : 0 < k) : 0 ≤ s.tdiv k ∧ s.tdiv k ≤ s := by
  rw [Int.tdiv_eq_ediv_of_nonneg h]
  exact ⟨Int.ediv_nonneg h (by omega), Int.ediv_le_self _ h⟩
theorem emod_rng (s k : Int) (h : 0 ≤ s) (hk : 0 < k) : 0 ≤ s % k ∧ s % k < k :=
  ⟨Int.emod_nonneg _ (by omega), Int.emod_lt_of_pos _ hk⟩
theorem within1_any (a n : Int) (h0 : 0 < n) (h1 : n ≤ 4611686018427387904) (w : World) : Calls Try.prog 44 #[.int .i64 a, .int .i64 n] w fun e w' => e = .returned (.int .i64 (wi a n)) ∧ w = w' := by
  have hn : ¬ n = 0 := by omega
  have h5 : -n < a.tmod n := Int.lt_tmod_of_pos a h0
  have h6 : a.tmod n < n := Int.tmod_lt_of_pos a h0
  by_cases hk : a.tmod n < 0
  · have E := Bx.mk (wi_neg a n h0 hk)
    go_enter Try.func44, Try.ntmps44
    go_wp2
    go_ret
    rw [← E.out]
    exact ⟨rfl, rfl⟩
  · have E := Bx.mk (wi_pos a n h0 hk)
    go_enter Try.func44, Try.ntmps44
    go_wp2
    go_ret
    rw [← E.out]
    exact ⟨rfl, rfl⟩
theorem within2_any (a n : Int) (h0 : 0 < n) (h1 : n ≤ 4611686018427387904) (w : World) : Calls Try.prog 20 #[.int .i64 a, .int .i64 n] w fun e w' => e = .returned (.int .i64 (wi a n)) ∧ w = w' := by
  have hn : ¬ n = 0 := by omega
  have h5 : -n < a.tmod n := Int.lt_tmod_of_pos a h0
  have h6 : a.tmod n < n := Int.tmod_lt_of_pos a h0
  by_cases hk : a.tmod n < 0
  · have E := Bx.mk (wi_neg a n h0 hk)
    go_enter Try.func20, Try.ntmps20
    go_wp2
    go_ret
    rw [← E.out]
    exact ⟨rfl, rfl⟩
  · have E := Bx.mk (wi_pos a n h0 hk)
    go_enter Try.func20, Try.ntmps20
    go_wp2
    go_ret
    rw [← E.out]
    exact ⟨rfl, rfl⟩
theorem withint_any (a n : Int) (h0 : 0 < n) (h1 : n ≤ 4611686018427387904) (w : World) : Calls Try.prog 24 #[.int .i64 a, .int .i64 n] w fun e w' => e = .returned (.int .i64 (wi a n)) ∧ w = w' := by
  have hn : ¬ n = 0 := by omega
  have h5 : -n < a.tmod n := Int.lt_tmod_of_pos a h0
  have h6 : a.tmod n < n := Int.tmod_lt_of_pos a h0
  by_cases hk : a.tmod n < 0
  · have E := Bx.mk (wi_neg a n h0 hk)
    go_enter Try.func24, Try.ntmps24
    go_wp2
    go_ret
    rw [← E.out]
    exact ⟨rfl, rfl⟩
  · have E := Bx.mk (wi_pos a n h0 hk)
    go_enter Try.func24, Try.ntmps24
    go_wp2
    go_ret
    rw [← E.out]
    exact ⟨rfl, rfl⟩
theorem within10_any (a n : Int) (h0 : 0 < n) (h1 : n ≤ 4611686018427387904) (w : World) : Calls Try.prog 27 #[.int .i64 a, .int .i64 n] w fun e w' => e = .returned (.int .i64 (wi a n)) ∧ w = w' := by
  have hn : ¬ n = 0 := by omega
  have h5 : -n < a.tmod n := Int.lt_tmod_of_pos a h0
  have h6 : a.tmod n < n := Int.tmod_lt_of_pos a h0
  by_cases hk : a.tmod n < 0
  · have E := Bx.mk (wi_neg a n h0 hk)
    go_enter Try.func27, Try.ntmps27
    go_wp2
    go_ret
    rw [← E.out]
    exact ⟨rfl, rfl⟩
  · have E := Bx.mk (wi_pos a n h0 hk)
    go_enter Try.func27, Try.ntmps27
    go_wp2
    go_ret
    rw [← E.out]
    exact ⟨rfl, rfl⟩
theorem within11_any (a n : Int) (h0 : 0 < n) (h1 : n ≤ 4611686018427387904) (w : World) : Calls Try.prog 25 #[.int .i64 a, .int .i64 n] w fun e w' => e = .returned (.int .i64 (wi a n)) ∧ w = w' := by
  have hn : ¬ n = 0 := by omega
  have h5 : -n < a.tmod n := Int.lt_tmod_of_pos a h0
  have h6 : a.tmod n < n := Int.tmod_lt_of_pos a h0
  by_cases hk : a.tmod n < 0
  · have E := Bx.mk (wi_neg a n h0 hk)
    go_enter Try.func25, Try.ntmps25
    go_wp2
    go_ret
    rw [← E.out]
    exact ⟨rfl, rfl⟩
  · have E := Bx.mk (wi_pos a n h0 hk)
    go_enter Try.func25, Try.ntmps25
    go_wp2
    go_ret
    rw [← E.out]
    exact ⟨rfl, rfl⟩

/-- What a dart of a grown net holds. -/
def capOf (n : Int) : Int :=
  if wi n 1099511627776 % 7 = 0 then 0
  else if wi n 1099511627776 % 7 = 1 then 2147483648 - (wi n 1099511627776).tdiv 7 % 3
  else if wi n 1099511627776 % 7 = 2 then (wi n 1099511627776).tdiv 7 % 1000000
  else (wi n 1099511627776).tdiv 7 % 9
theorem cap_any (n : Int) (w : World) : Calls Try.prog 21 #[.int .i64 n] w fun e w' => e = .returned (.int .i64 (capOf n)) ∧ w = w' := by
  have hk := wi_rng n 1099511627776 (by omega)
  have h1 := tdiv_rng (wi n 1099511627776) 7 hk.1 (by omega)
  have h2 := emod_rng (wi n 1099511627776) 7 hk.1 (by omega)
  have h3 := emod_rng ((wi n 1099511627776).tdiv 7) 3 h1.1 (by omega)
  have h4 := emod_rng ((wi n 1099511627776).tdiv 7) 1000000 h1.1 (by omega)
  have h5 := emod_rng ((wi n 1099511627776).tdiv 7) 9 h1.1 (by omega)
  by_cases c0 : wi n 1099511627776 % 7 = 0
  · rw [show capOf n = 0 from by rw [capOf, if_pos c0]]
    go_enter Try.func21, Try.ntmps21
    go_wp2_with fail
    refine (within1_any n 1099511627776 (by omega) (by omega) _).mono ?_
    rintro e w' ⟨rfl, rfl⟩
    go_wp2
    go_ret
    exact ⟨rfl, rfl⟩
  · by_cases c1 : wi n 1099511627776 % 7 = 1
    · rw [show capOf n = 2147483648 - (wi n 1099511627776).tdiv 7 % 3 from by rw [capOf, if_neg c0, if_pos c1]]
      go_enter Try.func21, Try.ntmps21
      go_wp2_with fail
      refine (within1_any n 1099511627776 (by omega) (by omega) _).mono ?_
      rintro e w' ⟨rfl, rfl⟩
      go_wp2
      go_ret
      exact ⟨rfl, rfl⟩
    · by_cases c2 : wi n 1099511627776 % 7 = 2
      · rw [show capOf n = (wi n 1099511627776).tdiv 7 % 1000000 from by rw [capOf, if_neg c0, if_neg c1, if_pos c2]]
        go_enter Try.func21, Try.ntmps21
        go_wp2_with fail
        refine (within1_any n 1099511627776 (by omega) (by omega) _).mono ?_
        rintro e w' ⟨rfl, rfl⟩
        go_wp2
        go_ret
        exact ⟨rfl, rfl⟩
      · rw [show capOf n = (wi n 1099511627776).tdiv 7 % 9 from by rw [capOf, if_neg c0, if_neg c1, if_neg c2]]
        have b0 : (wi n 1099511627776 % 7 == 0) = false := by simpa using c0
        have b1 : (wi n 1099511627776 % 7 == 1) = false := by simpa using c1
        have b2 : (wi n 1099511627776 % 7 == 2) = false := by simpa using c2
        go_enter Try.func21, Try.ntmps21
        go_wp2_with fail
        refine (within1_any n 1099511627776 (by omega) (by omega) _).mono ?_
        rintro e w' ⟨rfl, rfl⟩
        go_wp2
        go_ret
        exact ⟨rfl, rfl⟩

/-- A dart's other one. -/
def ot (d : Int) : Int := if d % 2 = 0 then d + 1 else d - 1
theorem ot_nat : ∀ n : Fin 256, bits BinOp.xor IntKind.i64 (n.val : Int) 1 = ot n.val := by decide +kernel
theorem xor_one (d : Int) (h0 : 0 ≤ d) (h1 : d < 256) : bits BinOp.xor IntKind.i64 d 1 = ot d := by
  have := ot_nat ⟨d.toNat, by omega⟩
  simp only [Int.toNat_of_nonneg h0] at this
  exact this
theorem ot_rng (d m : Int) (h0 : 0 ≤ d) (h1 : d < m) (he : m % 2 = 0) : 0 ≤ ot d ∧ ot d < m := by
  unfold ot
  split <;> omega
theorem ot_ot (d : Int) : ot (ot d) = d := by
  unfold ot
  split <;> split <;> omega
end Go.Proofs.Ytidcofjadlfahaa
