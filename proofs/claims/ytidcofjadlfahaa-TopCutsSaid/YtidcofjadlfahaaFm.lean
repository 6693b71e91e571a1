/- The less of two floats that are whole or without end; there and back. -/
import Derived.Test.YtidcofjadlfahaaBa
import Derived.Test.YtidcofjadlfahaaF3
set_option linter.unusedVariables false
set_option linter.unusedSimpArgs false
namespace Go.Proofs.Ytidcofjadlfahaa
open Go.RowKit

theorem morder_keys {a b : Nat} (na : nanb a = false) (nb : nanb b = false) (sa : fsg a = false) (sb : fsg b = false) : FloatKind.f64.format.order a b = some (compare (fkey a) (fkey b)) := by
  have h := order_some na nb
  have e1 : zk a = fkey a := by unfold zk sv fkey; rw [na, sa]; rfl
  have e2 : zk b = fkey b := by unfold zk sv fkey; rw [nb, sb]; rfl
  rw [e1, e2] at h
  exact h
theorem mmin_run {a b : Nat} (na : nanb a = false) (nb : nanb b = false) (sa : fsg a = false) (sb : fsg b = false) :
    ∃ m, ((m = a ∧ fkey a ≤ fkey b) ∨ (m = b ∧ fkey b ≤ fkey a)) ∧ ∀ tys ty w, (Builtin.min_ tys ty #[.float .f64 a, .float .f64 b]).run Try.prog w = .ok (.float .f64 m) w := by
  have h := morder_keys na nb sa sb
  rcases Int.lt_trichotomy (fkey a) (fkey b) with l | l | l
  · rw [Int.compare_eq_lt.2 l] at h
    exact ⟨a, .inl ⟨rfl, by omega⟩, fun tys ty w => by simp [Builtin.min_, Builtin.min2, h]⟩
  · rw [Int.compare_eq_eq.2 l] at h
    by_cases hd : (FloatKind.f64.decode a).neg = true
    · exact ⟨a, .inl ⟨rfl, by omega⟩, fun tys ty w => by simp [Builtin.min_, Builtin.min2, h, hd]⟩
    · exact ⟨b, .inr ⟨rfl, by omega⟩, fun tys ty w => by simp [Builtin.min_, Builtin.min2, h, hd]⟩
  · rw [Int.compare_eq_gt.2 l] at h
    exact ⟨b, .inr ⟨rfl, by omega⟩, fun tys ty w => by simp [Builtin.min_, Builtin.min2, h]⟩
theorem mkey_wd {r : Nat} (h : r ≤ 9218868437227405312) : fkey (wd false r) = r := by
  unfold fkey
  rw [nanb_wd _ (by omega), fsg_wd _ (by omega), rung_wd _ (by omega)]
  rfl
theorem whole_word {x : Int} (h0 : 0 ≤ x) (h1 : x < 9007199254740992) : ∃ r, r < 9218868437227405312 ∧ mg r = x.toNat * 2 ^ EU ∧ floatOfInt .f64 x = wd false r := by
  obtain ⟨r, a, b, c⟩ := ofInt_exact (n := x) (by omega)
  rw [decide_eq_false (by omega)] at c
  rw [show x.natAbs = x.toNat from by omega] at b
  exact ⟨r, a, b, c⟩
theorem whole_le {x y : Int} (hx0 : 0 ≤ x) (hx1 : x < 9007199254740992) (hy0 : 0 ≤ y) (hy1 : y < 9007199254740992) : fkey (floatOfInt .f64 x) ≤ fkey (floatOfInt .f64 y) ↔ x ≤ y := by
  obtain ⟨r, a, b, c⟩ := whole_word hx0 hx1
  obtain ⟨q, a', b', c'⟩ := whole_word hy0 hy1
  have hp := Nat.two_pow_pos EU
  rw [c, c', mkey_wd (by omega), mkey_wd (by omega)]
  have k := mg_lt_iff (a := q) (b := r)
  rw [b, b', Nat.mul_lt_mul_right hp] at k
  omega
theorem min_whole {x y : Int} (hx0 : 0 ≤ x) (hx1 : x < 9007199254740992) (hy0 : 0 ≤ y) (hy1 : y < 9007199254740992) (tys : Array TypeId) (ty : TypeId) (w : World) : (Builtin.min_ tys ty #[.float .f64 (floatOfInt .f64 x), .float .f64 (floatOfInt .f64 y)]).run Try.prog w = .ok (.float .f64 (floatOfInt .f64 (min x y))) w := by
  obtain ⟨r, a, b, c⟩ := whole_word hx0 hx1
  obtain ⟨q, a', b', c'⟩ := whole_word hy0 hy1
  have LE := whole_le hx0 hx1 hy0 hy1
  have LE' := whole_le hy0 hy1 hx0 hx1
  obtain ⟨m, hm, H⟩ := mmin_run (a := floatOfInt .f64 x) (b := floatOfInt .f64 y) (by rw [c]; exact nanb_wd _ (by omega)) (by rw [c']; exact nanb_wd _ (by omega)) (by rw [c]; exact fsg_wd _ (by omega)) (by rw [c']; exact fsg_wd _ (by omega))
  rw [H tys ty w]
  rcases hm with ⟨rfl, k⟩ | ⟨rfl, k⟩
  · rw [show min x y = x from by have := LE.1 k; omega]
  · rw [show min x y = y from by have := LE'.1 k; omega]
theorem min_inf {x : Int} (hx0 : 0 ≤ x) (hx1 : x < 9007199254740992) (tys : Array TypeId) (ty : TypeId) (w : World) : (Builtin.min_ tys ty #[.float .f64 9218868437227405312, .float .f64 (floatOfInt .f64 x)]).run Try.prog w = .ok (.float .f64 (floatOfInt .f64 x)) w := by
  obtain ⟨r, a, b, c⟩ := whole_word hx0 hx1
  obtain ⟨m, hm, H⟩ := mmin_run (a := 9218868437227405312) (b := floatOfInt .f64 x) (by decide) (by rw [c]; exact nanb_wd _ (by omega)) (by decide) (by rw [c]; exact fsg_wd _ (by omega))
  rw [H tys ty w]
  rcases hm with ⟨rfl, k⟩ | ⟨rfl, k⟩
  · rw [c, mkey_wd (by omega), show fkey 9218868437227405312 = 9218868437227405312 from by decide] at k
    omega
  · rfl
theorem back_int {x : Int} (hx0 : 0 ≤ x) (hx1 : x < 9007199254740992) (w : World) : (convert 66 3 (.float .f64 (floatOfInt .f64 x))).run Try.prog w = .ok (.int .i64 x) w := by
  obtain ⟨r, a, b, c⟩ := whole_word hx0 hx1
  have hp := Nat.two_pow_pos EU
  have hd : mg r / 2 ^ EU = x.toNat := by rw [b, Nat.mul_div_cancel _ hp]
  have CV := toIntVal_exact (y := wd false r) (by rw [rung_wd _ (by omega)]; exact a) (by rw [rung_wd _ (by omega), hd]; omega)
  rw [rung_wd _ (by omega), fsg_wd _ (by omega), hd] at CV
  have e : sv false x.toNat = x := by show ((x.toNat : Nat) : Int) = x; omega
  rw [e, ← c] at CV
  exact run_convert_float_int w 66 3 .f64 .i64 _ _ (by kernel_rfl) Try.underlying3 CV
theorem frombits (w : World) : (callFunc 51 #[.int .u64 9218868437227405312]).run Try.prog w = .ok (.value (.float .f64 9218868437227405312)) w := by
  rw [run_callFunc_extern (e := Extern.MathFloatBits.float64frombits) Try.func51 (by kernel_rfl) (by kernel_rfl) (by kernel_rfl) (by kernel_rfl)]
  rfl
theorem inf_any (w : World) : Calls Try.prog 34 #[.int .i64 1] w fun e w' => e = .returned (.float .f64 9218868437227405312) ∧ w = w' := by
  have FB := frombits
  go_enter Try.func34, Try.ntmps34
  go_wp2
  go_ret
  exact ⟨rfl, rfl⟩
end Go.Proofs.Ytidcofjadlfahaa
