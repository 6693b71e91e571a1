/- Floats: what a double's word stands for; how two stand to each other. -/
import Derived.Laws.FloatArith
set_option linter.unusedVariables false
set_option linter.unusedSimpArgs false
namespace Go.Proofs.Ytidcofjadlfahaa

/-- A word's sign; its rung (all bits but the sign); is it no number? -/
def fsg (b : Nat) : Bool := b / 9223372036854775808 % 2 == 1
def rung (b : Nat) : Nat := b % 9223372036854775808
def nanb (b : Nat) : Bool := decide (9218868437227405312 < rung b)
/-- What a rung stands for, in units of the least number. -/
def mg (r : Nat) : Nat := if r < 4503599627370496 then r else (4503599627370496 + r % 4503599627370496) * 2 ^ (r / 4503599627370496 - 1)
def sv (s : Bool) (n : Nat) : Int := if s then -(n : Int) else n
def zk (b : Nat) : Int := sv (fsg b) (rung b)
def fv (b : Nat) : Int := sv (fsg b) (mg (rung b))
/-- A place in the order of all floats: those that are no number stand last, all alike. -/
def fkey (b : Nat) : Int := if nanb b then 9223372036854775808 else if fsg b then -(rung b : Int) - 1 else rung b

theorem rung_lt (b : Nat) : rung b < 9223372036854775808 := Nat.mod_lt _ (by omega)
theorem read_eq (b : Nat) : Ieee.double.read b = if rung b < 4503599627370496 then .number (fsg b) (rung b) (-1074) else if rung b < 9218868437227405312 then .number (fsg b) (4503599627370496 + rung b % 4503599627370496) (-1074 + ((rung b / 4503599627370496 - 1 : Nat) : Int)) else if rung b = 9218868437227405312 then .infinity (fsg b) else .nan (fsg b) (rung b - 9218868437227405312) := by
  have e1 : Ieee.double.signWeight = 9223372036854775808 := by decide
  have e2 : Ieee.double.binade = 4503599627370496 := by decide
  have e3 : Ieee.double.infRung = 9218868437227405312 := by decide
  have e4 : Ieee.double.leastPlace = -1074 := by decide
  unfold Ieee.Format.read rung fsg
  rw [e1, e2, e3, e4]
theorem read_nan {b : Nat} (h : nanb b = true) : Ieee.double.read b = .nan (fsg b) (rung b - 9218868437227405312) := by
  have := of_decide_eq_true h
  rw [read_eq, if_neg (by omega), if_neg (by omega), if_neg (by omega)]
theorem read_inf {b : Nat} (h : rung b = 9218868437227405312) : Ieee.double.read b = .infinity (fsg b) := by
  rw [read_eq, if_neg (by omega), if_neg (by omega), if_pos h]
theorem read_num {b : Nat} (h : rung b < 9218868437227405312) : ∃ (m : Nat) (e : Int), Ieee.double.read b = .number (fsg b) m e ∧ -1074 ≤ e ∧ m < 9007199254740992 ∧ m * 2 ^ (e + 1074).toNat = mg (rung b) ∧ e ≤ 971 := by
  by_cases k : rung b < 4503599627370496
  · exact ⟨rung b, -1074, by rw [read_eq, if_pos k], by omega, by omega, by rw [mg, if_pos k]; simp, by omega⟩
  · refine ⟨_, _, by rw [read_eq, if_neg k, if_pos h], by omega, by omega, ?_, by omega⟩
    rw [mg, if_neg k, show ((-1074 : Int) + ((rung b / 4503599627370496 - 1 : Nat) : Int) + 1074).toNat = rung b / 4503599627370496 - 1 from by omega]
theorem mg_step (r : Nat) : mg r < mg (r + 1) := by
  unfold mg
  by_cases h : r < 4503599627370496
  · by_cases h2 : r + 1 < 4503599627370496
    · rw [if_pos h, if_pos h2]; omega
    · obtain rfl : r = 4503599627370495 := by omega
      rw [if_pos h, if_neg h2]
      decide
  · rw [if_neg h, if_neg (by omega)]
    by_cases h2 : r % 4503599627370496 = 4503599627370495
    · have e1 : (r + 1) % 4503599627370496 = 0 := by omega
      have e2 : (r + 1) / 4503599627370496 - 1 = (r / 4503599627370496 - 1) + 1 := by omega
      rw [e1, e2, h2, Nat.pow_succ]
      have := Nat.two_pow_pos (r / 4503599627370496 - 1)
      omega
    · have e1 : (r + 1) % 4503599627370496 = r % 4503599627370496 + 1 := by omega
      have e2 : (r + 1) / 4503599627370496 - 1 = (r / 4503599627370496 - 1) := by omega
      rw [e1, e2]
      exact Nat.mul_lt_mul_of_pos_right (by omega) (Nat.two_pow_pos _)
theorem mg_mono {a b : Nat} (h : a < b) : mg a < mg b := by
  obtain ⟨k, rfl⟩ : ∃ k, b = a + 1 + k := ⟨b - (a + 1), by omega⟩
  induction k with
  | zero => exact mg_step a
  | succ k ih => exact Nat.lt_trans (ih (by omega)) (mg_step _)
theorem mg_le {a b : Nat} (h : a ≤ b) : mg a ≤ mg b := by
  rcases Nat.lt_or_eq_of_le h with h | h
  · exact Nat.le_of_lt (mg_mono h)
  · rw [h]; exact Nat.le_refl _
theorem mg_lt_iff {a b : Nat} : mg a < mg b ↔ a < b := by
  constructor
  · intro h
    apply Nat.lt_of_not_le
    intro k
    have := mg_le k
    omega
  · exact mg_mono
theorem mg_inj {a b : Nat} (h : mg a = mg b) : a = b := by
  rcases Nat.lt_trichotomy a b with k | k | k
  · have := mg_mono k; omega
  · exact k
  · have := mg_mono k; omega
theorem mg_zero : mg 0 = 0 := by decide
theorem fv_lt_iff {a b : Nat} : fv a < fv b ↔ zk a < zk b := by
  have h1 := @mg_lt_iff (rung a) (rung b)
  have h2 := @mg_lt_iff (rung b) (rung a)
  have h3 := @mg_lt_iff 0 (rung a)
  have h4 := @mg_lt_iff 0 (rung b)
  rw [mg_zero] at h3 h4
  unfold fv zk sv
  cases fsg a <;> cases fsg b <;> simp <;> omega
theorem cmp_congr {a b c d : Int} (h : a < b ↔ c < d) (k : b < a ↔ d < c) : compare a b = compare c d := by
  rcases Int.lt_trichotomy a b with x | x | x
  · rw [Int.compare_eq_lt.2 x, Int.compare_eq_lt.2 (h.1 x)]
  · rw [Int.compare_eq_eq.2 x, Int.compare_eq_eq.2 (by omega)]
  · rw [Int.compare_eq_gt.2 x, Int.compare_eq_gt.2 (k.1 x)]
theorem signed_sv (s : Bool) (m k : Nat) : Ieee.signed s m k = sv s (m * 2 ^ k) := by
  unfold Ieee.signed sv
  rw [Nat.shiftLeft_eq]
theorem sv_mul (s : Bool) (m c : Nat) : sv s (m * c) = sv s m * c := by
  unfold sv
  cases s <;> simp [Int.neg_mul]
theorem order_num {a b : Nat} (ha : rung a < 9218868437227405312) (hb : rung b < 9218868437227405312) : Ieee.double.order a b = some (compare (fv a) (fv b)) := by
  obtain ⟨m, i, e1, i0, _, v1, _⟩ := read_num ha
  obtain ⟨n, j, e2, j0, _, v2, _⟩ := read_num hb
  unfold Ieee.Format.order
  rw [e1, e2]
  show some (compare (Ieee.signed (fsg a) m (i - min i j).toNat) (Ieee.signed (fsg b) n (j - min i j).toNat)) = _
  rw [signed_sv, signed_sv]
  have x1 : fv a = sv (fsg a) (m * 2 ^ (i - min i j).toNat) * ((2 ^ (min i j + 1074).toNat : Nat) : Int) := by
    rw [← sv_mul, fv, ← v1, Nat.mul_assoc, ← Nat.pow_add, show (i - min i j).toNat + (min i j + 1074).toNat = (i + 1074).toNat from by omega]
  have x2 : fv b = sv (fsg b) (n * 2 ^ (j - min i j).toNat) * ((2 ^ (min i j + 1074).toNat : Nat) : Int) := by
    rw [← sv_mul, fv, ← v2, Nat.mul_assoc, ← Nat.pow_add, show (j - min i j).toNat + (min i j + 1074).toNat = (j + 1074).toNat from by omega]
  rw [x1, x2]
  have hp : (0 : Int) < ((2 ^ (min i j + 1074).toNat : Nat) : Int) := by have := Nat.two_pow_pos (min i j + 1074).toNat; omega
  congr 1
  exact cmp_congr (Int.mul_lt_mul_right hp).symm (Int.mul_lt_mul_right hp).symm
theorem order_none {a b : Nat} (h : nanb a = true ∨ nanb b = true) : Ieee.double.order a b = none := by
  unfold Ieee.Format.order
  rcases h with h | h
  · rw [read_nan h]
    cases Ieee.double.read b <;> rfl
  · rw [read_nan h]
    cases Ieee.double.read a <;> rfl
theorem order_some {a b : Nat} (ha : nanb a = false) (hb : nanb b = false) : Ieee.double.order a b = some (compare (zk a) (zk b)) := by
  have ha := of_decide_eq_false ha
  have hb := of_decide_eq_false hb
  by_cases ka : rung a = 9218868437227405312
  · by_cases kb : rung b = 9218868437227405312
    · unfold Ieee.Format.order
      rw [read_inf ka, read_inf kb]
      show some (compare (fsg b).toNat (fsg a).toNat) = _
      unfold zk sv
      rw [ka, kb]
      cases fsg a <;> cases fsg b <;> decide
    · obtain ⟨n, j, e2, _⟩ := read_num (b := b) (by omega)
      unfold Ieee.Format.order
      rw [read_inf ka, e2]
      show some (if fsg a then Ordering.lt else Ordering.gt) = _
      unfold zk sv
      rw [ka]
      cases h : fsg a
      · rw [Int.compare_eq_gt.2 (by cases fsg b <;> simp <;> omega)]; rfl
      · rw [Int.compare_eq_lt.2 (by cases fsg b <;> simp <;> omega)]; rfl
  · by_cases kb : rung b = 9218868437227405312
    · obtain ⟨n, j, e2, _⟩ := read_num (b := a) (by omega)
      unfold Ieee.Format.order
      rw [read_inf kb, e2]
      show some (if fsg b then Ordering.gt else Ordering.lt) = _
      unfold zk sv
      rw [kb]
      cases h : fsg b
      · rw [Int.compare_eq_lt.2 (by cases fsg a <;> simp <;> omega)]; rfl
      · rw [Int.compare_eq_gt.2 (by cases fsg a <;> simp <;> omega)]; rfl
    · rw [order_num (by omega) (by omega)]
      congr 1
      exact cmp_congr fv_lt_iff fv_lt_iff

/-- The tests of two floats. -/
def feq (a b : Nat) : Bool := !nanb a && !nanb b && decide (zk a = zk b)
def flt (a b : Nat) : Bool := !nanb a && !nanb b && decide (zk a < zk b)
theorem order_eq (a b : Nat) : (Ieee.double.order a b == some .eq) = feq a b := by
  unfold feq
  cases ha : nanb a
  · cases hb : nanb b
    · rw [order_some ha hb]
      rcases Int.lt_trichotomy (zk a) (zk b) with x | x | x
      · rw [Int.compare_eq_lt.2 x, decide_eq_false (by omega)]; rfl
      · rw [Int.compare_eq_eq.2 x, decide_eq_true x]; rfl
      · rw [Int.compare_eq_gt.2 x, decide_eq_false (by omega)]; rfl
    · rw [order_none (.inr hb)]; rfl
  · rw [order_none (.inl ha)]; rfl
theorem order_lt (a b : Nat) : (Ieee.double.order a b == some .lt) = flt a b := by
  unfold flt
  cases ha : nanb a
  · cases hb : nanb b
    · rw [order_some ha hb]
      rcases Int.lt_trichotomy (zk a) (zk b) with x | x | x
      · rw [Int.compare_eq_lt.2 x, decide_eq_true x]; rfl
      · rw [Int.compare_eq_eq.2 x, decide_eq_false (by omega)]; rfl
      · rw [Int.compare_eq_gt.2 x, decide_eq_false (by omega)]; rfl
    · rw [order_none (.inr hb)]; rfl
  · rw [order_none (.inl ha)]; rfl
theorem order_gt (a b : Nat) : (Ieee.double.order a b == some .gt) = flt b a := by
  unfold flt
  cases ha : nanb a
  · cases hb : nanb b
    · rw [order_some ha hb]
      rcases Int.lt_trichotomy (zk a) (zk b) with x | x | x
      · rw [Int.compare_eq_lt.2 x, decide_eq_false (by omega)]; rfl
      · rw [Int.compare_eq_eq.2 x, decide_eq_false (by omega)]; rfl
      · rw [Int.compare_eq_gt.2 x, decide_eq_true x]; rfl
    · rw [order_none (.inr hb)]; rfl
  · rw [order_none (.inl ha)]; simp
theorem order_ne (a b : Nat) : (Ieee.double.order a b != some .eq) = !feq a b := by
  rw [← order_eq]; rfl

/-- Ahead, in the document's order. -/
def fless (a b : Nat) : Bool := decide (fkey a < fkey b)
theorem fkey_nan {b : Nat} (h : nanb b = true) : fkey b = 9223372036854775808 := by unfold fkey; rw [h]; rfl
theorem fkey_num {b : Nat} (h : nanb b = false) : fkey b < 9223372036854775808 ∧ fkey b = (if fsg b then -(rung b : Int) - 1 else rung b) := by
  have := rung_lt b
  unfold fkey
  rw [h]
  refine ⟨?_, by rfl⟩
  simp
  cases fsg b <;> simp <;> omega
theorem fless_nan {a b : Nat} (h : nanb a = true ∨ nanb b = true) : fless a b = (!nanb a && nanb b) := by
  unfold fless
  cases ha : nanb a
  · cases hb : nanb b
    · rcases h with h | h
      · rw [ha] at h; cases h
      · rw [hb] at h; cases h
    · rw [fkey_nan hb, decide_eq_true (fkey_num ha).1]; rfl
  · rw [fkey_nan ha]
    cases hb : nanb b
    · have := (fkey_num hb).1
      rw [decide_eq_false (by omega)]; rfl
    · rw [fkey_nan hb]; rfl
theorem fless_eq {a b : Nat} (ha : nanb a = false) (hb : nanb b = false) (h : zk a = zk b) : fless a b = (fsg a && !fsg b) := by
  unfold fless
  rw [(fkey_num ha).2, (fkey_num hb).2]
  unfold zk sv at h
  cases ga : fsg a <;> cases gb : fsg b <;> simp [ga, gb] at h ⊢ <;> omega
theorem fless_ne {a b : Nat} (ha : nanb a = false) (hb : nanb b = false) (h : zk a ≠ zk b) : fless a b = decide (zk a < zk b) := by
  unfold fless
  rw [(fkey_num ha).2, (fkey_num hb).2]
  unfold zk sv at h ⊢
  cases ga : fsg a <;> cases gb : fsg b <;> simp [ga, gb] at h ⊢ <;> omega
end Go.Proofs.Ytidcofjadlfahaa
