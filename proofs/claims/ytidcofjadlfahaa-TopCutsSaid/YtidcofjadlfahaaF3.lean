/- Floats: to whole numbers, from whole numbers; a number as a text. -/
import Derived.Test.YtidcofjadlfahaaF2
import Derived.Lib.ItoaNum
set_option linter.unusedVariables false
set_option linter.unusedSimpArgs false
namespace Go.Proofs.Ytidcofjadlfahaa

/-- Of so many units the whole number nearest, of two the even one. -/
def rneU (N : Nat) : Nat := N / 2 ^ EU + (if 2 ^ EU < 2 * (N % 2 ^ EU) ∨ (2 ^ EU = 2 * (N % 2 ^ EU) ∧ N / 2 ^ EU % 2 = 1) then 1 else 0)
theorem sv_zero (s : Bool) : sv s 0 = 0 := by cases s <;> rfl
theorem sv_abs (s : Bool) (k : Nat) : (sv s k).natAbs = k := by
  unfold sv
  cases s <;> simp
theorem sv_neg_mul (s : Bool) (q c : Nat) : sv (decide (sv s q < 0)) (q * c) = sv s (q * c) := by
  cases s
  · rw [show decide (sv false q < 0) = false from decide_eq_false (by unfold sv; simp)]
  · by_cases k : q = 0
    · rw [k, Nat.zero_mul, sv_zero, sv_zero]
    · rw [show decide (sv true q < 0) = true from decide_eq_true (by unfold sv; simp; omega)]
theorem cut_even_frac (s : Bool) (m d : Nat) : Ieee.Toward.even.cut s m d = m / 2 ^ d + (if 2 ^ d < 2 * (m % 2 ^ d) ∨ (2 ^ d = 2 * (m % 2 ^ d) ∧ m / 2 ^ d % 2 = 1) then 1 else 0) := by
  unfold Ieee.Toward.cut
  have hm : m < 2 ^ (m.log2 + 1) := Nat.lt_log2_self
  have main : ∀ k, 1 <<< min d (m.log2 + 2) = 2 ^ k → (k = d ∨ (2 * m < 2 ^ k ∧ 2 * m < 2 ^ d)) → (m / 2 ^ k + (decide (2 ^ k < 2 * (m % 2 ^ k)) || 2 ^ k == 2 * (m % 2 ^ k) && m / 2 ^ k % 2 == 1).toNat = m / 2 ^ d + (if 2 ^ d < 2 * (m % 2 ^ d) ∨ (2 ^ d = 2 * (m % 2 ^ d) ∧ m / 2 ^ d % 2 = 1) then 1 else 0)) := by
    rintro k - h
    rcases h with rfl | ⟨h1, h2⟩
    · congr 1
      by_cases a : 2 ^ k < 2 * (m % 2 ^ k)
      · rw [if_pos (.inl a), decide_eq_true a]; rfl
      · rw [decide_eq_false a, Bool.false_or]
        by_cases b : 2 ^ k = 2 * (m % 2 ^ k)
        · by_cases c : m / 2 ^ k % 2 = 1
          · rw [if_pos (.inr ⟨b, c⟩), c, ← b]; simp
          · rw [if_neg (by rintro (x | x); exact a x; exact c x.2)]
            simp [c]
        · rw [if_neg (by rintro (x | x); exact a x; exact b x.1)]
          simp [b]
    · rw [Nat.div_eq_of_lt (show m < 2 ^ k by omega), Nat.div_eq_of_lt (show m < 2 ^ d by omega), Nat.mod_eq_of_lt (show m < 2 ^ k by omega), Nat.mod_eq_of_lt (show m < 2 ^ d by omega), if_neg (by omega)]
      have e1 : decide (2 ^ k < 2 * m) = false := decide_eq_false (by omega)
      have e2 : (2 ^ k == 2 * m) = false := by simp; omega
      rw [e1, e2]
      rfl
  by_cases h : d ≤ m.log2 + 2
  · have e : 1 <<< min d (m.log2 + 2) = 2 ^ d := by rw [Nat.min_eq_left h, Nat.shiftLeft_eq, Nat.one_mul]
    have := main d e (.inl rfl)
    rw [e]
    exact this
  · have e : 1 <<< min d (m.log2 + 2) = 2 ^ (m.log2 + 2) := by rw [Nat.min_eq_right (by omega), Nat.shiftLeft_eq, Nat.one_mul]
    have h3 : 2 * m < 2 ^ (m.log2 + 2) := by rw [Nat.pow_succ]; omega
    have h4 : 2 ^ (m.log2 + 2) ≤ 2 ^ d := Nat.pow_le_pow_right (by omega) (by omega)
    have := main (m.log2 + 2) e (.inr ⟨h3, by omega⟩)
    rw [e]
    exact this
theorem cut_zero_frac (s : Bool) (m d : Nat) : Ieee.Toward.zero.cut s m d = m / 2 ^ d := by
  unfold Ieee.Toward.cut
  have hm : m < 2 ^ (m.log2 + 1) := Nat.lt_log2_self
  by_cases h : d ≤ m.log2 + 2
  · have e : 1 <<< min d (m.log2 + 2) = 2 ^ d := by rw [Nat.min_eq_left h, Nat.shiftLeft_eq, Nat.one_mul]
    rw [e]
    rfl
  · have e : 1 <<< min d (m.log2 + 2) = 2 ^ (m.log2 + 2) := by rw [Nat.min_eq_right (by omega), Nat.shiftLeft_eq, Nat.one_mul]
    have h3 : 2 * m < 2 ^ (m.log2 + 2) := by rw [Nat.pow_succ]; omega
    have h4 : 2 ^ (m.log2 + 2) ≤ 2 ^ d := Nat.pow_le_pow_right (by omega) (by omega)
    rw [e]
    show m / 2 ^ (m.log2 + 2) + 0 = _
    rw [Nat.div_eq_of_lt (by omega), Nat.div_eq_of_lt (by omega)]
/-- A number's whole part, what is left, in units. -/
theorem units_form {m : Nat} {i : Int} (h0 : -1074 ≤ i) : ∃ n d c : Nat, m <<< i.toNat = n ∧ (-i).toNat = d ∧ 0 < c ∧ m * 2 ^ (i + 1074).toNat = n * c ∧ 2 ^ EU = 2 ^ d * c := by
  have E := EU_eq
  by_cases h : 0 ≤ i
  · refine ⟨_, _, 2 ^ EU, rfl, rfl, Nat.two_pow_pos _, ?_, ?_⟩
    · rw [Nat.shiftLeft_eq, Nat.mul_assoc, ← Nat.pow_add, show (i + 1074).toNat = i.toNat + EU from by omega]
    · rw [show (-i).toNat = 0 from by omega]; simp
  · refine ⟨_, _, 2 ^ (i + 1074).toNat, rfl, rfl, Nat.two_pow_pos _, ?_, ?_⟩
    · rw [show i.toNat = 0 from by omega]; simp
    · rw [← Nat.pow_add, show EU = (-i).toNat + (i + 1074).toNat from by omega]
theorem rne_scale {n d c : Nat} (hc : 0 < c) (h : 2 ^ EU = 2 ^ d * c) : rneU (n * c) = n / 2 ^ d + (if 2 ^ d < 2 * (n % 2 ^ d) ∨ (2 ^ d = 2 * (n % 2 ^ d) ∧ n / 2 ^ d % 2 = 1) then 1 else 0) := by
  unfold rneU
  rw [h, Nat.mul_div_mul_right _ _ hc, Nat.mul_mod_mul_right]
  have e1 : (2 ^ d * c < 2 * (n % 2 ^ d * c)) ↔ (2 ^ d < 2 * (n % 2 ^ d)) := by
    rw [← Nat.mul_assoc]
    exact Nat.mul_lt_mul_right hc
  have e2 : (2 ^ d * c = 2 * (n % 2 ^ d * c)) ↔ (2 ^ d = 2 * (n % 2 ^ d)) := by
    rw [← Nat.mul_assoc]
    exact ⟨fun k => Nat.eq_of_mul_eq_mul_right hc k, fun k => by rw [← k]⟩
  simp only [e1, e2]
theorem rung_whole {k : Nat} (h : k < 9007199254740992) : ∃ r, r < 9218868437227405312 ∧ mg r = k * 2 ^ EU ∧ (k = 0 → r = 0) := by
  have E := EU_eq
  by_cases h0 : k = 0
  · exact ⟨0, by omega, by rw [h0, mg_zero, Nat.zero_mul], fun _ => rfl⟩
  · have hl : k.log2 < 53 := (Nat.log2_lt h0).2 (by omega)
    obtain ⟨r, a, b, c⟩ := rung_of (k := k) (E := EU) (by omega) h (by omega)
    exact ⟨r, b, c, fun e => absurd e h0⟩
theorem nearest_whole (s : Bool) {k r : Nat} (hr : r < 9218868437227405312) (h : mg r = k * 2 ^ EU) : Ieee.double.nearest s k 0 = wd s r := by
  have E := EU_eq
  by_cases h0 : k = 0
  · subst h0
    rw [nearest_zero]
    rw [Nat.zero_mul, ← mg_zero] at h
    rw [mg_inj h]
  · have hr0 : 0 < r := by
      rcases Nat.eq_zero_or_pos r with e | e
      · rw [e, mg_zero] at h
        have := Nat.mul_pos (Nat.pos_of_ne_zero h0) (Nat.two_pow_pos EU)
        omega
      · exact e
    exact nearest_exact s 0 hr0 hr (by omega) (by rw [h, Nat.pow_zero, Nat.mul_one, show ((0 : Int) + 1074 + ((0 : Nat) : Int)).toNat = EU from by omega])
/-- A whole number as a float. -/
theorem ofInt_exact {n : Int} (h : n.natAbs < 9007199254740992) : ∃ r, r < 9218868437227405312 ∧ mg r = n.natAbs * 2 ^ EU ∧ floatOfInt .f64 n = wd (decide (n < 0)) r := by
  obtain ⟨r, a, b, _⟩ := rung_whole h
  exact ⟨r, a, b, nearest_whole _ a b⟩
/-- A float, made whole. -/
theorem rint_exact {y : Nat} (hy : rung y < 9218868437227405312) (hb : rneU (mg (rung y)) < 9007199254740992) : ∃ r, r < 9218868437227405312 ∧ mg r = rneU (mg (rung y)) * 2 ^ EU ∧ Ieee.double.write ((Ieee.double.read y).integral .even) = wd (fsg y) r := by
  obtain ⟨m, i, e1, i0, _, v1, _⟩ := read_num hy
  obtain ⟨r, a, b, _⟩ := rung_whole hb
  refine ⟨r, a, b, ?_⟩
  rw [e1]
  show Ieee.double.nearest (fsg y) (Ieee.Toward.even.cut (fsg y) (m <<< i.toNat) (-i).toNat) 0 = _
  obtain ⟨n, d, c, x1, x2, x3, x4, x5⟩ := units_form (m := m) i0
  rw [x1, x2, cut_even_frac, ← rne_scale x3 x5, ← x4, v1]
  exact nearest_whole _ a b
theorem toInt_exact {y : Nat} (hy : rung y < 9218868437227405312) : (Ieee.double.read y).toInt .zero = some (sv (fsg y) (mg (rung y) / 2 ^ EU)) := by
  obtain ⟨m, i, e1, i0, _, v1, _⟩ := read_num hy
  rw [e1]
  show some (Ieee.signed (fsg y) (Ieee.Toward.zero.cut (fsg y) (m <<< i.toNat) (-i).toNat) 0) = _
  obtain ⟨n, d, c, x1, x2, x3, x4, x5⟩ := units_form (m := m) i0
  rw [signed_sv, Nat.pow_zero, Nat.mul_one, x1, x2, cut_zero_frac, ← v1, x4, x5, Nat.mul_div_mul_right _ _ x3]
theorem sv_bound (s : Bool) {k : Nat} (h : k < 9007199254740992) : (IntKind.i64).min ≤ sv s k ∧ sv s k ≤ (IntKind.i64).max := by
  have e1 : (IntKind.i64).min = -9223372036854775808 := by decide
  have e2 : (IntKind.i64).max = 9223372036854775807 := by decide
  rw [e1, e2]
  unfold sv
  cases s <;> simp <;> omega
theorem toIntVal_exact {y : Nat} (hy : rung y < 9218868437227405312) (h : mg (rung y) / 2 ^ EU < 9007199254740992) : floatToIntVal .f64 y .i64 = some (sv (fsg y) (mg (rung y) / 2 ^ EU)) := by
  unfold floatToIntVal
  show (match (Ieee.double.read y).toInt .zero with
    | some n => if (IntKind.i64).min ≤ n ∧ n ≤ (IntKind.i64).max then some n else none
    | none => none) = _
  rw [toInt_exact hy]
  simp only []
  rw [if_pos (sv_bound _ h)]
/-- 1024 times. -/
theorem times_1024 {x : Nat} (hx : rung x < 4787326403894837248) : ∃ r, r < 9218868437227405312 ∧ mg r = 1024 * mg (rung x) ∧ Ieee.double.mul x 4652218415073722368 = some (wd (fsg x) r) ∧ mg r < 1125899906842624 * 2 ^ EU := by
  have E := EU_eq
  have m1 : mg (rung 4652218415073722368) = 1024 * 2 ^ EU := by decide +kernel
  have m2 : mg 4787326403894837248 = 1099511627776 * 2 ^ EU := by decide +kernel
  have m3 := mg_mono hx
  have hr : ∃ r, r < 9218868437227405312 ∧ mg r = 1024 * mg (rung x) := by
    by_cases h0 : rung x = 0
    · exact ⟨0, by omega, by rw [h0, mg_zero]⟩
    · obtain ⟨M, q, e, M0, M1, er, hq⟩ := mg_form (r := rung x) (by omega)
      have hl : M.log2 < 53 := (Nat.log2_lt (by omega)).2 (by omega)
      obtain ⟨r, a, b, c⟩ := rung_of (k := M) (E := q + 10) M0 M1 (by omega)
      exact ⟨r, b, by rw [c, e, Nat.pow_add, ← Nat.mul_assoc, Nat.mul_comm]⟩
  obtain ⟨r, a, b⟩ := hr
  refine ⟨r, a, b, ?_, by omega⟩
  have := mul_exact (x := x) (y := 4652218415073722368) (r := r) (by omega) (by decide) a (by rw [m1, b]; simp only [Nat.mul_assoc, Nat.mul_left_comm, Nat.mul_comm])
  rw [show fsg 4652218415073722368 = false from by decide, Bool.xor_false] at this
  exact this

/-- What is written for a float. -/
def textF (b : Nat) : List UInt8 :=
  if nanb b then [110, 97, 110]
  else if rung b = 9218868437227405312 then (if fsg b then [45, 105, 110, 102] else [105, 110, 102])
  else if rung b = 0 then (if fsg b then [45, 48] else [48])
  else if 4787326403894837248 ≤ rung b then (if fsg b then [45, 98, 105, 103] else [98, 105, 103])
  else Lib.itoa (sv (fsg b) (rneU (1024 * mg (rung b))))

/-- What is beyond the whole number below: the document's own way of rounding. -/
theorem frac_exact {y : Nat} (hy : rung y < 9218868437227405312) (h : mg (rung y) / 2 ^ EU < 9007199254740992) :
    ∃ d, Ieee.double.sub y (floatOfInt .f64 (sv (fsg y) (mg (rung y) / 2 ^ EU))) = some d ∧ rung d < 9218868437227405312 ∧ fv d = sv (fsg y) (mg (rung y) % 2 ^ EU) := by
  have E := EU_eq
  have hn : (sv (fsg y) (mg (rung y) / 2 ^ EU)).natAbs = mg (rung y) / 2 ^ EU := by
    exact sv_abs _ _
  obtain ⟨r, a, b, c⟩ := ofInt_exact (n := sv (fsg y) (mg (rung y) / 2 ^ EU)) (by omega)
  have hdm := Nat.div_add_mod (mg (rung y)) (2 ^ EU)
  have hr : ∃ r2, r2 < 9218868437227405312 ∧ mg r2 = mg (rung y) % 2 ^ EU := by
    by_cases h0 : mg (rung y) % 2 ^ EU = 0
    · exact ⟨0, by omega, by rw [h0, mg_zero]⟩
    · have hz : rung y ≠ 0 := by
        intro e
        rw [e, mg_zero, Nat.zero_mod] at h0
        exact h0 rfl
      obtain ⟨M, q, e, M0, M1, er, hq⟩ := mg_form (r := rung y) (by omega)
      have hqE : q < EU := by
        apply Nat.lt_of_not_le
        intro k
        obtain ⟨z, rfl⟩ : ∃ z, q = z + EU := ⟨q - EU, by omega⟩
        rw [e, Nat.pow_add, ← Nat.mul_assoc, Nat.mul_mod_left] at h0
        exact h0 rfl
      obtain ⟨z, hz2⟩ : ∃ z, EU = z + q := ⟨EU - q, by omega⟩
      have e2 : mg (rung y) % 2 ^ EU = M % 2 ^ z * 2 ^ q := by
        rw [e, hz2, Nat.pow_add, Nat.mul_mod_mul_right]
      have hm0 : M % 2 ^ z ≠ 0 := by
        intro k
        rw [e2, k, Nat.zero_mul] at h0
        exact h0 rfl
      have hm1 : M % 2 ^ z ≤ M := Nat.mod_le _ _
      have hl : (M % 2 ^ z).log2 < 53 := (Nat.log2_lt hm0).2 (by omega)
      obtain ⟨r2, x1, x2, x3⟩ := rung_of (k := M % 2 ^ z) (E := q) (by omega) (by omega) (by omega)
      exact ⟨r2, x2, by rw [x3, e2]⟩
  obtain ⟨r2, a2, b2⟩ := hr
  have hF : fv (floatOfInt .f64 (sv (fsg y) (mg (rung y) / 2 ^ EU))) = sv (fsg y) (mg (rung y) / 2 ^ EU * 2 ^ EU) := by
    rw [c, fv_wd _ (by omega), b, hn]
    exact sv_neg_mul _ _ _
  have hsub : fv y - fv (floatOfInt .f64 (sv (fsg y) (mg (rung y) / 2 ^ EU))) = sv (fsg y) (mg r2) := by
    rw [hF, b2]
    have : fv y = sv (fsg y) (mg (rung y) % 2 ^ EU + mg (rung y) / 2 ^ EU * 2 ^ EU) := by
      rw [fv, show mg (rung y) % 2 ^ EU + mg (rung y) / 2 ^ EU * 2 ^ EU = mg (rung y) from by rw [Nat.mul_comm, Nat.add_comm]; exact hdm]
    rw [this, sv_add]
    omega
  have hfr : rung (floatOfInt .f64 (sv (fsg y) (mg (rung y) / 2 ^ EU))) < 9218868437227405312 := by
    rw [c, rung_wd _ (by omega)]
    exact a
  by_cases z : r2 = 0
  · refine ⟨_, sub_exact (t := fsg y && !fsg (floatOfInt .f64 (sv (fsg y) (mg (rung y) / 2 ^ EU)))) hy hfr a2 ?_ (fun _ => rfl), ?_, ?_⟩
    · rw [hsub, z, mg_zero, sv_zero, sv_zero]
    · rw [rung_wd _ (by omega)]; exact a2
    · rw [fv_wd _ (by omega), ← b2, z, mg_zero, sv_zero, sv_zero]
  · refine ⟨_, sub_exact (t := fsg y) hy hfr a2 hsub (fun k => absurd k z), ?_, ?_⟩
    · rw [rung_wd _ (by omega)]; exact a2
    · rw [fv_wd _ (by omega), b2]
/-- Is it to be rounded away from nothing? -/
def upU (N : Nat) : Bool := decide (2 ^ EU < 2 * (N % 2 ^ EU)) || (decide (2 ^ EU = 2 * (N % 2 ^ EU)) && decide (N / 2 ^ EU % 2 = 1))
theorem rne_up (N : Nat) : rneU N = N / 2 ^ EU + (if upU N = true then 1 else 0) := by
  unfold rneU upU
  simp only [Bool.or_eq_true, Bool.and_eq_true, decide_eq_true_eq]
theorem half_gt {d N : Nat} {s : Bool} (hd : rung d < 9218868437227405312) (h : fv d = sv s N) : flt 4602678819172646912 d = (!s && decide (2 ^ EU < 2 * N)) := by
  have e : 2 * fv 4602678819172646912 = ((2 ^ EU : Nat) : Int) := by decide +kernel
  have hp := Nat.two_pow_pos EU
  unfold flt
  rw [fin_nan hd, show nanb 4602678819172646912 = false from by decide]
  simp only [Bool.not_false, Bool.true_and]
  have k : zk 4602678819172646912 < zk d ↔ (s = false ∧ 2 ^ EU < 2 * N) := by
    rw [← fv_lt_iff, h]
    unfold sv
    cases s <;> simp <;> omega
  cases s <;> simp [k]
theorem half_eq {d N : Nat} {s : Bool} (hd : rung d < 9218868437227405312) (h : fv d = sv s N) : feq d 4602678819172646912 = (!s && decide (2 ^ EU = 2 * N)) := by
  have e : 2 * fv 4602678819172646912 = ((2 ^ EU : Nat) : Int) := by decide +kernel
  have hp := Nat.two_pow_pos EU
  unfold feq
  rw [fin_nan hd, show nanb 4602678819172646912 = false from by decide]
  simp only [Bool.not_false, Bool.true_and]
  have k : zk d = zk 4602678819172646912 ↔ (s = false ∧ 2 ^ EU = 2 * N) := by
    have a := @fv_lt_iff d 4602678819172646912
    have b := @fv_lt_iff 4602678819172646912 d
    have c : zk d = zk 4602678819172646912 ↔ fv d = fv 4602678819172646912 := by omega
    rw [c, h]
    unfold sv
    cases s <;> simp <;> omega
  cases s <;> simp [k]
theorem half_lt {d N : Nat} {s : Bool} (hd : rung d < 9218868437227405312) (h : fv d = sv s N) : flt d 13826050856027422720 = (s && decide (2 ^ EU < 2 * N)) := by
  have e : 2 * fv 13826050856027422720 = -((2 ^ EU : Nat) : Int) := by decide +kernel
  have hp := Nat.two_pow_pos EU
  unfold flt
  rw [fin_nan hd, show nanb 13826050856027422720 = false from by decide]
  simp only [Bool.not_false, Bool.true_and]
  have k : zk d < zk 13826050856027422720 ↔ (s = true ∧ 2 ^ EU < 2 * N) := by
    rw [← fv_lt_iff, h]
    unfold sv
    cases s <;> simp <;> omega
  cases s <;> simp [k]
theorem half_eq' {d N : Nat} {s : Bool} (hd : rung d < 9218868437227405312) (h : fv d = sv s N) : feq d 13826050856027422720 = (s && decide (2 ^ EU = 2 * N)) := by
  have e : 2 * fv 13826050856027422720 = -((2 ^ EU : Nat) : Int) := by decide +kernel
  have hp := Nat.two_pow_pos EU
  unfold feq
  rw [fin_nan hd, show nanb 13826050856027422720 = false from by decide]
  simp only [Bool.not_false, Bool.true_and]
  have k : zk d = zk 13826050856027422720 ↔ (s = true ∧ 2 ^ EU = 2 * N) := by
    have a := @fv_lt_iff d 13826050856027422720
    have b := @fv_lt_iff 13826050856027422720 d
    have c : zk d = zk 13826050856027422720 ↔ fv d = fv 13826050856027422720 := by omega
    rw [c, h]
    unfold sv
    cases s <;> simp <;> omega
  cases s <;> simp [k]
end Go.Proofs.Ytidcofjadlfahaa
