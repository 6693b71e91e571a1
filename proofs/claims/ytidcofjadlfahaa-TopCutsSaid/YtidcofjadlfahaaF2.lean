/- Floats: where the exact result is a double, the operation gives it. -/
import Derived.Test.YtidcofjadlfahaaF1
set_option linter.unusedVariables false
set_option linter.unusedSimpArgs false
namespace Go.Proofs.Ytidcofjadlfahaa

def EU : Nat := 1074
theorem EU_eq : EU = 1074 := rfl
def wd (s : Bool) (r : Nat) : Nat := if s then 9223372036854775808 + r else r
theorem word_wd (s : Bool) (r : Nat) : Ieee.double.word s r = wd s r := by
  unfold Ieee.Format.word wd
  rw [show Ieee.double.signWeight = 9223372036854775808 from by decide]
theorem rung_wd (s : Bool) {r : Nat} (h : r < 9223372036854775808) : rung (wd s r) = r := by
  unfold rung wd
  cases s <;> simp <;> omega
theorem fsg_wd (s : Bool) {r : Nat} (h : r < 9223372036854775808) : fsg (wd s r) = s := by
  unfold fsg wd
  cases s <;> simp <;> omega
theorem wd_lt (s : Bool) {r : Nat} (h : r < 9223372036854775808) : wd s r < 18446744073709551616 := by
  unfold wd
  cases s <;> simp <;> omega
theorem wd_self {b : Nat} (h : b < 18446744073709551616) : wd (fsg b) (rung b) = b := by
  unfold wd fsg rung
  by_cases k : b < 9223372036854775808
  · have : b / 9223372036854775808 = 0 := by omega
    simp [this]
    omega
  · have : b / 9223372036854775808 = 1 := by omega
    simp [this]
    omega
theorem nanb_wd (s : Bool) {r : Nat} (h : r ≤ 9218868437227405312) : nanb (wd s r) = false := by
  unfold nanb
  rw [rung_wd s (by omega)]
  exact decide_eq_false (by omega)
theorem fv_wd (s : Bool) {r : Nat} (h : r < 9223372036854775808) : fv (wd s r) = sv s (mg r) := by
  unfold fv
  rw [rung_wd s h, fsg_wd s h]
theorem zk_wd (s : Bool) {r : Nat} (h : r < 9223372036854775808) : zk (wd s r) = sv s r := by
  unfold zk
  rw [rung_wd s h, fsg_wd s h]

theorem log2_mul_pow {m : Nat} (h : m ≠ 0) (k : Nat) : (m * 2 ^ k).log2 = m.log2 + k := by
  have hp := Nat.two_pow_pos k
  have hn : m * 2 ^ k ≠ 0 := Nat.mul_ne_zero h (by omega)
  rw [Nat.log2_eq_iff hn, Nat.pow_add, Nat.add_right_comm, Nat.pow_add]
  exact ⟨Nat.mul_le_mul_right _ (Nat.log2_self_le h), Nat.mul_lt_mul_of_pos_right Nat.lt_log2_self hp⟩
/-- A rung's whole part and its place. -/
theorem mg_form {r : Nat} (h0 : 0 < r) : ∃ M q : Nat, mg r = M * 2 ^ q ∧ 0 < M ∧ M < 9007199254740992 ∧ r = q * 4503599627370496 + M ∧ (q = 0 ∨ 4503599627370496 ≤ M) := by
  unfold mg
  by_cases h : r < 4503599627370496
  · exact ⟨r, 0, by rw [if_pos h]; simp, h0, by omega, by omega, .inl rfl⟩
  · exact ⟨_, _, by rw [if_neg h], by omega, by omega, by omega, .inr (by omega)⟩
theorem mg_of {M q : Nat} (h : q = 0 ∨ 4503599627370496 ≤ M) (hM : M < 9007199254740992) : mg (q * 4503599627370496 + M) = M * 2 ^ q := by
  unfold mg
  by_cases k : q * 4503599627370496 + M < 4503599627370496
  · obtain rfl : q = 0 := by omega
    rw [if_pos k]; simp
  · rw [if_neg k]
    have e1 : (q * 4503599627370496 + M) / 4503599627370496 - 1 = q := by omega
    have e2 : 4503599627370496 + (q * 4503599627370496 + M) % 4503599627370496 = M := by omega
    rw [e1, e2]
theorem cut_exact (s : Bool) {M : Nat} (h : M ≠ 0) (k : Nat) : Ieee.Toward.even.cut s (M * 2 ^ k) k = M := by
  have hp := Nat.two_pow_pos k
  have e : 1 <<< min k ((M * 2 ^ k).log2 + 2) = 2 ^ k := by
    rw [log2_mul_pow h, Nat.min_eq_left (by omega), Nat.shiftLeft_eq, Nat.one_mul]
  unfold Ieee.Toward.cut
  rw [e]
  simp only [Nat.mul_div_cancel _ hp, Nat.mul_mod_left]
  have h1 : decide (2 ^ k < 2 * 0) = false := decide_eq_false (by omega)
  have h2 : (2 ^ k == 2 * 0) = false := by simp
  rw [h1, h2]
  rfl
theorem cut_zero (w : Ieee.Toward) (s : Bool) (n : Nat) : w.cut s n 0 = n := by
  unfold Ieee.Toward.cut
  have e : 1 <<< min 0 (n.log2 + 2) = 1 := by rw [Nat.zero_min]; rfl
  rw [e]
  simp only [Nat.div_one, Nat.mod_one]
  cases w <;> simp
/-- Rounding gives what is there. -/
theorem nearest_exact (s : Bool) {mag : Nat} {place : Int} {r : Nat} (t : Nat) (h0 : 0 < r) (h1 : r < 9218868437227405312) (ht : 0 ≤ place + 1074 + t) (h : mag * 2 ^ (place + 1074 + t).toNat = mg r * 2 ^ t) :
    Ieee.double.nearest s mag place = wd s r := by
  obtain ⟨M, q, e, m0, m1, er, hq⟩ := mg_form h0
  have hM : M ≠ 0 := by omega
  have hm : mag ≠ 0 := by
    rintro rfl
    rw [Nat.zero_mul, e] at h
    have := Nat.mul_pos (Nat.mul_pos m0 (Nat.two_pow_pos q)) (Nat.two_pow_pos t)
    omega
  rw [e, Nat.mul_assoc, ← Nat.pow_add] at h
  have hl := congrArg Nat.log2 h
  rw [log2_mul_pow hm, log2_mul_pow hM] at hl
  have hM52 : M.log2 < 53 := (Nat.log2_lt hM).2 (by omega)
  have hMq : q = 0 ∨ M.log2 = 52 := by
    rcases hq with hq | hq
    · exact .inl hq
    · have : 52 ≤ M.log2 := (Nat.le_log2 hM).2 (by omega)
      exact .inr (by omega)
  unfold Ieee.Format.nearest
  rw [if_neg hm, show Ieee.double.leastPlace = -1074 from by decide, show Ieee.double.infRung = 9218868437227405312 from by decide, show Ieee.double.binade = 4503599627370496 from by decide, show Ieee.double.fractionBits = 52 from rfl]
  have hlast : max (place + (mag.log2 : Int) - (52 : Nat)) (-1074) = (q : Int) - 1074 := by
    rcases hMq with hq0 | hq0 <;> omega
  rw [hlast]
  simp only []
  rw [word_wd, show ((q : Int) - 1074 - -1074).toNat = q from by omega]
  have hk : Ieee.Toward.even.cut s (mag <<< (place - ((q : Int) - 1074)).toNat) ((q : Int) - 1074 - place).toNat = M := by
    rw [Nat.shiftLeft_eq]
    by_cases hp : (q : Int) - 1074 ≤ place
    · rw [show ((q : Int) - 1074 - place).toNat = 0 from by omega, cut_zero]
      have e3 : (place + 1074 + t).toNat = (place - ((q : Int) - 1074)).toNat + (q + t) := by omega
      rw [e3, Nat.pow_add, ← Nat.mul_assoc] at h
      exact Nat.eq_of_mul_eq_mul_right (Nat.two_pow_pos _) h
    · rw [show (place - ((q : Int) - 1074)).toNat = 0 from by omega, Nat.pow_zero, Nat.mul_one]
      have e3 : q + t = ((q : Int) - 1074 - place).toNat + (place + 1074 + t).toNat := by omega
      rw [e3, Nat.pow_add, ← Nat.mul_assoc] at h
      rw [Nat.eq_of_mul_eq_mul_right (Nat.two_pow_pos _) h]
      exact cut_exact s hM _
  rw [hk, ← er, Nat.min_eq_left (by omega)]
theorem nearest_zero (s : Bool) (place : Int) : Ieee.double.nearest s 0 place = wd s 0 := by
  unfold Ieee.Format.nearest
  rw [if_pos rfl, word_wd]
/-- What has few enough digits is a double. -/
theorem rung_of {k E : Nat} (h0 : 0 < k) (hk : k < 9007199254740992) (hE : k.log2 + E < 2098) : ∃ r, 0 < r ∧ r < 9218868437227405312 ∧ mg r = k * 2 ^ E := by
  have hk0 : k ≠ 0 := by omega
  have hl : k.log2 < 53 := (Nat.log2_lt hk0).2 (by omega)
  have hL := log2_mul_pow hk0 E
  have hp := Nat.mul_pos h0 (Nat.two_pow_pos E)
  by_cases h : k.log2 + E < 53
  · have h1 : k * 2 ^ E < 9007199254740992 := by
      have := (Nat.log2_lt (k := 53) (n := k * 2 ^ E) (by omega)).1 (by omega)
      omega
    refine ⟨k * 2 ^ E, hp, by omega, ?_⟩
    have := mg_of (M := k * 2 ^ E) (q := 0) (.inl rfl) h1
    simpa using this
  · obtain ⟨d, hE2⟩ : ∃ d, E = d + (k.log2 + E - 52) := ⟨52 - k.log2, by omega⟩
    have hd : k.log2 + d = 52 := by omega
    have hL2 := log2_mul_pow hk0 d
    have hkd : k * 2 ^ d ≠ 0 := Nat.mul_ne_zero hk0 (by have := Nat.two_pow_pos d; omega)
    have a1 := (Nat.log2_lt (k := 53) hkd).1 (by omega)
    have a2 := (Nat.le_log2 (k := 52) hkd).1 (by omega)
    refine ⟨(k.log2 + E - 52) * 4503599627370496 + k * 2 ^ d, ?_, ?_, ?_⟩
    · omega
    · omega
    · rw [mg_of (.inr (by omega)) (by omega), Nat.mul_assoc, ← Nat.pow_add, ← hE2]
theorem fin_nan {b : Nat} (h : rung b < 9218868437227405312) : nanb b = false := decide_eq_false (by omega)
theorem sv_add (s : Bool) (m n : Nat) : sv s (m + n) = sv s m + sv s n := by
  unfold sv
  cases s <;> simp <;> omega
theorem fv_scale {s : Bool} {m : Nat} {e base : Int} {b : Nat} (h : m * 2 ^ (e + 1074).toNat = mg (rung b)) (hs : fsg b = s) (h0 : -1074 ≤ base) (h1 : base ≤ e) : fv b = Ieee.signed s m (e - base).toNat * ((2 ^ (base + 1074).toNat : Nat) : Int) := by
  rw [signed_sv, ← sv_mul, Nat.mul_assoc, ← Nat.pow_add, show (e - base).toNat + (base + 1074).toNat = (e + 1074).toNat from by omega, h, fv, hs]
/-- The sum of two numbers, where it is a double. -/
theorem sum_exact {x y : Nat} {t : Bool} {r : Nat} (hx : rung x < 9218868437227405312) {m2 : Nat} {s2 : Bool} {e2 : Int} (he2 : -1074 ≤ e2) (hr : r < 9218868437227405312)
    (h : fv x + sv s2 (m2 * 2 ^ (e2 + 1074).toNat) = sv t (mg r)) (hz : r = 0 → t = (fsg x && s2)) :
    ((Ieee.double.read x).sum (.number s2 m2 e2)).map Ieee.double.write = some (wd t r) := by
  obtain ⟨m, i, e1, i0, _, v1, _⟩ := read_num hx
  rw [e1]
  show some (Ieee.double.nearest _ _ _) = _
  have A := fv_scale (base := min i e2) v1 rfl (by omega) (by omega)
  have B : sv s2 (m2 * 2 ^ (e2 + 1074).toNat) = Ieee.signed s2 m2 (e2 - min i e2).toNat * ((2 ^ (min i e2 + 1074).toNat : Nat) : Int) := by
    rw [signed_sv, ← sv_mul, Nat.mul_assoc, ← Nat.pow_add, show (e2 - min i e2).toNat + (min i e2 + 1074).toNat = (e2 + 1074).toNat from by omega]
  rw [A, B, ← Int.add_mul] at h
  generalize Ieee.signed (fsg x) m (i - min i e2).toNat + Ieee.signed s2 m2 (e2 - min i e2).toNat = T at h ⊢
  have hp := Nat.two_pow_pos (min i e2 + 1074).toNat
  generalize hc : 2 ^ (min i e2 + 1074).toNat = c at h hp
  by_cases r0 : r = 0
  · subst r0
    rw [mg_zero] at h
    have : sv t 0 = 0 := by unfold sv; cases t <;> rfl
    rw [this] at h
    have hT : T = 0 := by
      rcases Int.mul_eq_zero.1 h with h | h
      · exact h
      · omega
    subst hT
    rw [if_pos rfl, hz rfl]
    show some (Ieee.double.nearest _ 0 _) = _
    rw [nearest_zero]
  · have mr : 0 < mg r := by
      have := mg_mono (a := 0) (b := r) (by omega)
      rwa [mg_zero] at this
    have hT : T ≠ 0 := by
      rintro rfl
      rw [Int.zero_mul] at h
      unfold sv at h
      cases t <;> simp at h <;> omega
    have hs : decide (T < 0) = t := by
      unfold sv at h
      cases t
      · apply decide_eq_false
        intro hn
        have := Int.mul_neg_of_neg_of_pos hn (show (0 : Int) < c by omega)
        simp at h
        omega
      · apply decide_eq_true
        apply Int.lt_of_not_ge
        intro hn
        have := Int.mul_nonneg hn (show (0 : Int) ≤ c by omega)
        simp at h
        omega
    have hN : T.natAbs * c = mg r := by
      have := congrArg Int.natAbs h
      rw [Int.natAbs_mul] at this
      simp at this
      rw [this]
      unfold sv
      cases t <;> simp
    rw [if_neg hT, hs, nearest_exact t 0 (by omega) hr (by omega) (by rw [Nat.pow_zero, Nat.mul_one, ← hN, ← hc, show (min i e2 + 1074 + ((0 : Nat) : Int)).toNat = (min i e2 + 1074).toNat from by omega])]
theorem add_exact {x y : Nat} {t : Bool} {r : Nat} (hx : rung x < 9218868437227405312) (hy : rung y < 9218868437227405312) (hr : r < 9218868437227405312)
    (h : fv x + fv y = sv t (mg r)) (hz : r = 0 → t = (fsg x && fsg y)) : Ieee.double.add x y = some (wd t r) := by
  obtain ⟨n, j, e2, j0, _, v2, _⟩ := read_num hy
  unfold Ieee.Format.add
  rw [e2]
  exact sum_exact (y := y) hx j0 hr (by rw [v2]; exact h) hz
theorem sub_exact {x y : Nat} {t : Bool} {r : Nat} (hx : rung x < 9218868437227405312) (hy : rung y < 9218868437227405312) (hr : r < 9218868437227405312)
    (h : fv x - fv y = sv t (mg r)) (hz : r = 0 → t = (fsg x && !fsg y)) : Ieee.double.sub x y = some (wd t r) := by
  obtain ⟨n, j, e2, j0, _, v2, _⟩ := read_num hy
  unfold Ieee.Format.sub
  rw [e2]
  refine sum_exact (y := y) (s2 := !fsg y) hx j0 hr ?_ hz
  rw [v2, ← h]
  unfold fv sv
  cases fsg y <;> simp <;> omega
theorem mul_exact {x y : Nat} {r : Nat} (hx : rung x < 9218868437227405312) (hy : rung y < 9218868437227405312) (hr : r < 9218868437227405312)
    (h : mg (rung x) * mg (rung y) = mg r * 2 ^ EU) : Ieee.double.mul x y = some (wd (fsg x ^^ fsg y) r) := by
  obtain ⟨m, i, e1, i0, _, v1, _⟩ := read_num hx
  obtain ⟨n, j, e2, j0, _, v2, _⟩ := read_num hy
  have E := EU_eq
  unfold Ieee.Format.mul
  rw [e1, e2]
  show some (Ieee.double.nearest _ _ _) = _
  have h' : m * n * 2 ^ (i + j + 1074 + (EU : Int)).toNat = mg r * 2 ^ EU := by
    rw [← h, ← v1, ← v2, show (i + j + 1074 + (EU : Int)).toNat = (i + 1074).toNat + (j + 1074).toNat from by omega, Nat.pow_add]
    simp only [Nat.mul_assoc, Nat.mul_left_comm, Nat.mul_comm]
  by_cases r0 : r = 0
  · subst r0
    rw [mg_zero, Nat.zero_mul] at h'
    have : m * n = 0 := by
      rcases Nat.mul_eq_zero.1 h' with k | k
      · exact k
      · have := Nat.two_pow_pos (i + j + 1074 + (EU : Int)).toNat
        omega
    rw [this, nearest_zero]
  · rw [nearest_exact _ EU (by omega) hr (by omega) h']
theorem div_exact {x y : Nat} {r : Nat} (hx : rung x < 9218868437227405312) (hy : rung y < 9218868437227405312) (hy0 : rung y ≠ 0) (hr : r < 9218868437227405312)
    (h : mg (rung x) * 2 ^ EU = mg r * mg (rung y)) : Ieee.double.div x y = some (wd (fsg x ^^ fsg y) r) := by
  obtain ⟨m, i, e1, i0, m1, v1, _⟩ := read_num hx
  obtain ⟨n, j, e2, j0, n1, v2, _⟩ := read_num hy
  have my : 0 < mg (rung y) := by
    have := mg_mono (a := 0) (b := rung y) (by omega)
    rwa [mg_zero] at this
  have n0 : n ≠ 0 := by
    rintro rfl
    rw [Nat.zero_mul] at v2
    omega
  have E := EU_eq
  unfold Ieee.Format.div
  rw [e1, e2]
  unfold Ieee.Datum.quotient
  simp only []
  rw [if_neg n0]
  show some (Ieee.double.nearest _ _ _) = _
  rw [← v1, ← v2] at h
  by_cases r0 : r = 0
  · subst r0
    rw [mg_zero, Nat.zero_mul] at h
    have hm : m = 0 := by
      rcases Nat.mul_eq_zero.1 h with k | k
      · rcases Nat.mul_eq_zero.1 k with k | k
        · exact k
        · have := Nat.two_pow_pos (i + 1074).toNat
          omega
      · have := Nat.two_pow_pos EU
        omega
    subst hm
    rw [Nat.zero_shiftLeft, Nat.zero_div, Nat.zero_mod]
    exact congrArg some (nearest_zero _ _)
  · obtain ⟨M, q, e, M0, M1, er, hq⟩ := mg_form (r := r) (by omega)
    have hM : M ≠ 0 := by omega
    have m0 : m ≠ 0 := by
      rintro rfl
      rw [e, Nat.zero_mul, Nat.zero_mul] at h
      have := Nat.mul_pos (Nat.mul_pos M0 (Nat.two_pow_pos q)) (Nat.mul_pos (Nat.pos_of_ne_zero n0) (Nat.two_pow_pos (j + 1074).toNat))
      omega
    have h2 : m * 2 ^ ((i + 1074).toNat + EU) = (M * n) * 2 ^ (q + (j + 1074).toNat) := by
      rw [Nat.pow_add, ← Nat.mul_assoc, h, e, Nat.pow_add]
      simp only [Nat.mul_assoc, Nat.mul_left_comm, Nat.mul_comm]
    have hMn : M * n ≠ 0 := Nat.mul_ne_zero hM n0
    have hl := congrArg Nat.log2 h2
    rw [log2_mul_pow m0, log2_mul_pow hMn] at hl
    have hlm : m.log2 < 53 := (Nat.log2_lt m0).2 (by omega)
    have hlMn : (M * n).log2 < 53 + (n.log2 + 1) := by
      rw [Nat.log2_lt hMn, Nat.pow_add]
      exact Nat.mul_lt_mul_of_lt_of_le (by omega) (Nat.le_of_lt Nat.lt_log2_self) (Nat.two_pow_pos _)
    obtain ⟨more, hmore⟩ : ∃ more, Ieee.double.fractionBits + 2 + n.log2 - m.log2 = more := ⟨_, rfl⟩
    have hmore2 : more + m.log2 = 54 + n.log2 := by
      rw [← hmore, show Ieee.double.fractionBits = 52 from rfl]
      omega
    obtain ⟨X, hX⟩ : ∃ X, q + (j + 1074).toNat + more = X + ((i + 1074).toNat + EU) := ⟨q + (j + 1074).toNat + more - ((i + 1074).toNat + EU), by omega⟩
    have hdv : m * 2 ^ more = n * (M * 2 ^ X) := by
      apply Nat.eq_of_mul_eq_mul_right (Nat.two_pow_pos ((i + 1074).toNat + EU))
      have a1 : m * 2 ^ more * 2 ^ ((i + 1074).toNat + EU) = m * 2 ^ ((i + 1074).toNat + EU) * 2 ^ more := by
        simp only [Nat.mul_assoc, Nat.mul_left_comm, Nat.mul_comm]
      rw [a1, h2, Nat.mul_assoc, ← Nat.pow_add, hX, Nat.pow_add 2 X]
      simp only [Nat.mul_assoc, Nat.mul_left_comm, Nat.mul_comm]
    rw [hmore, Nat.shiftLeft_eq, hdv, Nat.mul_div_cancel_left _ (Nat.pos_of_ne_zero n0), Nat.mul_mod_right]
    refine congrArg some (nearest_exact _ (more + 3000) (by omega) hr (by omega) ?_)
    rw [e, show (2 * (M * 2 ^ X) + ((0 : Nat) != 0).toNat) = M * 2 ^ (X + 1) from by rw [Nat.pow_succ]; simp; rw [Nat.mul_comm 2, Nat.mul_assoc], Nat.mul_assoc, Nat.mul_assoc, ← Nat.pow_add, ← Nat.pow_add]
    have hfin : X + 1 + (i - j - (more : Int) - 1 + 1074 + ((more + 3000 : Nat) : Int)).toNat = q + (more + 3000) := by omega
    rw [hfin]
end Go.Proofs.Ytidcofjadlfahaa
