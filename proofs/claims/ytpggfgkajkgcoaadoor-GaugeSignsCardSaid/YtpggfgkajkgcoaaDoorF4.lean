/- Quotients of whole numbers: their signs. -/
import Derived.Test.YtpggfgkajkgcoaaDoorF3
set_option linter.unusedVariables false
set_option linter.unusedSimpArgs false
namespace Go.Proofs.YtpggfgkajkgcoaaDoor

theorem nearest_mid {M : Nat} {P : Int} (hM : M ≠ 0) (h0 : -1074 < P + M.log2 - 52) (h1 : P + M.log2 - 52 < 900) : ∃ R, 0 < R ∧ R < 9218868437227405312 ∧ ∀ s, Ieee.double.nearest s M P = wd s R := by
  obtain ⟨L, hL⟩ : ∃ L, P + (M.log2 : Int) - 52 = L := ⟨_, rfl⟩
  have hlt : M < 2 ^ (M.log2 + 1) := Nat.lt_log2_self
  obtain ⟨N, D, hN, hD, hkd⟩ : ∃ N D : Nat, M <<< (P - L).toNat = N ∧ (L - P).toNat = D ∧ N / 2 ^ D < 9007199254740992 := by
    refine ⟨_, _, rfl, rfl, ?_⟩
    rw [Nat.shiftLeft_eq]
    by_cases h : P ≤ L
    · rw [show (P - L).toNat = 0 from by omega, Nat.pow_zero, Nat.mul_one, Nat.div_lt_iff_lt_mul (Nat.two_pow_pos _), show (9007199254740992 : Nat) = 2 ^ 53 from by decide, ← Nat.pow_add, show 53 + (L - P).toNat = M.log2 + 1 from by omega]
      exact hlt
    · rw [show (L - P).toNat = 0 from by omega, Nat.pow_zero, Nat.div_one, show (9007199254740992 : Nat) = 2 ^ 53 from by decide, show 53 = (M.log2 + 1) + (P - L).toNat from by omega, Nat.pow_add]
      exact Nat.mul_lt_mul_of_pos_right hlt (Nat.two_pow_pos _)
  have hk : ∃ K, K ≤ 9007199254740992 ∧ ∀ s, Ieee.Toward.even.cut s N D = K := by
    refine ⟨N / 2 ^ D + (if 2 ^ D < 2 * (N % 2 ^ D) ∨ (2 ^ D = 2 * (N % 2 ^ D) ∧ N / 2 ^ D % 2 = 1) then 1 else 0), ?_, fun s => cut_even_frac s N D⟩
    split <;> omega
  obtain ⟨K, hK1, hK2⟩ := hk
  refine ⟨(L + 1074).toNat * 4503599627370496 + K, by omega, by omega, fun s => ?_⟩
  unfold Ieee.Format.nearest
  rw [if_neg hM, show Ieee.double.leastPlace = -1074 from by decide, show Ieee.double.infRung = 9218868437227405312 from by decide, show Ieee.double.binade = 4503599627370496 from by decide, show Ieee.double.fractionBits = 52 from rfl]
  have hlast : max (P + (M.log2 : Int) - (52 : Nat)) (-1074) = L := by omega
  rw [hlast]
  simp only []
  rw [hN, hD, hK2, word_wd, show (L - -1074).toNat = (L + 1074).toNat from by omega, Nat.min_eq_left (by omega)]
/-- A quotient of two whole numbers that are neither nothing nor too great. -/
theorem div_mid {rx ry x y : Nat} (hx : mg rx = x * 2 ^ EU) (hy : mg ry = y * 2 ^ EU) (hrx : rx < 9218868437227405312) (hry : ry < 9218868437227405312) (x0 : 0 < x) (x1 : x ≤ 4503599627370496) (y0 : 0 < y) (y1 : y ≤ 4503599627370496) :
    ∃ R, 0 < R ∧ R < 9218868437227405312 ∧ ∀ s t, Ieee.double.div (wd s rx) (wd t ry) = some (wd (s ^^ t) R) := by
  have E := EU_eq
  have key : ∀ {r x : Nat}, mg r = x * 2 ^ EU → r < 9218868437227405312 → 0 < x → x ≤ 4503599627370496 → ∃ (m : Nat) (i : Int), (∀ s, Ieee.double.read (wd s r) = .number s m i) ∧ m ≠ 0 ∧ m < 9007199254740992 ∧ -60 < i ∧ i < 60 := by
    intro r x hr hrl hx0 hx1
    have hr63 : r < 9223372036854775808 := by omega
    obtain ⟨m, i, e1, i0, m1, v1, _⟩ := read_num (b := wd false r) (by rw [rung_wd _ hr63]; exact hrl)
    obtain ⟨m', i', e1', i0', m1', v1', _⟩ := read_num (b := wd true r) (by rw [rung_wd _ hr63]; exact hrl)
    rw [fsg_wd _ hr63] at e1 e1'
    rw [rung_wd _ hr63] at v1 v1'
    have same : m = m' ∧ i = i' := by
      rw [read_eq, rung_wd _ hr63, fsg_wd _ hr63] at e1 e1'
      by_cases c1 : r < 4503599627370496
      · rw [if_pos c1] at e1 e1'
        injection e1 with _ a b
        injection e1' with _ c d
        exact ⟨by omega, by omega⟩
      · rw [if_neg c1, if_pos hrl] at e1 e1'
        injection e1 with _ a b
        injection e1' with _ c d
        exact ⟨by omega, by omega⟩
    obtain ⟨rfl, rfl⟩ := same
    have hm : m ≠ 0 := by
      rintro rfl
      rw [Nat.zero_mul, hr] at v1
      have := Nat.mul_pos hx0 (Nat.two_pow_pos EU)
      omega
    rw [hr] at v1
    have hl := congrArg Nat.log2 v1
    rw [log2_mul_pow hm, log2_mul_pow (by omega)] at hl
    have a1 : m.log2 < 53 := (Nat.log2_lt hm).2 (by omega)
    have a2 : x.log2 < 53 := (Nat.log2_lt (by omega)).2 (by omega)
    refine ⟨m, i, fun s => ?_, hm, m1, by omega, by omega⟩
    cases s
    · exact e1
    · exact e1'
  obtain ⟨m, i, e1, m0, m1, i0, i1⟩ := key hx hrx x0 x1
  obtain ⟨n, j, e2, n0, n1, j0, j1⟩ := key hy hry y0 y1
  have am : m.log2 < 53 := (Nat.log2_lt m0).2 (by omega)
  have an : n.log2 < 53 := (Nat.log2_lt n0).2 (by omega)
  obtain ⟨more, hmore⟩ : ∃ more, Ieee.double.fractionBits + 2 + n.log2 - m.log2 = more := ⟨_, rfl⟩
  have hmore2 : more + m.log2 = 54 + n.log2 := by
    rw [← hmore, show Ieee.double.fractionBits = 52 from rfl]
    omega
  obtain ⟨M, hM⟩ : ∃ M, 2 * (m <<< more / n) + (m <<< more % n != 0).toNat = M := ⟨_, rfl⟩
  have hdl : (m * 2 ^ more).log2 = 54 + n.log2 := by rw [log2_mul_pow m0]; omega
  have hd0 : m * 2 ^ more ≠ 0 := Nat.mul_ne_zero m0 (by have := Nat.two_pow_pos more; omega)
  have hdge : 2 ^ (54 + n.log2) ≤ m * 2 ^ more := (Nat.le_log2 hd0).1 (by omega)
  have hdlt : m * 2 ^ more < 2 ^ (55 + n.log2) := (Nat.log2_lt hd0).1 (by omega)
  have hnl : n < 2 ^ (n.log2 + 1) := Nat.lt_log2_self
  have hq1 : 2 ^ 53 ≤ m * 2 ^ more / n := by
    rw [Nat.le_div_iff_mul_le (Nat.pos_of_ne_zero n0)]
    have : 2 ^ 53 * n ≤ 2 ^ 53 * 2 ^ (n.log2 + 1) := Nat.mul_le_mul_left _ (Nat.le_of_lt hnl)
    rw [← Nat.pow_add, show 53 + (n.log2 + 1) = 54 + n.log2 from by omega] at this
    omega
  have hq2 : m * 2 ^ more / n < 2 ^ 108 := by
    have h1 : m * 2 ^ more / n ≤ m * 2 ^ more := Nat.div_le_self _ _
    have h2 : 2 ^ (55 + n.log2) ≤ 2 ^ 108 := Nat.pow_le_pow_right (by omega) (by omega)
    omega
  rw [Nat.shiftLeft_eq] at hM
  have hMb : M ≠ 0 ∧ 53 ≤ M.log2 ∧ M.log2 < 110 := by
    have hb : ((m * 2 ^ more % n != 0).toNat) ≤ 1 := Bool.toNat_le _
    have e53 : (2 : Nat) ^ 53 = 9007199254740992 := by decide
    have e108 : (2 : Nat) ^ 108 = 324518553658426726783156020576256 := by decide
    rw [e53] at hq1
    rw [e108] at hq2
    have hM0 : M ≠ 0 := by omega
    refine ⟨hM0, (Nat.le_log2 hM0).2 (by rw [e53]; omega), (Nat.log2_lt hM0).2 ?_⟩
    rw [show (2 : Nat) ^ 110 = 1298074214633706907132624082305024 from by decide]
    omega
  obtain ⟨R, R0, R1, R2⟩ := nearest_mid (M := M) (P := i - j - (more : Int) - 1) hMb.1 (by omega) (by omega)
  refine ⟨R, R0, R1, fun s t => ?_⟩
  unfold Ieee.Format.div
  rw [e1, e2]
  unfold Ieee.Datum.quotient
  simp only []
  rw [if_neg n0, hmore, Nat.shiftLeft_eq, hM]
  exact congrArg some (R2 _)
end Go.Proofs.YtpggfgkajkgcoaaDoor
