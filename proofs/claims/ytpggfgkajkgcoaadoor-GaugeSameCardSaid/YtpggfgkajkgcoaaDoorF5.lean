/- Whole numbers and halves of 1024ths, as written; means of whole numbers. -/
import Derived.Test.YtpggfgkajkgcoaaDoorF3
set_option linter.unusedVariables false
set_option linter.unusedSimpArgs false
namespace Go.Proofs.YtpggfgkajkgcoaaDoor

theorem rne_whole (c : Nat) : rneU (c * 2 ^ EU) = c := by
  unfold rneU
  have hp := Nat.two_pow_pos EU
  rw [Nat.mul_div_cancel _ hp, Nat.mul_mod_left, if_neg (by omega), Nat.add_zero]
theorem textF_of {s : Bool} {r : Nat} (h0 : r ≠ 0) (h1 : r < 4787326403894837248) : textF (wd s r) = Lib.itoa (sv s (rneU (1024 * mg r))) := by
  unfold textF
  rw [nanb_wd _ (by omega), rung_wd _ (by omega), fsg_wd _ (by omega), if_neg (by decide), if_neg (by omega), if_neg h0, if_neg (by omega)]
theorem pos_of_mg {r m : Nat} (h : mg r = m) (hm : 0 < m) : r ≠ 0 := by
  rintro rfl
  rw [mg_zero] at h
  omega
theorem lt_of_mg {r : Nat} (h : mg r < 1099511627776 * 2 ^ EU) : r < 4787326403894837248 := by
  have m2 : mg 4787326403894837248 = 1099511627776 * 2 ^ EU := by decide +kernel
  rw [← m2] at h
  exact mg_lt_iff.1 h
theorem itoa_pos (m : Nat) : Lib.itoa (sv false m) = Lib.decDigits m := by
  show Lib.itoa (m : Int) = _
  unfold Lib.itoa
  rw [if_neg (by omega), Int.toNat_natCast]
theorem itoa_neg (m : Nat) (h : 0 < m) : Lib.itoa (sv true m) = 45 :: Lib.decDigits m := by
  show Lib.itoa (-(m : Int)) = _
  unfold Lib.itoa
  rw [if_pos (by omega), Int.natAbs_neg, Int.natAbs_natCast]
/-- A whole number below 2^39, either sign. -/
theorem text_whole {k : Int} (h0 : 0 < k) (h1 : k < 549755813888) : textF (floatOfInt .f64 k) = Lib.decDigits (1024 * k).toNat ∧ textF (floatOfInt .f64 (-k)) = 45 :: Lib.decDigits (1024 * k).toNat := by
  have hp := Nat.two_pow_pos EU
  obtain ⟨r, a, b, c⟩ := ofInt_exact (n := k) (by omega)
  obtain ⟨r', a', b', c'⟩ := ofInt_exact (n := -k) (by omega)
  obtain ⟨n, rfl⟩ : ∃ n : Nat, k = n := ⟨k.toNat, by omega⟩
  rw [show (n : Int).natAbs = n from by omega] at b
  rw [show (-(n : Int)).natAbs = n from by omega, ← b] at b'
  rw [mg_inj b'] at c'
  rw [decide_eq_false (by omega)] at c
  rw [decide_eq_true (by omega)] at c'
  have r0 : r ≠ 0 := pos_of_mg b (Nat.mul_pos (by omega) hp)
  have r1 : r < 4787326403894837248 := lt_of_mg (by rw [b]; exact Nat.mul_lt_mul_of_pos_right (by omega) hp)
  have e : rneU (1024 * mg r) = 1024 * n := by rw [b, ← Nat.mul_assoc, rne_whole]
  rw [c, c', textF_of r0 r1, textF_of r0 r1, e, itoa_pos, itoa_neg _ (by omega), show (1024 * (n : Int)).toNat = 1024 * n from by omega]
  exact ⟨rfl, rfl⟩
theorem text_zero : textF (floatOfInt .f64 0) = Lib.decDigits 0 := by decide +kernel
/-- Halves of 1024ths. -/
theorem half_form {h c : Nat} {k : Nat} (hk : k = 4 * h + c) (hc : c = 1 ∨ c = 3) (hh : h < 1048576) {x : Nat} (hx : (x = 4602678819172646912 ∧ c = 1) ∨ (x = 4609434218613702656 ∧ c = 3)) :
    ∃ a q, Ieee.double.add (floatOfInt .f64 (2 * (h : Int))) x = some a ∧ Ieee.double.div a 4652218415073722368 = some q ∧ q < 18446744073709551616 ∧ a < 18446744073709551616 ∧ textF q = Lib.decDigits (2 * h + (c - 1)) := by
  have E := EU_eq
  have hp := Nat.two_pow_pos EU
  obtain ⟨r, a1, b1, c1⟩ := ofInt_exact (n := 2 * (h : Int)) (by omega)
  rw [show (2 * (h : Int)).natAbs = 2 * h from by omega] at b1
  rw [decide_eq_false (by omega)] at c1
  obtain ⟨z, hz⟩ : ∃ z, z = 2 ^ (EU - 1) := ⟨_, rfl⟩
  have hz2 : 2 ^ EU = 2 * z := by rw [hz, ← Nat.pow_succ', show (EU - 1).succ = EU from by omega]
  have z0 : 0 < z := by rw [hz]; exact Nat.two_pow_pos _
  obtain ⟨y, hy⟩ : ∃ y, y = 2 ^ (EU - 11) := ⟨_, rfl⟩
  have hy2 : z = 1024 * y := by rw [hz, hy, show (1024 : Nat) = 2 ^ 10 from by decide, ← Nat.pow_add, show 10 + (EU - 11) = EU - 1 from by omega]
  have y0 : 0 < y := by rw [hy]; exact Nat.two_pow_pos _
  have hlog : k.log2 < 53 := (Nat.log2_lt (by omega)).2 (by omega)
  obtain ⟨ra, ra0, ra1, ra2⟩ := rung_of (k := k) (E := EU - 1) (by omega) (by omega) (by omega)
  obtain ⟨rq, rq0, rq1, rq2⟩ := rung_of (k := k) (E := EU - 11) (by omega) (by omega) (by omega)
  rw [← hz] at ra2
  rw [← hy] at rq2
  have mx : rung x < 9218868437227405312 ∧ fsg x = false ∧ mg (rung x) = c * z := by
    have e1 : mg (rung 4602678819172646912) = 1 * 2 ^ (EU - 1) := by decide +kernel
    have e2 : mg (rung 4609434218613702656) = 3 * 2 ^ (EU - 1) := by decide +kernel
    rw [← hz] at e1 e2
    rcases hx with ⟨rfl, rfl⟩ | ⟨rfl, rfl⟩
    · exact ⟨by decide, by decide, e1⟩
    · exact ⟨by decide, by decide, e2⟩
  have ADD : Ieee.double.add (floatOfInt .f64 (2 * (h : Int))) x = some (wd false ra) := by
    refine add_exact (t := false) (r := ra) (by rw [c1, rung_wd _ (by omega)]; exact a1) mx.1 ra1 ?_ (fun e => by omega)
    rw [c1, fv_wd _ (by omega), fv, mx.2.1, mx.2.2, b1, ra2, hz2, ← sv_add, hk, Nat.add_mul, show 2 * h * (2 * z) = 4 * h * z from by rw [← Nat.mul_assoc, show 2 * h * 2 = 4 * h from by omega]]
  have m1024 : mg (rung 4652218415073722368) = 1024 * 2 ^ EU := by decide +kernel
  have DIV : Ieee.double.div (wd false ra) 4652218415073722368 = some (wd false rq) := by
    have := div_exact (x := wd false ra) (y := 4652218415073722368) (r := rq) (by rw [rung_wd _ (by omega)]; exact ra1) (by decide) (by decide) rq1 (by
      rw [rung_wd _ (by omega), m1024, ra2, rq2, hy2]
      simp only [Nat.mul_assoc, Nat.mul_left_comm, Nat.mul_comm])
    rwa [fsg_wd _ (by omega), show fsg 4652218415073722368 = false from by decide] at this
  refine ⟨_, _, ADD, DIV, wd_lt _ (by omega), wd_lt _ (by omega), ?_⟩
  have q1 : rq < 4787326403894837248 := lt_of_mg (by
    rw [rq2, hz2, hy2]
    have : k * y < 4194304 * y := Nat.mul_lt_mul_of_pos_right (by omega) y0
    omega)
  rw [textF_of (by omega) q1]
  have hN : 1024 * mg rq = k * z := by rw [rq2, hy2]; simp only [Nat.mul_assoc, Nat.mul_left_comm, Nat.mul_comm]
  have e : rneU (1024 * mg rq) = 2 * h + (c - 1) := by
    rw [hN]
    unfold rneU
    rw [hz2, Nat.mul_div_mul_right _ _ z0, Nat.mul_mod_mul_right]
    rcases hc with rfl | rfl
    · rw [show k / 2 = 2 * h from by omega, show k % 2 = 1 from by omega, if_neg (by omega)]
    · rw [show k / 2 = 2 * h + 1 from by omega, show k % 2 = 1 from by omega, if_pos (by omega)]
  rw [e, itoa_pos]
end Go.Proofs.YtpggfgkajkgcoaaDoor
