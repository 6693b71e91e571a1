/- Means: of numbers that are all one; of two whole numbers. -/
import Derived.Test.YtpggfgkajkgcoaaDoorL4
import Derived.Test.YtpggfgkajkgcoaaDoorF5
set_option linter.unusedVariables false
set_option linter.unusedSimpArgs false
namespace Go.Proofs.YtpggfgkajkgcoaaDoor
open Go.RowKit

/-- A 1024th of a whole number. -/
structure Fine1024 (k z x : Nat) : Prop where
  hz : 2 ^ EU = 1024 * z
  z0 : 0 < z
  zz : z = 2 ^ (EU - 10)
  fin : rung x < 9218868437227405312
  pos : fsg x = false
  lt : x < 18446744073709551616
  val : mg (rung x) = k * z
theorem fine1024 {k : Nat} (hk : k < 1099511627776) : ∃ z x, Ieee.double.div (floatOfInt .f64 (k : Int)) 4652218415073722368 = some x ∧ Fine1024 k z x := by
  have E := EU_eq
  obtain ⟨r, a, b, c⟩ := ofInt_exact (n := (k : Int)) (by omega)
  rw [show (k : Int).natAbs = k from by omega] at b
  rw [decide_eq_false (by omega)] at c
  obtain ⟨z, hz⟩ : ∃ z, z = 2 ^ (EU - 10) := ⟨_, rfl⟩
  have hz2 : 2 ^ EU = 1024 * z := by rw [hz, show (1024 : Nat) = 2 ^ 10 from by decide, ← Nat.pow_add, show 10 + (EU - 10) = EU from by omega]
  have z0 : 0 < z := by rw [hz]; exact Nat.two_pow_pos _
  have hx : ∃ rx, rx < 9218868437227405312 ∧ mg rx = k * z := by
    by_cases h0 : k = 0
    · exact ⟨0, by omega, by rw [h0, mg_zero, Nat.zero_mul]⟩
    · have hl : k.log2 < 53 := (Nat.log2_lt h0).2 (by omega)
      obtain ⟨rx, x0, x1, x2⟩ := rung_of (k := k) (E := EU - 10) (by omega) (by omega) (by omega)
      exact ⟨rx, x1, by rw [x2, hz]⟩
  obtain ⟨rx, x1, x2⟩ := hx
  have m1024 : mg (rung 4652218415073722368) = 1024 * 2 ^ EU := by decide +kernel
  have DIV := div_exact (x := floatOfInt .f64 (k : Int)) (y := 4652218415073722368) (r := rx) (by rw [c, rung_wd _ (by omega)]; exact a) (by decide) (by decide) x1 (by
      rw [c, rung_wd _ (by omega), b, m1024, x2, hz2]
      simp only [Nat.mul_assoc, Nat.mul_left_comm, Nat.mul_comm])
  rw [c, fsg_wd _ (by omega), show fsg 4652218415073722368 = false from by decide, ← c] at DIV
  exact ⟨z, _, DIV, hz2, z0, hz, by rw [rung_wd _ (by omega)]; exact x1, by rw [fsg_wd _ (by omega)]; rfl, wd_lt _ (by omega), by rw [rung_wd _ (by omega)]; exact x2⟩
theorem Fine1024.multiple {k z x : Nat} (h : Fine1024 k z x) (hk : k < 1099511627776) (n : Nat) (hn : n ≤ 100) : ∃ r, r < 9218868437227405312 ∧ mg r = n * (k * z) := by
  have E := EU_eq
  by_cases h0 : n * k = 0
  · exact ⟨0, by omega, by rw [mg_zero, ← Nat.mul_assoc, h0, Nat.zero_mul]⟩
  · have hb : n * k < 9007199254740992 := Nat.lt_of_le_of_lt (Nat.mul_le_mul hn (Nat.le_of_lt hk)) (by decide)
    have hl : (n * k).log2 < 53 := (Nat.log2_lt h0).2 hb
    obtain ⟨rx, x0, x1, x2⟩ := rung_of (k := n * k) (E := EU - 10) (by omega) (by omega) (by omega)
    exact ⟨rx, x1, by rw [x2, h.zz, Nat.mul_assoc]⟩
theorem fd_rep {n x : Nat} {j : Int} (h0 : 0 ≤ j) (h : j < n) : fd (List.replicate n x) j = x := by
  unfold fd
  rw [List.getD_eq_getElem?_getD, List.getElem?_replicate, if_pos (by omega)]
  rfl
theorem FW_rep {n x : Nat} (h : x < 18446744073709551616) : FW (List.replicate n x) := by
  intro i
  by_cases hi : i.toNat < n
  · unfold fd
    rw [List.getD_eq_getElem?_getD, List.getElem?_replicate, if_pos hi]
    exact h
  · unfold fd
    rw [List.getD_eq_getElem?_getD, List.getElem?_replicate, if_neg hi]
    simp
theorem Fine1024.sum {k z x : Nat} (h : Fine1024 k z x) (hk : k < 1099511627776) (n : Nat) (hn : n ≤ 100) : ∀ i, i < n → ∃ r, r < 9218868437227405312 ∧ mg r = (i + 1) * (k * z) ∧ sumF (List.replicate n x) i = wd false r
  | 0, hi => ⟨rung x, h.fin, by rw [h.val]; omega, by
      show fd _ 0 = _
      rw [fd_rep (by omega) (by omega), ← h.pos, wd_self h.lt]⟩
  | i + 1, hi => by
    obtain ⟨r, a, b, c⟩ := h.sum hk n hn i (by omega)
    obtain ⟨r2, a2, b2⟩ := h.multiple hk (i + 1 + 1) (by omega)
    refine ⟨r2, a2, b2, ?_⟩
    show opF .add (sumF (List.replicate n x) i) (fd (List.replicate n x) ((i + 1 : Nat) : Int)) = _
    rw [c, fd_rep (by omega) (by omega)]
    refine opF_some (op := .add) ?_
    refine add_exact (t := false) (r := r2) (by rw [rung_wd _ (by omega)]; exact a) h.fin a2 ?_ (fun _ => by rw [fsg_wd _ (by omega), h.pos]; rfl)
    rw [fv_wd _ (by omega), fv, h.pos, h.val, b, b2, ← sv_add, Nat.add_mul (i + 1) 1, Nat.one_mul]
theorem Fine1024.mean {k z x : Nat} (h : Fine1024 k z x) (hk : k < 1099511627776) (n : Nat) (hn : n = 4 ∨ n = 8 ∨ n = 16) : meanF (List.replicate n x) = x := by
  unfold meanF
  rw [List.length_replicate]
  obtain ⟨r, a, b, c⟩ := h.sum hk n (by omega) (n - 1) (by omega)
  rw [c]
  obtain ⟨r2, a2, b2, c2⟩ := ofInt_exact (n := (n : Int)) (by omega)
  rw [show (n : Int).natAbs = n from by omega] at b2
  rw [decide_eq_false (by omega)] at c2
  have hp := Nat.two_pow_pos EU
  have r20 : r2 ≠ 0 := pos_of_mg b2 (Nat.mul_pos (by omega) hp)
  have D := div_exact (x := wd false r) (y := wd false r2) (r := rung x) (by rw [rung_wd _ (by omega)]; exact a) (by rw [rung_wd _ (by omega)]; exact a2) (by rw [rung_wd _ (by omega)]; exact r20) h.fin (by
    rw [rung_wd _ (by omega), rung_wd _ (by omega), b, b2, h.val, show n - 1 + 1 = n from by omega]
    simp only [Nat.mul_assoc, Nat.mul_left_comm, Nat.mul_comm])
  rw [fsg_wd _ (by omega), fsg_wd _ (by omega), show (false ^^ false) = false from rfl, ← h.pos, wd_self h.lt, h.pos] at D
  rw [c2]
  exact opF_some (op := .quo) D
theorem Fine1024.num {k z x : Nat} (h : Fine1024 k z x) : nanb x = false := fin_nan h.fin
theorem has_rep {n x : Nat} (h0 : 0 < n) (hx : nanb x = false) : hasMean (List.replicate n x) = true := by
  unfold hasMean
  have : anyNan (List.replicate n x) = false := (anyNan_iff _).2 (fun j hj => by rw [List.length_replicate] at hj; rw [fd_rep (by omega) (by omega)]; exact hx)
  rw [this, List.length_replicate, decide_eq_true (by omega)]
  rfl
/-- Two whole numbers and their mean. -/
structure Between (a b o : Nat) : Prop where
  la : a < 18446744073709551616
  lb : b < 18446744073709551616
  lo : o < 18446744073709551616
  na : nanb a = false
  nb : nanb b = false
  no : nanb o = false
  sa : fsg a = false
  sb : fsg b = false
  low : min (fkey a) (fkey b) ≤ fkey o
  high : fkey o ≤ max (fkey a) (fkey b)
theorem fkey_wd {r : Nat} (h : r < 9218868437227405312) : fkey (wd false r) = r := by
  unfold fkey
  rw [nanb_wd _ (by omega), fsg_wd _ (by omega), rung_wd _ (by omega)]
  rfl
theorem mean_pair {p q : Int} (p0 : 0 ≤ p) (p1 : p < 4503599627370496) (q0 : 0 ≤ q) (q1 : q < 4503599627370496) : Between (floatOfInt .f64 p) (floatOfInt .f64 q) (meanF [floatOfInt .f64 p, floatOfInt .f64 q]) ∧ hasMean [floatOfInt .f64 p, floatOfInt .f64 q] = true := by
  have E := EU_eq
  obtain ⟨rp, a1, b1, c1⟩ := ofInt_exact (n := p) (by omega)
  obtain ⟨rq, a2, b2, c2⟩ := ofInt_exact (n := q) (by omega)
  obtain ⟨m, rfl⟩ : ∃ m : Nat, p = m := ⟨p.toNat, by omega⟩
  obtain ⟨n, rfl⟩ : ∃ n : Nat, q = n := ⟨q.toNat, by omega⟩
  rw [show (m : Int).natAbs = m from by omega] at b1
  rw [show (n : Int).natAbs = n from by omega] at b2
  rw [decide_eq_false (by omega)] at c1 c2
  obtain ⟨z, hz⟩ : ∃ z, z = 2 ^ (EU - 1) := ⟨_, rfl⟩
  have hz2 : 2 ^ EU = 2 * z := by rw [hz, ← Nat.pow_succ', show (EU - 1).succ = EU from by omega]
  have z0 : 0 < z := by rw [hz]; exact Nat.two_pow_pos _
  have hs : ∃ r, r < 9218868437227405312 ∧ mg r = (m + n) * 2 ^ EU := by
    by_cases h0 : m + n = 0
    · exact ⟨0, by omega, by rw [h0, mg_zero, Nat.zero_mul]⟩
    · have hl : (m + n).log2 < 53 := (Nat.log2_lt h0).2 (by omega)
      obtain ⟨rx, x0, x1, x2⟩ := rung_of (k := m + n) (E := EU) (by omega) (by omega) (by omega)
      exact ⟨rx, x1, x2⟩
  have ho : ∃ r, r < 9218868437227405312 ∧ mg r = (m + n) * z := by
    by_cases h0 : m + n = 0
    · exact ⟨0, by omega, by rw [h0, mg_zero, Nat.zero_mul]⟩
    · have hl : (m + n).log2 < 53 := (Nat.log2_lt h0).2 (by omega)
      obtain ⟨rx, x0, x1, x2⟩ := rung_of (k := m + n) (E := EU - 1) (by omega) (by omega) (by omega)
      exact ⟨rx, x1, by rw [x2, hz]⟩
  obtain ⟨rs, s1, s2⟩ := hs
  obtain ⟨ro, o1, o2⟩ := ho
  obtain ⟨r2, a3, b3, c3⟩ := ofInt_exact (n := 2) (by omega)
  rw [show (2 : Int).natAbs = 2 from rfl] at b3
  rw [decide_eq_false (by omega)] at c3
  have hp := Nat.two_pow_pos EU
  have r20 : r2 ≠ 0 := pos_of_mg b3 (Nat.mul_pos (by omega) hp)
  have ADD : opF .add (wd false rp) (wd false rq) = wd false rs := by
    refine opF_some (op := .add) (add_exact (t := false) (r := rs) (by rw [rung_wd _ (by omega)]; exact a1) (by rw [rung_wd _ (by omega)]; exact a2) s1 ?_ (fun _ => by rw [fsg_wd _ (by omega), fsg_wd _ (by omega)]; rfl))
    rw [fv_wd _ (by omega), fv_wd _ (by omega), b1, b2, s2, ← sv_add, Nat.add_mul]
  have DIV : opF .quo (wd false rs) (wd false r2) = wd false ro := by
    have D := div_exact (x := wd false rs) (y := wd false r2) (r := ro) (by rw [rung_wd _ (by omega)]; exact s1) (by rw [rung_wd _ (by omega)]; exact a3) (by rw [rung_wd _ (by omega)]; exact r20) o1 (by
      rw [rung_wd _ (by omega), rung_wd _ (by omega), s2, b3, o2, hz2]
      simp only [Nat.mul_assoc, Nat.mul_left_comm, Nat.mul_comm])
    rw [fsg_wd _ (by omega), fsg_wd _ (by omega)] at D
    exact opF_some (op := .quo) D
  have M : meanF [floatOfInt .f64 (m : Int), floatOfInt .f64 (n : Int)] = wd false ro := by
    rw [c1, c2]
    show opF .quo (opF .add (wd false rp) (wd false rq)) (floatOfInt .f64 2) = _
    rw [ADD, c3, DIV]
  rw [M]
  have np : nanb (wd false rp) = false := nanb_wd _ (by omega)
  have nq : nanb (wd false rq) = false := nanb_wd _ (by omega)
  refine ⟨⟨ofInt_lt _, ofInt_lt _, wd_lt _ (by omega), by rw [c1]; exact np, by rw [c2]; exact nq, nanb_wd _ (by omega), by rw [c1, fsg_wd _ (by omega)], by rw [c2, fsg_wd _ (by omega)], ?_, ?_⟩, ?_⟩
  · rw [c1, c2, fkey_wd a1, fkey_wd a2, fkey_wd o1]
    apply Int.le_of_not_gt
    intro hlt
    have l1 : mg ro < mg rp := mg_lt_iff.2 (by omega)
    have l2 : mg ro < mg rq := mg_lt_iff.2 (by omega)
    rw [o2, b1, hz2, ← Nat.mul_assoc] at l1
    rw [o2, b2, hz2, ← Nat.mul_assoc] at l2
    have := Nat.lt_of_mul_lt_mul_right l1
    have := Nat.lt_of_mul_lt_mul_right l2
    omega
  · rw [c1, c2, fkey_wd a1, fkey_wd a2, fkey_wd o1]
    apply Int.le_of_not_gt
    intro hlt
    have l1 : mg rp < mg ro := mg_lt_iff.2 (by omega)
    have l2 : mg rq < mg ro := mg_lt_iff.2 (by omega)
    rw [o2, b1, hz2, ← Nat.mul_assoc] at l1
    rw [o2, b2, hz2, ← Nat.mul_assoc] at l2
    have := Nat.lt_of_mul_lt_mul_right l1
    have := Nat.lt_of_mul_lt_mul_right l2
    omega
  · rw [c1, c2]
    unfold hasMean anyNan
    simp [np, nq]
end Go.Proofs.YtpggfgkajkgcoaaDoor
