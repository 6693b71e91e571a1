/- Texts of floats. -/
import Derived.Test.YtpggfgkajkgcoaaDoorG3
import Derived.Test.YtpggfgkajkgcoaaDoorSh
import Derived.Lib.SmallJoins
import Derived.Lib.ItoaMem
set_option linter.unusedVariables false
set_option linter.unusedSimpArgs false
namespace Go.Proofs.YtpggfgkajkgcoaaDoor
open Go.RowKit

/-- The library's table of powers of ten lies in memory. -/
def Tab (w : World) : Prop := Lib.TabIs Tryd.prog w "internal/strconv.uint64pow10" .u64 Lib.pow10Tab
theorem Tab.keep {w w' : World} (h : Tab w) (hb : Below w.heap.size w w') : Tab w' := Go.Joins.tab_stays (g := 1) (by kernel_rfl) h hb (Nat.le_refl _)
theorem grow_below (w : World) (k : Nat) (os : Array Obj) : Below w.heap.size w (Sort.grow (w.drewN k) os) := by
  refine ⟨rfl, rfl, rfl, ?_, fun i hi => ?_⟩
  · show w.heap.size ≤ (w.heap ++ os).size
    rw [Array.size_append]; omega
  · show (w.heap ++ os)[i]? = w.heap[i]?
    rw [Array.getElem?_append_left hi]
theorem itoa_any (n : Int) (h0 : -9223372036854775808 ≤ n) (h1 : n ≤ 9223372036854775807) (w : World) (h : Tab w) : Calls Tryd.prog 41 #[.int .i64 n] w fun e w' => e = .returned (.string ⟨(Lib.itoa n).toArray⟩) ∧ Below w.heap.size w w' := by
  have := Any.strconv_Itoa Tryd.laysItoa n h0 h1 w h
  refine Calls.mono (show Calls Tryd.prog 41 #[.int .i64 n] w _ from this) ?_
  rintro e w' ⟨rfl, k, os, rfl⟩
  exact ⟨rfl, grow_below w k os⟩
theorem rint_run (y r : Nat) (hy : rung y < 9218868437227405312) (h : Ieee.double.write ((Ieee.double.read y).integral .even) = r) (w : World) : (callFunc 42 #[.float .f64 y]).run Tryd.prog w = .ok (.value (.float .f64 r)) w := by
  rw [run_callFunc_extern (e := Extern.MathFloor.toIntegral "math.RoundToEven" .even) Tryd.func42 (by kernel_rfl) (by kernel_rfl) (by kernel_rfl) (by kernel_rfl)]
  obtain ⟨m, i, e1, _⟩ := read_num hy
  rw [e1] at h
  have e2 : FloatKind.f64.decode y = .number (fsg y) m i := e1
  show Result.andThen (Sem.run _ (Extern.MathFloor.toIntegral.match_1 (fun _ => Sem Value) (FloatKind.f64.decode y) _ _) _) _ = _
  rw [e2, ← h]
  rfl
theorem xor_low {a : Nat} (h : a < 9223372036854775808) : a ^^^ 9223372036854775808 = 9223372036854775808 + a := by
  have e : (9223372036854775808 : Nat) = 2 ^ 63 := by decide
  rw [e] at h ⊢
  apply Nat.eq_of_testBit_eq
  intro i
  rw [Nat.testBit_xor, Nat.testBit_two_pow]
  rcases Nat.lt_trichotomy i 63 with k | k | k
  · rw [Nat.testBit_two_pow_add_gt k]
    have : decide (63 = i) = false := decide_eq_false (by omega)
    rw [this, Bool.xor_false]
  · subst k
    rw [Nat.testBit_two_pow_add_eq]
    simp
  · have h1 : a < 2 ^ i := Nat.lt_of_lt_of_le h (Nat.pow_le_pow_right (by omega) (by omega))
    have h2 : 2 ^ 63 + a < 2 ^ i := by
      have : 2 ^ 64 ≤ 2 ^ i := Nat.pow_le_pow_right (by omega) (by omega)
      omega
    rw [Nat.testBit_lt_two_pow h1, Nat.testBit_lt_two_pow h2]
    have : decide (63 = i) = false := decide_eq_false (by omega)
    rw [this]; rfl
theorem neg_wd {a : Nat} (h : a < 18446744073709551616) : Op.negFloat .f64 a = wd (!fsg a) (rung a) := by
  show a ^^^ 2 ^ (11 + 52) = _
  rw [show (2 : Nat) ^ (11 + 52) = 9223372036854775808 from by decide]
  unfold wd fsg rung
  by_cases k : a < 9223372036854775808
  · rw [xor_low k, show a / 9223372036854775808 = 0 from by omega]
    simp
    omega
  · obtain ⟨b, rfl⟩ : ∃ b, a = 9223372036854775808 + b := ⟨a - 9223372036854775808, by omega⟩
    rw [← xor_low (a := b) (by omega), Nat.xor_assoc, Nat.xor_self, Nat.xor_zero, xor_low (by omega), show (9223372036854775808 + b) / 9223372036854775808 = 1 from by omega]
    simp
    omega
theorem gt_max (a : Nat) : (FloatKind.f64.format.order a 9218868437227405311 == some .gt) = (decide (rung a = 9218868437227405312) && !fsg a) := by
  rw [wgt_eq]
  unfold flt
  rw [show nanb 9218868437227405311 = false from by decide, show zk 9218868437227405311 = 9218868437227405311 from by decide]
  by_cases h : rung a = 9218868437227405312
  · rw [decide_eq_true h, show nanb a = false from by unfold nanb; exact decide_eq_false (by omega)]
    unfold zk sv
    rw [h]
    cases fsg a <;> rfl
  · rw [decide_eq_false h, Bool.false_and]
    cases hn : nanb a
    · have := of_decide_eq_false hn
      have k : ¬ (9218868437227405311 : Int) < zk a := by
        unfold zk sv
        cases fsg a <;> simp <;> omega
      rw [decide_eq_false k]; rfl
    · simp
theorem isinf_pos (a : Nat) (w : World) : Calls Tryd.prog 40 #[.float .f64 a, .int .i64 1] w fun e w' => e = .returned (.bool (decide (rung a = 9218868437227405312) && !fsg a)) ∧ w = w' := by
  have E := gt_max a
  go_enter Tryd.func40, Tryd.ntmps40
  go_wp2
  go_ret
  exact ⟨rfl, rfl⟩
theorem isinf_neg (a : Nat) (ha : a < 18446744073709551616) (w : World) : Calls Tryd.prog 40 #[.float .f64 a, .int .i64 (-1)] w fun e w' => e = .returned (.bool (decide (rung a = 9218868437227405312) && fsg a)) ∧ w = w' := by
  have E := gt_max (Op.negFloat .f64 a)
  rw [neg_wd ha, rung_wd _ (rung_lt a), fsg_wd _ (rung_lt a), Bool.not_not, ← neg_wd ha] at E
  have N : ∀ w : World, (Op.unary .neg (.float .f64 a)).run Tryd.prog w = .ok (.float .f64 (Op.negFloat .f64 a)) w := fun w => rfl
  go_enter Tryd.func40, Tryd.ntmps40
  go_wp2
  go_ret
  exact ⟨rfl, rfl⟩
theorem ge_big (a : Nat) (h : nanb a = false) : (FloatKind.f64.format.order a 4787326403894837248 == some .gt || FloatKind.f64.format.order a 4787326403894837248 == some .eq) = decide (4787326403894837248 ≤ zk a) := by
  rw [wgt_eq, weq_eq]
  unfold flt feq
  rw [h, show nanb 4787326403894837248 = false from by decide, show zk 4787326403894837248 = 4787326403894837248 from by decide]
  simp only [Bool.not_false, Bool.true_and]
  rw [← Bool.decide_or]
  exact decide_eq_decide.2 (by omega)
theorem le_big (a : Nat) (h : nanb a = false) : (FloatKind.f64.format.order a 14010698440749613056 == some .lt || FloatKind.f64.format.order a 14010698440749613056 == some .eq) = decide (zk a ≤ -4787326403894837248) := by
  rw [wlt_eq, weq_eq]
  unfold flt feq
  rw [h, show nanb 14010698440749613056 = false from by decide, show zk 14010698440749613056 = -4787326403894837248 from by decide]
  simp only [Bool.not_false, Bool.true_and]
  rw [← Bool.decide_or]
  exact decide_eq_decide.2 (by omega)
def strV (l : List UInt8) : Value := .string ⟨l.toArray⟩

/-- What is written, for the walk: a number that is neither without end nor beyond what is big. -/
theorem text_main {a : Nat} (ha : a < 18446744073709551616) (h : rung a < 4787326403894837248) (hz : rung a = 0 → fsg a = false) :
    ∃ y z n, (∀ w : World, (binOp .mul 22 (.float .f64 a) (.float .f64 4652218415073722368)).run Tryd.prog w = .ok (.float .f64 y) w) ∧ (∀ w : World, (callFunc 42 #[.float .f64 y]).run Tryd.prog w = .ok (.value (.float .f64 z)) w) ∧ (∀ w : World, (convert 22 3 (.float .f64 z)).run Tryd.prog w = .ok (.int .i64 n) w) ∧ textF a = Lib.itoa n ∧ -9007199254740992 ≤ n ∧ n ≤ 9007199254740992 ∧
      rung y < 9218868437227405312 ∧ fsg y = fsg a ∧ mg (rung y) = 1024 * mg (rung a) ∧ n = sv (fsg a) (rneU (mg (rung y))) ∧ mg (rung y) / 2 ^ EU < 1125899906842624 := by
  obtain ⟨r, r1, r2, r3, r4⟩ := times_1024 h
  have hp := Nat.two_pow_pos EU
  have hdiv : mg r / 2 ^ EU < 1125899906842624 := (Nat.div_lt_iff_lt_mul hp).2 r4
  have hrne : rneU (mg r) ≤ 1125899906842624 := by
    rw [rne_up]
    split <;> omega
  have hy : rung (wd (fsg a) r) = r := rung_wd _ (by omega)
  have hys : fsg (wd (fsg a) r) = fsg a := fsg_wd _ (by omega)
  obtain ⟨r', s1, s2, s3⟩ := rint_exact (y := wd (fsg a) r) (by rw [hy]; exact r1) (by rw [hy]; omega)
  rw [hy] at s2
  rw [hys] at s3
  have hz' : rung (wd (fsg a) r') = r' := rung_wd _ (by omega)
  have hzs : fsg (wd (fsg a) r') = fsg a := fsg_wd _ (by omega)
  have hzd : mg r' / 2 ^ EU = rneU (mg r) := by rw [s2, Nat.mul_div_cancel _ hp]
  have CV := toIntVal_exact (y := wd (fsg a) r') (by rw [hz']; exact s1) (by rw [hz', hzd]; omega)
  rw [hz', hzs, hzd] at CV
  refine ⟨wd (fsg a) r, wd (fsg a) r', sv (fsg a) (rneU (mg r)), fun w => run_float_arith w .mul 22 .f64 _ _ _ r3, fun w => rint_run _ _ (by rw [hy]; exact r1) s3 w, fun w => run_convert_float_int w 22 3 .f64 .i64 _ _ (by kernel_rfl) Tryd.underlying3 CV, ?_, ?_, ?_, by rw [hy]; exact r1, hys, by rw [hy]; exact r2, by rw [hy], by rw [hy]; exact hdiv⟩
  · unfold textF
    have hn : nanb a = false := by unfold nanb; exact decide_eq_false (by omega)
    rw [hn, if_neg (by simp), if_neg (by omega)]
    by_cases h0 : rung a = 0
    · rw [if_pos h0, hz h0, r2, h0, mg_zero]
      decide +kernel
    · rw [if_neg h0, if_neg (by omega), r2]
  · unfold sv
    cases fsg a <;> simp <;> omega
  · unfold sv
    cases fsg a <;> simp <;> omega
set_option maxHeartbeats 1600000 in
theorem text_any (a : Nat) (ha : a < 18446744073709551616) (w : World) (ht : Tab w) : Calls Tryd.prog 22 #[.float .f64 a] w fun e w' => e = .returned (strV (textF a)) ∧ Below w.heap.size w w' := by
  cases hn : nanb a
  · by_cases hi : rung a = 9218868437227405312
    · have DI : decide (rung a = 9218868437227405312) = true := decide_eq_true hi
      cases hs : fsg a
      all_goals
        have F := Bx.mk (show textF a = _ from by unfold textF; rw [hn, hi, hs]; try rfl)
        clear hi
        go_enter Tryd.func22, Tryd.ntmps22
        go_wp2_with (first | (go_at_call 34; refine (isnan_any _ _).mono ?_; rintro e w' ⟨rfl, rfl⟩) | (go_at_call 40; first | (with_reducible refine (isinf_pos _ _).mono ?_; rintro e w' ⟨rfl, rfl⟩) | (with_reducible refine (isinf_neg _ ha _).mono ?_; rintro e w' ⟨rfl, rfl⟩)) | (go_at_call 35; refine (signbit_any _ ha _).mono ?_; rintro e w' ⟨rfl, rfl⟩) | (go_at_call 41; refine IT.mono ?_; rintro e w' ⟨rfl, hB⟩))
        go_ret
        rw [F.out]
        exact ⟨rfl, Below.refl _ _⟩
    · have DI : decide (rung a = 9218868437227405312) = false := decide_eq_false hi
      have E0 : (FloatKind.f64.format.order a 0 == some .eq) = decide (rung a = 0) := by rw [weq_eq, feq_zero]
      have GB := ge_big a hn
      have LB := le_big a hn
      have hrl := rung_lt a
      have hz : zk a = sv (fsg a) (rung a) := rfl
      have hnn := of_decide_eq_false hn
      by_cases h0 : rung a = 0 ∧ fsg a = true
      · have F := Bx.mk (show textF a = _ from by unfold textF; rw [hn, h0.1, h0.2]; try rfl)
        rw [decide_eq_true h0.1] at E0
        have hs := h0.2
        clear hi h0 hz GB LB
        go_enter Tryd.func22, Tryd.ntmps22
        go_wp2_with (first | (go_at_call 34; refine (isnan_any _ _).mono ?_; rintro e w' ⟨rfl, rfl⟩) | (go_at_call 40; first | (with_reducible refine (isinf_pos _ _).mono ?_; rintro e w' ⟨rfl, rfl⟩) | (with_reducible refine (isinf_neg _ ha _).mono ?_; rintro e w' ⟨rfl, rfl⟩)) | (go_at_call 35; refine (signbit_any _ ha _).mono ?_; rintro e w' ⟨rfl, rfl⟩) | (go_at_call 41; refine IT.mono ?_; rintro e w' ⟨rfl, hB⟩))
        go_ret
        rw [F.out]
        exact ⟨rfl, Below.refl _ _⟩
      · by_cases hb : 4787326403894837248 ≤ rung a
        · rw [decide_eq_false (by omega)] at E0
          cases hs : fsg a
          · have F := Bx.mk (show textF a = _ from by unfold textF; rw [hn, if_neg (by simp), if_neg hi, if_neg (by omega), if_pos hb, hs]; try rfl)
            rw [hs] at hz
            have : zk a = rung a := hz
            rw [decide_eq_true (by omega)] at GB
            clear hi h0 hz LB hb this
            go_enter Tryd.func22, Tryd.ntmps22
            go_wp2_with (first | (go_at_call 34; refine (isnan_any _ _).mono ?_; rintro e w' ⟨rfl, rfl⟩) | (go_at_call 40; first | (with_reducible refine (isinf_pos _ _).mono ?_; rintro e w' ⟨rfl, rfl⟩) | (with_reducible refine (isinf_neg _ ha _).mono ?_; rintro e w' ⟨rfl, rfl⟩)) | (go_at_call 35; refine (signbit_any _ ha _).mono ?_; rintro e w' ⟨rfl, rfl⟩) | (go_at_call 41; refine IT.mono ?_; rintro e w' ⟨rfl, hB⟩))
            go_ret
            rw [F.out]
            exact ⟨rfl, Below.refl _ _⟩
          · have F := Bx.mk (show textF a = _ from by unfold textF; rw [hn, if_neg (by simp), if_neg hi, if_neg (by omega), if_pos hb, hs]; try rfl)
            rw [hs] at hz
            have : zk a = -(rung a : Int) := hz
            rw [decide_eq_false (by omega)] at GB
            rw [decide_eq_true (by omega)] at LB
            clear hi h0 hz hb this
            go_enter Tryd.func22, Tryd.ntmps22
            go_wp2_with (first | (go_at_call 34; refine (isnan_any _ _).mono ?_; rintro e w' ⟨rfl, rfl⟩) | (go_at_call 40; first | (with_reducible refine (isinf_pos _ _).mono ?_; rintro e w' ⟨rfl, rfl⟩) | (with_reducible refine (isinf_neg _ ha _).mono ?_; rintro e w' ⟨rfl, rfl⟩)) | (go_at_call 35; refine (signbit_any _ ha _).mono ?_; rintro e w' ⟨rfl, rfl⟩) | (go_at_call 41; refine IT.mono ?_; rintro e w' ⟨rfl, hB⟩))
            go_ret
            rw [F.out]
            exact ⟨rfl, Below.refl _ _⟩
        · obtain ⟨y, z, n, Y, Z, V, TX, n0, n1, R⟩ := text_main ha (by omega) (fun k => by cases hf : fsg a; rfl; exact absurd ⟨k, hf⟩ h0)
          have IT := itoa_any n (by omega) (by omega) w ht
          rw [decide_eq_false (show ¬ 4787326403894837248 ≤ zk a by rw [hz]; unfold sv; cases fsg a <;> simp <;> omega)] at GB
          rw [decide_eq_false (show ¬ zk a ≤ -4787326403894837248 by rw [hz]; unfold sv; cases fsg a <;> simp <;> omega)] at LB
          have F := Bx.mk TX
          clear TX hb hi hz n0 n1 R
          by_cases hr : rung a = 0
          · rw [decide_eq_true hr] at E0
            have hs : fsg a = false := by cases hf : fsg a; rfl; exact absurd ⟨hr, hf⟩ h0
            clear h0 hr
            go_enter Tryd.func22, Tryd.ntmps22
            go_wp2_with (first | (go_at_call 34; refine (isnan_any _ _).mono ?_; rintro e w' ⟨rfl, rfl⟩) | (go_at_call 40; first | (with_reducible refine (isinf_pos _ _).mono ?_; rintro e w' ⟨rfl, rfl⟩) | (with_reducible refine (isinf_neg _ ha _).mono ?_; rintro e w' ⟨rfl, rfl⟩)) | (go_at_call 35; refine (signbit_any _ ha _).mono ?_; rintro e w' ⟨rfl, rfl⟩) | (go_at_call 41; refine IT.mono ?_; rintro e w' ⟨rfl, hB⟩))
            go_ret
            rw [F.out]
            exact ⟨rfl, hB⟩
          · rw [decide_eq_false hr] at E0
            clear h0 hr
            go_enter Tryd.func22, Tryd.ntmps22
            go_wp2_with (first | (go_at_call 34; refine (isnan_any _ _).mono ?_; rintro e w' ⟨rfl, rfl⟩) | (go_at_call 40; first | (with_reducible refine (isinf_pos _ _).mono ?_; rintro e w' ⟨rfl, rfl⟩) | (with_reducible refine (isinf_neg _ ha _).mono ?_; rintro e w' ⟨rfl, rfl⟩)) | (go_at_call 35; refine (signbit_any _ ha _).mono ?_; rintro e w' ⟨rfl, rfl⟩) | (go_at_call 41; refine IT.mono ?_; rintro e w' ⟨rfl, hB⟩))
            go_ret
            rw [F.out]
            exact ⟨rfl, hB⟩
  · have F := Bx.mk (show textF a = _ from by unfold textF; rw [hn]; try rfl)
    go_enter Tryd.func22, Tryd.ntmps22
    go_wp2_with (first | (go_at_call 34; refine (isnan_any _ _).mono ?_; rintro e w' ⟨rfl, rfl⟩) | (go_at_call 40; first | (with_reducible refine (isinf_pos _ _).mono ?_; rintro e w' ⟨rfl, rfl⟩) | (with_reducible refine (isinf_neg _ ha _).mono ?_; rintro e w' ⟨rfl, rfl⟩)) | (go_at_call 35; refine (signbit_any _ ha _).mono ?_; rintro e w' ⟨rfl, rfl⟩) | (go_at_call 41; refine IT.mono ?_; rintro e w' ⟨rfl, hB⟩))
    go_ret
    rw [F.out]
    exact ⟨rfl, Below.refl _ _⟩
end Go.Proofs.YtpggfgkajkgcoaaDoor
