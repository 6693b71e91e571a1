/- The walk of GaugeSigns. -/
import Derived.Test.YtpggfgkajkgcoaaDoorL1
import Derived.Test.YtpggfgkajkgcoaaDoorF4
set_option linter.unusedVariables false
set_option linter.unusedSimpArgs false
namespace Go.Proofs.YtpggfgkajkgcoaaDoor
open Go.RowKit

theorem ofInt_signs {x : Int} (h0 : 0 < x) (h1 : x ≤ 4503599627370496) : ∃ r, r < 9218868437227405312 ∧ mg r = x.toNat * 2 ^ EU ∧ floatOfInt .f64 x = wd false r ∧ floatOfInt .f64 (-x) = wd true r := by
  obtain ⟨r, a, b, c⟩ := ofInt_exact (n := x) (by omega)
  obtain ⟨r', a', b', c'⟩ := ofInt_exact (n := -x) (by omega)
  rw [show x.natAbs = x.toNat from by omega] at b
  rw [show (-x).natAbs = x.toNat from by omega, ← b] at b'
  rw [mg_inj b'] at c'
  rw [decide_eq_false (by omega)] at c
  rw [decide_eq_true (by omega)] at c'
  exact ⟨r, a, b, c, c'⟩
theorem shareF_of {a b : Int} {r : Nat} (h : Ieee.double.div (floatOfInt .f64 a) (floatOfInt .f64 b) = some r) : shareF a b = r := opF_some (op := .quo) h
theorem div_zero_num {s t : Bool} {r : Nat} (hr : r < 9218868437227405312) (h0 : r ≠ 0) : Ieee.double.div (wd s r) (wd t 0) = some (wd (s ^^ t) 9218868437227405312) := by
  obtain ⟨m, i, e1, i0, m1, v1, _⟩ := read_num (b := wd s r) (by rw [rung_wd _ (by omega)]; exact hr)
  rw [fsg_wd _ (by omega)] at e1
  rw [rung_wd _ (by omega)] at v1
  have e2 : Ieee.double.read (wd t 0) = .number t 0 (-1074) := by
    rw [read_eq, rung_wd _ (by omega), fsg_wd _ (by omega), if_pos (by omega)]
  have m0 : m ≠ 0 := by
    rintro rfl
    rw [Nat.zero_mul, ← mg_zero] at v1
    exact h0 (mg_inj v1.symm)
  unfold Ieee.Format.div
  rw [e1, e2]
  unfold Ieee.Datum.quotient
  simp only []
  rw [if_pos (by trivial), if_neg m0]
  show some (Ieee.double.word _ Ieee.double.infRung) = _
  rw [word_wd, show Ieee.double.infRung = 9218868437227405312 from by decide]
theorem sign_facts {x y : Int} (x0 : 0 < x) (x1 : x ≤ 4503599627370496) (y0 : 0 < y) (y1 : y ≤ 4503599627370496) :
    ∃ R, 0 < R ∧ R < 9218868437227405312 ∧ shareF x y = wd false R ∧ shareF (-x) y = wd true R ∧ shareF x (-y) = wd true R ∧ shareF (-x) (-y) = wd false R ∧
      shareF 0 y = 0 ∧ shareF 0 (-y) = 9223372036854775808 ∧ shareF x 0 = 9218868437227405312 ∧ shareF (-x) 0 = 18442240474082181120 ∧ shareF x x = 4607182418800017408 := by
  obtain ⟨rx, a1, a2, a3, a4⟩ := ofInt_signs x0 x1
  obtain ⟨ry, b1, b2, b3, b4⟩ := ofInt_signs y0 y1
  obtain ⟨R, R0, R1, D⟩ := div_mid a2 b2 a1 b1 (by omega) (by omega) (by omega) (by omega)
  have hp := Nat.two_pow_pos EU
  have z0 : floatOfInt .f64 0 = wd false 0 := by decide +kernel
  have rx0 : rx ≠ 0 := by
    rintro rfl
    rw [mg_zero] at a2
    have := Nat.mul_pos (show 0 < x.toNat by omega) hp
    omega
  have ry0 : ry ≠ 0 := by
    rintro rfl
    rw [mg_zero] at b2
    have := Nat.mul_pos (show 0 < y.toNat by omega) hp
    omega
  have Z := fun (t : Bool) => div_exact (x := wd false 0) (y := wd t ry) (r := 0) (by decide) (by rw [rung_wd _ (by omega)]; exact b1) (by rw [rung_wd _ (by omega)]; exact ry0) (by omega) (by rw [rung_wd _ (by omega), mg_zero, Nat.zero_mul, Nat.zero_mul])
  have m1 : mg (rung 4607182418800017408) = 2 ^ EU := by decide +kernel
  have O := div_exact (x := wd false rx) (y := wd false rx) (r := 4607182418800017408) (by rw [rung_wd _ (by omega)]; exact a1) (by rw [rung_wd _ (by omega)]; exact a1) (by rw [rung_wd _ (by omega)]; exact rx0) (by omega) (by
    rw [show mg 4607182418800017408 = 2 ^ EU from m1, Nat.mul_comm])
  refine ⟨R, R0, R1, ?_, ?_, ?_, ?_, ?_, ?_, ?_, ?_, ?_⟩
  · exact shareF_of (by rw [a3, b3]; exact D false false)
  · exact shareF_of (by rw [a4, b3]; exact D true false)
  · exact shareF_of (by rw [a3, b4]; exact D false true)
  · exact shareF_of (by rw [a4, b4]; exact D true true)
  · refine shareF_of ?_
    rw [z0, b3, Z false, fsg_wd _ (by omega), fsg_wd _ (by omega)]; rfl
  · refine shareF_of ?_
    rw [z0, b4, Z true, fsg_wd _ (by omega), fsg_wd _ (by omega)]; rfl
  · refine shareF_of ?_
    rw [z0, a3, div_zero_num a1 rx0]; rfl
  · refine shareF_of ?_
    rw [z0, a4, div_zero_num a1 rx0]; rfl
  · refine shareF_of ?_
    rw [a3, O, fsg_wd _ (by omega)]; rfl
set_option maxHeartbeats 3200000 in
theorem gsigns_walk (a b : Int) (w : World) (ht : Tab w) : Calls Tryd.prog 8 #[.int .i64 a, .int .i64 b] w fun e w' => e = .returned (.bool true) ∧ Below w.heap.size w w' := by
  have KN := known_any w ht
  have HT := Bx.mk ht
  clear ht
  have ha := wi_rng a 4503599627370496 (by omega)
  have hb := wi_rng b 4503599627370496 (by omega)
  have WA := fun w => within12_any a 4503599627370496 (by omega) (by omega) w
  have WB := fun w => within12_any b 4503599627370496 (by omega) (by omega) w
  generalize wi a 4503599627370496 = p at ha WA
  generalize wi b 4503599627370496 = q at hb WB
  have x0 : 0 < 1 + p := by omega
  have x1 : 1 + p ≤ 4503599627370496 := by omega
  have y0 : 0 < 1 + q := by omega
  have y1 : 1 + q ≤ 4503599627370496 := by omega
  obtain ⟨R, R0, R1, s1, s2, s3, s4, s5, s6, s7, s8, s9⟩ := sign_facts x0 x1 y0 y1
  have GT : (FloatKind.f64.format.order (wd false R) 0 == some .gt) = true := by
    rw [gt_zero _ (nanb_wd _ (by omega)), fsg_wd _ (by omega), rung_wd _ (by omega), decide_eq_true (by omega)]; rfl
  have SB : ∀ w : World, (binOp .sub 22 (.float .f64 0) (.float .f64 (wd false R))).run Tryd.prog w = .ok (.float .f64 (wd true R)) w := fun w => run_float_arith w .sub 22 .f64 _ _ _ (sub_exact (x := 0) (t := true) (r := R) (by decide) (by rw [rung_wd _ (by omega)]; exact R1) R1 (by rw [fv_wd _ (by omega), show fv 0 = 0 from by decide]; unfold sv; simp) (fun h => by omega))
  have EE := fun (u : Nat) (h : nanb u = false) => (show (FloatKind.f64.format.order u u == some .eq) = true from by rw [weq_eq, feq_self, h]; rfl)
  have E1 := EE (wd false R) (nanb_wd _ (by omega))
  have E2 := EE (wd true R) (nanb_wd _ (by omega))
  have E3 := EE 4607182418800017408 (by decide)
  have S1 := fun w => share_num (1 + p) (1 + q) _ s1 (nanb_wd _ (by omega)) w
  have S2 := fun w => share_num (-(1 + p)) (1 + q) _ s2 (nanb_wd _ (by omega)) w
  have S3 := fun w => share_num (1 + p) (-(1 + q)) _ s3 (nanb_wd _ (by omega)) w
  have S4 := fun w => share_num (-(1 + p)) (-(1 + q)) _ s4 (nanb_wd _ (by omega)) w
  have S5 := fun w => share_num 0 (1 + q) _ s5 (by decide) w
  have S6 := fun w => share_num 0 (-(1 + q)) _ s6 (by decide) w
  have S7 := fun w => share_num (1 + p) 0 _ s7 (by decide) w
  have S8 := fun w => share_num (-(1 + p)) 0 _ s8 (by decide) w
  have S9 := fun w => share_num (1 + p) (1 + p) _ s9 (by decide) w
  have S0 := fun w => share_any 0 0 w
  have T5 := fun w h => text_lst 0 [48] (by omega) (by decide +kernel) w h
  have T6 := fun w h => text_lst 9223372036854775808 [45, 48] (by omega) (by decide +kernel) w h
  have T7 := fun w h => text_lst 9218868437227405312 [105, 110, 102] (by omega) (by decide +kernel) w h
  have T8 := fun w h => text_lst 18442240474082181120 [45, 105, 110, 102] (by omega) (by decide +kernel) w h
  have SE := fun (l : List UInt8) => (show ((ByteArray.mk l.toArray).toList == (ByteArray.mk l.toArray).toList) = true from beq_self_eq_true _)
  have Q5 := show ((ByteArray.mk #[48]).toList == (ByteArray.mk #[48]).toList) = true from SE [48]
  have Q6 := show ((ByteArray.mk #[45, 48]).toList == (ByteArray.mk #[45, 48]).toList) = true from SE [45, 48]
  have Q7 := show ((ByteArray.mk #[105, 110, 102]).toList == (ByteArray.mk #[105, 110, 102]).toList) = true from SE [105, 110, 102]
  have Q8 := show ((ByteArray.mk #[45, 105, 110, 102]).toList == (ByteArray.mk #[45, 105, 110, 102]).toList) = true from SE [45, 105, 110, 102]
  have Q9 := show ((ByteArray.mk #[110, 97, 110]).toList == (ByteArray.mk #[110, 97, 110]).toList) = true from SE [110, 97, 110]
  clear s1 s2 s3 s4 s5 s6 s7 s8 s9 SE EE
  generalize wd false R = P at GT SB E1 S1 S4
  generalize wd true R = M at SB E2 S2 S3
  clear R0 R1
  go_enter Tryd.func8, Tryd.ntmps8
  go_wp2_with fail
  refine KN.mono ?_
  rintro e w1 ⟨rfl, BB⟩
  clear KN
  go_wp2_with fail
  refine (WA _).mono ?_
  rintro e w' ⟨rfl, rfl⟩
  go_wp2_with fail
  refine (WB _).mono ?_
  rintro e w' ⟨rfl, rfl⟩
  clear WA WB
  go_wp2_with fail
  refine (S1 _).mono ?_
  rintro e w2 ⟨rfl, B2⟩
  have BB := below_below BB B2
  clear S1 B2
  go_wp2_with fail
  refine (S2 _).mono ?_
  rintro e w2 ⟨rfl, B2⟩
  have BB := below_below BB B2
  clear B2 S2
  go_wp2_with fail
  refine (S3 _).mono ?_
  rintro e w2 ⟨rfl, B2⟩
  have BB := below_below BB B2
  clear B2 S3
  go_wp2_with fail
  refine (S4 _).mono ?_
  rintro e w2 ⟨rfl, B2⟩
  have BB := below_below BB B2
  clear B2 S4
  go_wp2_with fail
  refine (S5 _).mono ?_
  rintro e w2 ⟨rfl, B2⟩
  have BB := below_below BB B2
  clear B2 S5
  go_wp2_with fail
  refine (T5 _ (HT.out.keep BB)).mono ?_
  rintro e w2 ⟨rfl, B2⟩
  have BB := below_below BB B2
  clear B2 T5
  go_wp2_with fail
  refine (S6 _).mono ?_
  rintro e w2 ⟨rfl, B2⟩
  have BB := below_below BB B2
  clear B2 S6
  go_wp2_with fail
  refine (T6 _ (HT.out.keep BB)).mono ?_
  rintro e w2 ⟨rfl, B2⟩
  have BB := below_below BB B2
  clear B2 T6
  go_wp2_with fail
  refine (S7 _).mono ?_
  rintro e w2 ⟨rfl, B2⟩
  have BB := below_below BB B2
  clear B2 S7
  go_wp2_with fail
  refine (T7 _ (HT.out.keep BB)).mono ?_
  rintro e w2 ⟨rfl, B2⟩
  have BB := below_below BB B2
  clear B2 T7
  go_wp2_with fail
  refine (S8 _).mono ?_
  rintro e w2 ⟨rfl, B2⟩
  have BB := below_below BB B2
  clear B2 S8
  go_wp2_with fail
  refine (T8 _ (HT.out.keep BB)).mono ?_
  rintro e w2 ⟨rfl, B2⟩
  have BB := below_below BB B2
  clear B2 T8
  go_wp2_with fail
  refine (S0 _).mono ?_
  rintro e w2 ⟨r, rfl, B2, rl, rs⟩
  have BB := below_below BB B2
  have TN := text_lst r [110, 97, 110] rl (by rw [text_same r _ rl (by omega) (show fsame r 9221120237041090561 = true from by rw [show shareF 0 0 = 9221120237041090561 from by decide +kernel] at rs; exact rs)]; decide +kernel)
  clear B2 S0 rs
  go_wp2_with fail
  refine (TN _ (HT.out.keep BB)).mono ?_
  rintro e w2 ⟨rfl, B2⟩
  have BB := below_below BB B2
  clear B2 TN
  go_wp2_with fail
  refine (S9 _).mono ?_
  rintro e w2 ⟨rfl, B2⟩
  have BB := below_below BB B2
  clear B2 S9
  go_wp2
  go_ret
  exact ⟨rfl, BB⟩
end Go.Proofs.YtpggfgkajkgcoaaDoor
