/- The document's own texts. -/
import Derived.Test.YtpggfgkajkgcoaaDoorG8
set_option linter.unusedVariables false
set_option linter.unusedSimpArgs false
namespace Go.Proofs.YtpggfgkajkgcoaaDoor
open Go.RowKit

theorem gt_zero (a : Nat) (h : nanb a = false) : (FloatKind.f64.format.order a 0 == some .gt) = (!fsg a && decide (rung a ≠ 0)) := by
  rw [wgt_eq]
  unfold flt
  rw [h, show nanb 0 = false from by decide, show zk 0 = 0 from by decide]
  simp only [Bool.not_false, Bool.true_and]
  unfold zk sv
  cases fsg a
  · exact decide_eq_decide.2 (by show (0 : Int) < (rung a : Int) ↔ _; omega)
  · exact decide_eq_false (by show ¬ (0 : Int) < -(rung a : Int); omega)
theorem sub_self_fin (a : Nat) (h : rung a < 9218868437227405312) : Ieee.double.sub a a = some 0 := by
  have := sub_exact (x := a) (y := a) (t := false) (r := 0) h h (by omega) (by rw [mg_zero]; rw [sv_zero]; omega) (fun _ => by cases fsg a <;> rfl)
  exact this
theorem sub_self_inf (a : Nat) (h : rung a = 9218868437227405312) : floatBits .sub .f64 a a = none := by
  show Ieee.double.sub a a = none
  unfold Ieee.Format.sub
  rw [read_inf h]
  show (if fsg a = !fsg a then _ else none : Option _).map _ = none
  cases fsg a <;> rfl
theorem nan_ne_zero (a : Nat) (w : World) : (FloatKind.f64.format.order (nanAt a a w) 0 != some .eq) = true := by
  rw [wne_eq, feq_zero]
  have := (nanAt_nan a a w).1
  have h2 : rung (nanAt a a w) ≠ 0 := by
    intro e
    unfold nanb at this
    rw [e] at this
    simp at this
  rw [decide_eq_false h2]; rfl
theorem and_one (x : Int) : bits BinOp.and IntKind.i64 x 1 = x % 2 := by
  show IntKind.i64.wrap (((BitVec.ofInt 64 x) &&& (BitVec.ofInt 64 1)).toNat : Int) = x % 2
  have h1 : ((BitVec.ofInt 64 x) &&& (BitVec.ofInt 64 1)).toNat = (BitVec.ofInt 64 x).toNat % 2 := by
    rw [BitVec.toNat_and, show (BitVec.ofInt 64 1).toNat = 1 from by decide, Nat.and_one_is_mod]
  rw [h1]
  have h2 : ((BitVec.ofInt 64 x).toNat : Int) = x % 18446744073709551616 := by
    rw [BitVec.toNat_ofInt]
    have : (0 : Int) ≤ x % 18446744073709551616 := Int.emod_nonneg _ (by omega)
    have e : ((2 ^ 64 : Nat) : Int) = 18446744073709551616 := by decide
    rw [e]
    omega
  have h3 : (((BitVec.ofInt 64 x).toNat % 2 : Nat) : Int) = x % 2 := by omega
  rw [h3]
  exact IntWalk.i64_in _ (by omega)
/-- The rounding of the document, as the walk meets it. -/
theorem round_facts {a y : Nat} {n : Int} (h1 : rung y < 9218868437227405312) (h2 : fsg y = fsg a) (h3 : n = sv (fsg a) (rneU (mg (rung y)))) (h4 : mg (rung y) / 2 ^ EU < 1125899906842624) :
    ∃ (d : Nat) (m : Int) (s g e o : Bool), (∀ w : World, (convert 22 3 (.float .f64 y)).run Tryd.prog w = .ok (.int .i64 m) w) ∧ (∀ w : World, (binOp .sub 22 (.float .f64 y) (.float .f64 (floatOfInt .f64 m))).run Tryd.prog w = .ok (.float .f64 d) w) ∧
      (FloatKind.f64.format.order d 4602678819172646912 == some .gt) = (!s && g) ∧ (FloatKind.f64.format.order d 4602678819172646912 == some .eq) = (!s && e) ∧ (FloatKind.f64.format.order d 13826050856027422720 == some .lt) = (s && g) ∧ (FloatKind.f64.format.order d 13826050856027422720 == some .eq) = (s && e) ∧
      (bits BinOp.and IntKind.i64 m 1 == 1) = o ∧ -1125899906842624 < m ∧ m < 1125899906842624 ∧ (if s then m ≤ 0 else 0 ≤ m) ∧ n = (if (g || e && o) = true then (if s then m - 1 else m + 1) else m) := by
  obtain ⟨d, D1, D2, D3⟩ := frac_exact h1 (by omega)
  rw [h2] at D1 D3
  have CV := toIntVal_exact (y := y) h1 (by omega)
  rw [h2] at CV
  refine ⟨d, sv (fsg a) (mg (rung y) / 2 ^ EU), fsg a, decide (2 ^ EU < 2 * (mg (rung y) % 2 ^ EU)), decide (2 ^ EU = 2 * (mg (rung y) % 2 ^ EU)), decide (mg (rung y) / 2 ^ EU % 2 = 1), fun w => run_convert_float_int w 22 3 .f64 .i64 _ _ (by kernel_rfl) Tryd.underlying3 CV, fun w => run_float_arith w .sub 22 .f64 _ _ _ D1, ?_, ?_, ?_, ?_, ?_, ?_, ?_, ?_, ?_⟩
  · rw [wgt_eq]; exact half_gt D2 D3
  · rw [weq_eq]; exact half_eq D2 D3
  · rw [wlt_eq]; exact half_lt D2 D3
  · rw [weq_eq]; exact half_eq' D2 D3
  · rw [and_one]
    unfold sv
    generalize mg (rung y) / 2 ^ EU = Q
    by_cases k : Q % 2 = 1
    · rw [decide_eq_true k]
      cases fsg a
      · exact beq_iff_eq.2 (by show (Q : Int) % 2 = 1; omega)
      · exact beq_iff_eq.2 (by show (-(Q : Int)) % 2 = 1; omega)
    · rw [decide_eq_false k]
      cases fsg a
      · exact beq_false_of_ne (by show (Q : Int) % 2 ≠ 1; omega)
      · exact beq_false_of_ne (by show (-(Q : Int)) % 2 ≠ 1; omega)
  · generalize mg (rung y) / 2 ^ EU = Q at h4
    unfold sv
    cases fsg a <;> simp <;> omega
  · generalize mg (rung y) / 2 ^ EU = Q at h4
    unfold sv
    cases fsg a <;> simp <;> omega
  · generalize mg (rung y) / 2 ^ EU = Q at h4
    unfold sv
    cases fsg a <;> simp <;> omega
  · rw [h3, rne_up]
    show sv (fsg a) (mg (rung y) / 2 ^ EU + (if upU (mg (rung y)) = true then 1 else 0)) = if upU (mg (rung y)) = true then _ else _
    generalize mg (rung y) / 2 ^ EU = Q
    cases upU (mg (rung y))
    · rfl
    · unfold sv
      cases fsg a <;> simp <;> omega
set_option maxHeartbeats 1600000 in
theorem rtext_any (a : Nat) (ha : a < 18446744073709551616) (w : World) : Calls Tryd.prog 23 #[.float .f64 a] w fun e w' => e = .returned (strV (textF a)) ∧ Below w.heap.size w w' := by
  have EA : (FloatKind.f64.format.order a a != some .eq) = nanb a := by rw [wne_eq, feq_self, Bool.not_not]
  cases hn : nanb a
  · rw [hn] at EA
    have GZ := gt_zero a hn
    by_cases hi : rung a = 9218868437227405312
    · have NN := run_nan .sub a a (.inr (.inl rfl)) (sub_self_inf a hi)
      have NZ := nan_ne_zero a
      have d0 : decide (rung a ≠ 0) = true := decide_eq_true (by omega)
      rw [d0] at GZ
      generalize nanAt a a = f at NN NZ
      cases hs : fsg a
      all_goals
        have F := Bx.mk (show textF a = _ from by unfold textF; rw [hn, hi, hs]; try rfl)
        rw [hs] at GZ
        clear hi d0
        go_enter Tryd.func23, Tryd.ntmps23
        go_wp2
        go_ret
        rw [F.out]
        refine ⟨rfl, ?_⟩
        repeat (first | exact Below.refl _ _ | apply Below.drew)
    · have hrl := rung_lt a
      have hnn := of_decide_eq_false hn
      have SX : ∀ w : World, (binOp .sub 22 (.float .f64 a) (.float .f64 a)).run Tryd.prog w = .ok (.float .f64 0) w := fun w => run_float_arith w .sub 22 .f64 _ _ _ (sub_self_fin a (by omega))
      have Z0 : (FloatKind.f64.format.order 0 0 != some .eq) = false := by decide +kernel
      have E0 : (FloatKind.f64.format.order a 0 == some .eq) = decide (rung a = 0) := by rw [weq_eq, feq_zero]
      have GB := ge_big a hn
      have LB := le_big a hn
      have hz : zk a = sv (fsg a) (rung a) := rfl
      clear GZ
      by_cases h0 : rung a = 0 ∧ fsg a = true
      · have F := Bx.mk (show textF a = _ from by unfold textF; rw [hn, h0.1, h0.2]; try rfl)
        rw [decide_eq_true h0.1] at E0
        have hs := h0.2
        have QA : ∀ w : World, (binOp .quo 22 (.float .f64 4607182418800017408) (.float .f64 a)).run Tryd.prog w = .ok (.float .f64 18442240474082181120) w := fun w => run_float_arith w .quo 22 .f64 _ _ _ (by
          rcases zero_cases ha h0.1 with rfl | rfl
          · have := h0.2; simp [fsg] at this
          · decide +kernel)
        have QL : (FloatKind.f64.format.order 18442240474082181120 0 == some .lt) = true := by decide +kernel
        clear hi h0 hz GB LB
        go_enter Tryd.func23, Tryd.ntmps23
        go_wp2
        go_ret
        rw [F.out]
        exact ⟨rfl, Below.refl _ _⟩
      · by_cases hb : 4787326403894837248 ≤ rung a
        · rw [decide_eq_false (by omega)] at E0
          cases hs : fsg a
          · have F := Bx.mk (show textF a = _ from by unfold textF; rw [hn, if_neg (by simp), if_neg hi, if_neg (by omega), if_pos hb, hs]; try rfl)
            rw [hs] at hz
            have : zk a = rung a := hz
            rw [decide_eq_true (by omega)] at GB
            clear hi h0 hz LB hb this
            go_enter Tryd.func23, Tryd.ntmps23
            go_wp2
            go_ret
            rw [F.out]
            exact ⟨rfl, Below.refl _ _⟩
          · have F := Bx.mk (show textF a = _ from by unfold textF; rw [hn, if_neg (by simp), if_neg hi, if_neg (by omega), if_pos hb, hs]; try rfl)
            rw [hs] at hz
            have : zk a = -(rung a : Int) := hz
            rw [decide_eq_false (by omega)] at GB
            rw [decide_eq_true (by omega)] at LB
            clear hi h0 hz hb this
            go_enter Tryd.func23, Tryd.ntmps23
            go_wp2
            go_ret
            rw [F.out]
            exact ⟨rfl, Below.refl _ _⟩
        · obtain ⟨y, z, n, Y, Z, V, TX, n0, n1, r1, r2, r3, r4, r5⟩ := text_main ha (by omega) (fun k => by cases hf : fsg a; rfl; exact absurd ⟨k, hf⟩ h0)
          obtain ⟨d, m, s, g, e, o, CV, SD, G1, G2, G3, G4, P1, m0, m1, hsm, HN⟩ := round_facts r1 r2 r4 r5
          rw [decide_eq_false (show ¬ 4787326403894837248 ≤ zk a by rw [hz]; unfold sv; cases fsg a <;> simp <;> omega)] at GB
          rw [decide_eq_false (show ¬ zk a ≤ -4787326403894837248 by rw [hz]; unfold sv; cases fsg a <;> simp <;> omega)] at LB
          have F := Bx.mk TX
          clear TX hb hi hz n0 n1 r1 r2 r3 r4 r5 Z V
          have RD := fun (k : Int) (k0 : 0 ≤ k) (k1 : k ≤ 1125899906842624) (w : World) => (show Calls Tryd.prog 43 #[.int .i64 k] w fun e w' => e = .returned (strV (Lib.decDigits k.toNat)) ∧ Below w.heap.size w w' from by
            have := rdigits_any 17 k.toNat (by rw [show (10 : Nat) ^ (17 + 1) = 1000000000000000000 from by decide]; omega) (by omega) (by omega) w
            rwa [Int.toNat_of_nonneg k0] at this)
          have RS := fun (k : Int) (k0 : 0 ≤ k) (k1 : k ≤ 1125899906842624) => (show ∀ w : World, (Op.stringOp .add ⟨#[45]⟩ ⟨(Lib.decDigits k.toNat).toArray⟩).run Tryd.prog w = .ok (strV (45 :: Lib.decDigits k.toNat)) w from fun w => str_add [45] (Lib.decDigits k.toNat) (by
            have := dec_len 17 k.toNat (by rw [show (10 : Nat) ^ (17 + 1) = 1000000000000000000 from by decide]; omega)
            simp
            omega) w)
          have ZR : rung a = 0 → a = 0 := fun hr => by
            rcases zero_cases ha hr with k | k
            · exact k
            · exact absurd ⟨hr, by rw [k]; decide⟩ h0
          by_cases hr : rung a = 0
          · obtain rfl := ZR hr
            clear RD RS Y CV SD G1 G2 G3 G4 P1 m0 m1 hsm HN F h0 hr ZR hrl hnn
            have F := Bx.mk (show textF 0 = [48] from by decide +kernel)
            have E1 : (FloatKind.f64.format.order 0 0 == some .eq) = true := by decide +kernel
            have QA : ∀ w : World, (binOp .quo 22 (.float .f64 4607182418800017408) (.float .f64 0)).run Tryd.prog w = .ok (.float .f64 9218868437227405312) w := fun w => run_float_arith w .quo 22 .f64 _ _ _ (by decide +kernel)
            have QL : (FloatKind.f64.format.order 9218868437227405312 0 == some .lt) = false := by decide +kernel
            have Y0 : ∀ w : World, (binOp .mul 22 (.float .f64 0) (.float .f64 4652218415073722368)).run Tryd.prog w = .ok (.float .f64 0) w := fun w => run_float_arith w .mul 22 .f64 _ _ _ (by decide +kernel)
            have V0 : ∀ w : World, (convert 22 3 (.float .f64 0)).run Tryd.prog w = .ok (.int .i64 0) w := fun w => run_convert_float_int w 22 3 .f64 .i64 _ _ (by kernel_rfl) Tryd.underlying3 (by decide +kernel)
            have C0 : floatOfInt .f64 0 = 0 := by decide +kernel
            have S0 : ∀ w : World, (binOp .sub 22 (.float .f64 0) (.float .f64 0)).run Tryd.prog w = .ok (.float .f64 0) w := SX
            have G1 : (FloatKind.f64.format.order 0 4602678819172646912 == some .gt) = false := by decide +kernel
            have G2 : (FloatKind.f64.format.order 0 4602678819172646912 == some .eq) = false := by decide +kernel
            have G3 : (FloatKind.f64.format.order 0 13826050856027422720 == some .lt) = false := by decide +kernel
            have G4 : (FloatKind.f64.format.order 0 13826050856027422720 == some .eq) = false := by decide +kernel
            have R := rdigits_small 0 (by omega) w
            rw [digit_bound (by omega)] at R
            clear E0
            go_enter Tryd.func23, Tryd.ntmps23
            go_wp2_with fail
            refine R.mono ?_
            rintro _ w1 ⟨rfl, B1⟩
            go_wp2
            go_ret
            rw [F.out]
            exact ⟨rfl, B1⟩
          · rw [decide_eq_false hr] at E0
            clear h0 hr ZR
            cases s
            · have hsm2 : 0 ≤ m := hsm
              clear hsm
              cases hg : (g || e && o)
              · skip
                have hup : (g = false ∧ e = false) ∨ (g = false ∧ e = true ∧ o = false) := by cases g <;> cases e <;> cases o <;> simp at hg ⊢
                rw [hg] at HN
                clear hg
                replace F := Bx.mk (show textF a = Lib.decDigits (m).toNat from by rw [F.out, HN]; unfold Lib.itoa; rw [if_neg (by simp; omega)]; rfl)
                rcases hup with ⟨rfl, rfl⟩ | ⟨rfl, rfl, rfl⟩
                all_goals
                  clear HN
                  have R := RD (m) (by omega) (by omega)
                  generalize Lib.decDigits (m).toNat = dg at R F
                  clear RD RS
                  unfold strV at R
                  go_enter Tryd.func23, Tryd.ntmps23
                  go_wp2_with fail
                  refine (R _).mono ?_
                  rintro _ w1 ⟨rfl, B1⟩
                  clear R
                  go_wp2
                  go_ret
                  rw [F.out]
                  exact ⟨rfl, B1⟩
              · skip
                have hup : g = true ∨ (g = false ∧ e = true ∧ o = true) := by cases g <;> cases e <;> cases o <;> simp at hg ⊢
                rw [hg] at HN
                clear hg
                replace F := Bx.mk (show textF a = Lib.decDigits (m + 1).toNat from by rw [F.out, HN]; unfold Lib.itoa; rw [if_neg (by simp; omega)]; rfl)
                rcases hup with rfl | ⟨rfl, rfl, rfl⟩
                all_goals
                  clear HN
                  have R := RD (m + 1) (by omega) (by omega)
                  generalize Lib.decDigits (m + 1).toNat = dg at R F
                  clear RD RS
                  unfold strV at R
                  go_enter Tryd.func23, Tryd.ntmps23
                  go_wp2_with fail
                  refine (R _).mono ?_
                  rintro _ w1 ⟨rfl, B1⟩
                  clear R
                  go_wp2
                  go_ret
                  rw [F.out]
                  exact ⟨rfl, B1⟩
            · have hsm2 : m ≤ 0 := hsm
              clear hsm
              cases hg : (g || e && o)
              · by_cases hm : m = 0
                · skip
                  have hup : (g = false ∧ e = false) ∨ (g = false ∧ e = true ∧ o = false) := by cases g <;> cases e <;> cases o <;> simp at hg ⊢
                  rw [hg] at HN
                  clear hg
                  replace F := Bx.mk (show textF a = Lib.decDigits (m).toNat from by rw [F.out, HN]; unfold Lib.itoa; rw [if_neg (by simp; omega)]; rfl)
                  have hm2 : ¬ m < 0 := by omega
                  clear hm
                  rcases hup with ⟨rfl, rfl⟩ | ⟨rfl, rfl, rfl⟩
                  all_goals
                    clear HN
                    have R := RD (m) (by omega) (by omega)
                    generalize Lib.decDigits (m).toNat = dg at R F
                    clear RD RS
                    unfold strV at R
                    go_enter Tryd.func23, Tryd.ntmps23
                    go_wp2_with fail
                    refine (R _).mono ?_
                    rintro _ w1 ⟨rfl, B1⟩
                    clear R
                    go_wp2
                    go_ret
                    rw [F.out]
                    exact ⟨rfl, B1⟩
                · skip
                  have hup : (g = false ∧ e = false) ∨ (g = false ∧ e = true ∧ o = false) := by cases g <;> cases e <;> cases o <;> simp at hg ⊢
                  rw [hg] at HN
                  clear hg
                  replace F := Bx.mk (show textF a = 45 :: Lib.decDigits (-m).toNat from by rw [F.out, HN]; unfold Lib.itoa; rw [if_pos (by simp; omega)]; congr 2; simp; omega)
                  rcases hup with ⟨rfl, rfl⟩ | ⟨rfl, rfl, rfl⟩
                  all_goals
                    clear HN
                    have R := RD (-m) (by omega) (by omega)
                    have SA := RS (-m) (by omega) (by omega)
                    generalize Lib.decDigits (-m).toNat = dg at R F SA
                    clear RD RS
                    unfold strV at R
                    go_enter Tryd.func23, Tryd.ntmps23
                    go_wp2_with fail
                    refine (R _).mono ?_
                    rintro _ w1 ⟨rfl, B1⟩
                    clear R
                    go_wp2
                    go_ret
                    rw [F.out]
                    exact ⟨rfl, B1⟩
              · skip
                have hup : g = true ∨ (g = false ∧ e = true ∧ o = true) := by cases g <;> cases e <;> cases o <;> simp at hg ⊢
                rw [hg] at HN
                clear hg
                replace F := Bx.mk (show textF a = 45 :: Lib.decDigits (-(m - 1)).toNat from by rw [F.out, HN]; unfold Lib.itoa; rw [if_pos (by simp; omega)]; congr 2; simp; omega)
                rcases hup with rfl | ⟨rfl, rfl, rfl⟩
                all_goals
                  clear HN
                  have R := RD (-(m - 1)) (by omega) (by omega)
                  have SA := RS (-(m - 1)) (by omega) (by omega)
                  generalize Lib.decDigits (-(m - 1)).toNat = dg at R F SA
                  clear RD RS
                  unfold strV at R
                  go_enter Tryd.func23, Tryd.ntmps23
                  go_wp2_with fail
                  refine (R _).mono ?_
                  rintro _ w1 ⟨rfl, B1⟩
                  clear R
                  go_wp2
                  go_ret
                  rw [F.out]
                  exact ⟨rfl, B1⟩
  · rw [hn] at EA
    have F := Bx.mk (show textF a = _ from by unfold textF; rw [hn]; try rfl)
    go_enter Tryd.func23, Tryd.ntmps23
    go_wp2
    go_ret
    rw [F.out]
    exact ⟨rfl, Below.refl _ _⟩
end Go.Proofs.YtpggfgkajkgcoaaDoor
