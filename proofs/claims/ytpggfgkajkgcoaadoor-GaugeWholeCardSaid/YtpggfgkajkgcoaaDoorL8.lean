/- The walk of GaugeWhole. -/
import Derived.Test.YtpggfgkajkgcoaaDoorL1
import Derived.Test.YtpggfgkajkgcoaaDoorF5
set_option linter.unusedVariables false
set_option linter.unusedSimpArgs false
namespace Go.Proofs.YtpggfgkajkgcoaaDoor
open Go.RowKit

theorem ldigits_small (u : Nat) (h : u < 10) (w : World) : Calls Tryd.prog 28 #[.int .i64 u] w fun e w' => e = .returned (strV (Lib.decDigits u)) ∧ Below w.heap.size w w' := by
  have h1 : ¬ (u : Int) ≥ 10 := by omega
  have y1 : IntKind.i64.wrap (48 + (u : Int)) = 48 + u := IntWalk.i64_in _ (by omega)
  have y2 : IntKind.u8.wrap (48 + (u : Int)) = 48 + u := by
    show (48 + (u : Int)) % 256 = _
    omega
  have CB := one_byte u h w
  have BW := below_alloc (Below.refl w.heap.size w) (.cells #[.int .u8 (48 + u)] 5)
  go_enter Tryd.func28, Tryd.ntmps28
  go_wp2
  go_ret
  exact ⟨rfl, BW⟩
theorem ldigits_any : ∀ (k u : Nat), u < 10 ^ (k + 1) → k ≤ 20 → u < 4611686018427387904 → ∀ (w : World), Calls Tryd.prog 28 #[.int .i64 u] w fun e w' => e = .returned (strV (Lib.decDigits u)) ∧ Below w.heap.size w w'
  | 0, u, h, _, _, w => ldigits_small u (by omega) w
  | k + 1, u, h, hk, hb, w => by
    by_cases hu : u < 10
    · exact ldigits_small u hu w
    · have g1 : (10 : Int) ≤ u := by omega
      have R1 : Calls Tryd.prog 28 #[.int .i64 ((u : Int) / 10)] w fun e w' => e = .returned (strV (Lib.decDigits (u / 10))) ∧ Below w.heap.size w w' := by
        have := ldigits_any k (u / 10) (by rw [Nat.pow_succ] at h; omega) (by omega) (by omega) w
        rwa [show ((u / 10 : Nat) : Int) = (u : Int) / 10 from by omega] at this
      have R2 : ∀ w, Calls Tryd.prog 28 #[.int .i64 ((u : Int) % 10)] w fun e w' => e = .returned (strV (Lib.decDigits (u % 10))) ∧ Below w.heap.size w w' := fun w => by
        have := ldigits_small (u % 10) (by omega) w
        rwa [show ((u % 10 : Nat) : Int) = (u : Int) % 10 from by omega] at this
      have D : Lib.decDigits u = Lib.decDigits (u / 10) ++ Lib.decDigits (u % 10) := by
        rw [digit_bound (u := u % 10) (by omega)]
        conv => lhs; rw [Lib.decDigits, dif_neg hu]
      have l1 := dec_len k (u / 10) (by rw [Nat.pow_succ] at h; omega)
      have l2 := dec_len 0 (u % 10) (by omega)
      have SA := str_add (Lib.decDigits (u / 10)) (Lib.decDigits (u % 10)) (by omega)
      rw [D]
      clear D h l1 l2
      generalize Lib.decDigits (u / 10) = d1 at R1 SA ⊢
      generalize Lib.decDigits (u % 10) = d2 at R2 SA ⊢
      unfold strV at R1 R2
      go_enter Tryd.func28, Tryd.ntmps28
      go_wp2_with fail
      refine R1.mono ?_
      rintro e w1 ⟨rfl, B1⟩
      clear R1
      go_wp2_with fail
      refine (R2 w1).mono ?_
      rintro e w2 ⟨rfl, B2⟩
      have BB := below_below B1 B2
      clear R2 B1 B2
      go_wp2
      go_ret
      exact ⟨rfl, BB⟩
theorem ldigits_lst (u : Int) (l : List UInt8) (h0 : 0 ≤ u) (h1 : u < 1000000000000000) (hl : Lib.decDigits u.toNat = l) (w : World) : Calls Tryd.prog 28 #[.int .i64 u] w fun e w' => e = .returned (.string ⟨l.toArray⟩) ∧ Below w.heap.size w w' := by
  obtain ⟨n, rfl⟩ : ∃ n : Nat, u = n := ⟨u.toNat, by omega⟩
  have := ldigits_any 14 n (by rw [show (10 : Nat) ^ (14 + 1) = 1000000000000000 from by decide]; omega) (by omega) (by omega) w
  rw [Int.toNat_natCast] at hl
  rw [hl] at this
  exact this
set_option maxHeartbeats 3200000 in
theorem gwhole_walk (n m : Int) (w : World) (ht : Tab w) : Calls Tryd.prog 10 #[.int .i64 n, .int .i64 m] w fun e w' => e = .returned (.bool true) ∧ Below w.heap.size w w' := by
  have KN := known_any w ht
  have HT := Bx.mk ht
  clear ht
  have hk := wi_rng n 549755813888 (by omega)
  have hh := wi_rng m 1048576 (by omega)
  have WA := fun w => within12_any n 549755813888 (by omega) (by omega) w
  have WB := fun w => within12_any m 1048576 (by omega) (by omega) w
  generalize wi n 549755813888 = k at hk WA
  generalize wi m 1048576 = hz at hh WB
  obtain ⟨h, rfl⟩ : ∃ h : Nat, hz = h := ⟨hz.toNat, by omega⟩
  obtain ⟨a1, q1, A1, D1, lq1, la1, t1⟩ := half_form (h := h) (c := 1) rfl (.inl rfl) (by omega) (x := 4602678819172646912) (.inl ⟨rfl, rfl⟩)
  obtain ⟨a2, q2, A2, D2, lq2, la2, t2⟩ := half_form (h := h) (c := 3) rfl (.inr rfl) (by omega) (x := 4609434218613702656) (.inr ⟨rfl, rfl⟩)
  have RA1 : ∀ w : World, (binOp .add 22 (.float .f64 (floatOfInt .f64 (2 * (h : Int)))) (.float .f64 4602678819172646912)).run Tryd.prog w = .ok (.float .f64 a1) w := fun w => run_float_arith w .add 22 .f64 _ _ _ A1
  have RA2 : ∀ w : World, (binOp .add 22 (.float .f64 (floatOfInt .f64 (2 * (h : Int)))) (.float .f64 4609434218613702656)).run Tryd.prog w = .ok (.float .f64 a2) w := fun w => run_float_arith w .add 22 .f64 _ _ _ A2
  have RD1 : ∀ w : World, (binOp .quo 22 (.float .f64 a1) (.float .f64 4652218415073722368)).run Tryd.prog w = .ok (.float .f64 q1) w := fun w => run_float_arith w .quo 22 .f64 _ _ _ D1
  have RD2 : ∀ w : World, (binOp .quo 22 (.float .f64 a2) (.float .f64 4652218415073722368)).run Tryd.prog w = .ok (.float .f64 q2) w := fun w => run_float_arith w .quo 22 .f64 _ _ _ D2
  obtain ⟨l1, hl1⟩ : ∃ l, Lib.decDigits (1024 * k).toNat = l := ⟨_, rfl⟩
  obtain ⟨l2, hl2⟩ : ∃ l, Lib.decDigits (2 * h) = l := ⟨_, rfl⟩
  obtain ⟨l3, hl3⟩ : ∃ l, Lib.decDigits (2 * h + 2) = l := ⟨_, rfl⟩
  have T2 := text_lst q1 l2 lq1 (t1.trans hl2)
  have T3 := text_lst q2 l3 lq2 (t2.trans hl3)
  have E1 := ldigits_lst (1024 * k) l1 (by omega) (by omega) hl1
  have E2 := ldigits_lst (2 * (h : Int)) l2 (by omega) (by omega) (by rw [← hl2]; congr 1)
  have E3 := ldigits_lst (2 * (h : Int) + 2) l3 (by omega) (by omega) (by rw [← hl3]; congr 1)
  have SE := fun (l : List UInt8) => (show ((ByteArray.mk l.toArray).toList == (ByteArray.mk l.toArray).toList) = true from beq_self_eq_true _)
  have S1 := SE l1
  have S2 := SE l2
  have S3 := SE l3
  have len1 : l1.length ≤ 15 := by rw [← hl1]; exact dec_len 14 _ (by rw [show (10 : Nat) ^ (14 + 1) = 1000000000000000 from by decide]; omega)
  have lk := ofInt_lt k
  have lk' := ofInt_lt (-k)
  by_cases hk0 : k = 0
  · subst hk0
    have T1 := text_lst (floatOfInt .f64 0) l1 lk (by rw [text_zero, ← hl1]; rfl)
    clear hl1 hl2 hl3 t1 t2 A1 A2 D1 D2 SE la1 la2 lk lk'
    go_enter Tryd.func10, Tryd.ntmps10
    go_wp2_with fail
    refine KN.mono ?_
    rintro e w1 ⟨rfl, BB⟩
    clear KN
    go_wp2_with fail
    refine (WA _).mono ?_
    rintro e w' ⟨rfl, rfl⟩
    go_wp2_with fail
    refine (WB _).mono ?_
    rintro e w' ⟨rfl, rfl⟩
    clear WA WB
    go_wp2_with fail
    refine (T1 _ (HT.out.keep BB)).mono ?_
    rintro e w2 ⟨rfl, B2⟩
    have BB := below_below BB B2
    clear B2
    go_wp2_with fail
    refine (E1 _).mono ?_
    rintro e w2 ⟨rfl, B2⟩
    have BB := below_below BB B2
    clear B2
    go_wp2_with fail
    refine (T2 _ (HT.out.keep BB)).mono ?_
    rintro e w2 ⟨rfl, B2⟩
    have BB := below_below BB B2
    clear B2
    go_wp2_with fail
    refine (E2 _).mono ?_
    rintro e w2 ⟨rfl, B2⟩
    have BB := below_below BB B2
    clear B2
    go_wp2_with fail
    refine (T3 _ (HT.out.keep BB)).mono ?_
    rintro e w2 ⟨rfl, B2⟩
    have BB := below_below BB B2
    clear B2
    go_wp2_with fail
    refine (E3 _).mono ?_
    rintro e w2 ⟨rfl, B2⟩
    have BB := below_below BB B2
    clear B2
    go_wp2
    go_ret
    exact ⟨rfl, BB⟩
  · have k0 : 0 < k := by omega
    have kf : (k == 0) = false := by simpa using hk0
    obtain ⟨x1, x2⟩ := text_whole k0 (by omega)
    have T1 := text_lst (floatOfInt .f64 k) l1 lk (x1.trans hl1)
    have T0 := text_lst (floatOfInt .f64 (-k)) (45 :: l1) lk' (x2.trans (by rw [hl1]))
    have S0 := SE (45 :: l1)
    have SA := str_add [45] l1 (by simp; omega)
    unfold strV at SA
    clear hl1 hl2 hl3 t1 t2 A1 A2 D1 D2 SE la1 la2 lk lk' x1 x2 hk0
    go_enter Tryd.func10, Tryd.ntmps10
    go_wp2_with fail
    refine KN.mono ?_
    rintro e w1 ⟨rfl, BB⟩
    clear KN
    go_wp2_with fail
    refine (WA _).mono ?_
    rintro e w' ⟨rfl, rfl⟩
    go_wp2_with fail
    refine (WB _).mono ?_
    rintro e w' ⟨rfl, rfl⟩
    clear WA WB
    go_wp2_with fail
    refine (T1 _ (HT.out.keep BB)).mono ?_
    rintro e w2 ⟨rfl, B2⟩
    have BB := below_below BB B2
    clear B2
    go_wp2_with fail
    refine (E1 _).mono ?_
    rintro e w2 ⟨rfl, B2⟩
    have BB := below_below BB B2
    clear B2
    go_wp2_with fail
    refine (T0 _ (HT.out.keep BB)).mono ?_
    rintro e w2 ⟨rfl, B2⟩
    have BB := below_below BB B2
    clear B2
    go_wp2_with fail
    refine (E1 _).mono ?_
    rintro e w2 ⟨rfl, B2⟩
    have BB := below_below BB B2
    clear B2
    go_wp2_with fail
    refine (T2 _ (HT.out.keep BB)).mono ?_
    rintro e w2 ⟨rfl, B2⟩
    have BB := below_below BB B2
    clear B2
    go_wp2_with fail
    refine (E2 _).mono ?_
    rintro e w2 ⟨rfl, B2⟩
    have BB := below_below BB B2
    clear B2
    go_wp2_with fail
    refine (T3 _ (HT.out.keep BB)).mono ?_
    rintro e w2 ⟨rfl, B2⟩
    have BB := below_below BB B2
    clear B2
    go_wp2_with fail
    refine (E3 _).mono ?_
    rintro e w2 ⟨rfl, B2⟩
    have BB := below_below BB B2
    clear B2
    go_wp2
    go_ret
    exact ⟨rfl, BB⟩
end Go.Proofs.YtpggfgkajkgcoaaDoor
