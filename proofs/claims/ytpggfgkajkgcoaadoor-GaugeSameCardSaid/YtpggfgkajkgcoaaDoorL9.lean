/- The walk of GaugeSame. -/
import Derived.Test.YtpggfgkajkgcoaaDoorL4
import Derived.Test.YtpggfgkajkgcoaaDoorF6
set_option linter.unusedVariables false
set_option linter.unusedSimpArgs false
namespace Go.Proofs.YtpggfgkajkgcoaaDoor
open Go.RowKit

theorem order_keys {a b : Nat} (na : nanb a = false) (nb : nanb b = false) (sa : fsg a = false) (sb : fsg b = false) : FloatKind.f64.format.order a b = some (compare (fkey a) (fkey b)) := by
  have h := order_some na nb
  have e1 : zk a = fkey a := by unfold zk sv fkey; rw [na, sa]; rfl
  have e2 : zk b = fkey b := by unfold zk sv fkey; rw [nb, sb]; rfl
  rw [e1, e2] at h
  exact h
theorem min_run {a b : Nat} (na : nanb a = false) (nb : nanb b = false) (sa : fsg a = false) (sb : fsg b = false) :
    ∃ m, (m = a ∨ m = b) ∧ fkey m = min (fkey a) (fkey b) ∧ ∀ tys ty w, (Builtin.min_ tys ty #[.float .f64 a, .float .f64 b]).run Tryd.prog w = .ok (.float .f64 m) w := by
  have h := order_keys na nb sa sb
  rcases Int.lt_trichotomy (fkey a) (fkey b) with l | l | l
  · rw [Int.compare_eq_lt.2 l] at h
    exact ⟨a, .inl rfl, by omega, fun tys ty w => by simp [Builtin.min_, Builtin.min2, h]⟩
  · rw [Int.compare_eq_eq.2 l] at h
    by_cases hd : (FloatKind.f64.decode a).neg = true
    · exact ⟨a, .inl rfl, by omega, fun tys ty w => by simp [Builtin.min_, Builtin.min2, h, hd]⟩
    · exact ⟨b, .inr rfl, by omega, fun tys ty w => by simp [Builtin.min_, Builtin.min2, h, hd]⟩
  · rw [Int.compare_eq_gt.2 l] at h
    exact ⟨b, .inr rfl, by omega, fun tys ty w => by simp [Builtin.min_, Builtin.min2, h]⟩
theorem max_run {a b : Nat} (na : nanb a = false) (nb : nanb b = false) (sa : fsg a = false) (sb : fsg b = false) :
    ∃ m, (m = a ∨ m = b) ∧ fkey m = max (fkey a) (fkey b) ∧ ∀ tys ty w, (Builtin.max_ tys ty #[.float .f64 a, .float .f64 b]).run Tryd.prog w = .ok (.float .f64 m) w := by
  have h := order_keys na nb sa sb
  rcases Int.lt_trichotomy (fkey a) (fkey b) with l | l | l
  · rw [Int.compare_eq_lt.2 l] at h
    exact ⟨b, .inr rfl, by omega, fun tys ty w => by simp [Builtin.max_, Builtin.max2, h]⟩
  · rw [Int.compare_eq_eq.2 l] at h
    by_cases hd : (FloatKind.f64.decode a).neg = true
    · exact ⟨b, .inr rfl, by omega, fun tys ty w => by simp [Builtin.max_, Builtin.max2, h, hd]⟩
    · exact ⟨a, .inl rfl, by omega, fun tys ty w => by simp [Builtin.max_, Builtin.max2, h, hd]⟩
  · rw [Int.compare_eq_gt.2 l] at h
    exact ⟨a, .inl rfl, by omega, fun tys ty w => by simp [Builtin.max_, Builtin.max2, h]⟩
theorem mean_rep {aX : Option Addr} {n cap x k z : Nat} (hF : Fine1024 k z x) (hk : k < 1099511627776) (h0 : 0 < n) (h1 : n ≤ 100) (w : World) (hX : FRow w aX (List.replicate n x)) (hcap : n ≤ cap) :
    Calls Tryd.prog 24 #[.slice aX n cap] w fun e w' => ∃ m, e = .returned (.tuple #[.float .f64 m, .bool true]) ∧ Below w.heap.size w w' ∧ Bx (n = 4 ∨ n = 8 ∨ n = 16 → m = x) := by
  have H := mean_any (cap := cap) w hX (FW_rep hF.lt) (by rw [List.length_replicate]; omega) (by rw [List.length_replicate]; exact hcap)
  rw [List.length_replicate, has_rep h0 hF.num] at H
  refine H.mono ?_
  rintro e w' ⟨m, rfl, B, lm, M⟩
  refine ⟨m, rfl, B, ⟨fun hn => ?_⟩⟩
  have s := M.yes (has_rep h0 hF.num)
  rw [hF.mean hk n hn] at s
  exact fsame_own lm hF.lt s hF.num
theorem mean_duo {p q : Int} (p0 : 0 ≤ p) (p1 : p < 4503599627370496) (q0 : 0 ≤ q) (q1 : q < 4503599627370496) (w : World) (aX : Option Addr) (hX : FRow w aX [floatOfInt .f64 p, floatOfInt .f64 q]) :
    Calls Tryd.prog 24 #[.slice aX 2 2] w fun e w' => ∃ m, e = .returned (.tuple #[.float .f64 m, .bool true]) ∧ Below w.heap.size w w' ∧ Bx (Between (floatOfInt .f64 p) (floatOfInt .f64 q) m) := by
  obtain ⟨BT, HM⟩ := mean_pair p0 p1 q0 q1
  have hw : FW [floatOfInt .f64 p, floatOfInt .f64 q] := FW_snoc (FW_snoc FW_nil BT.la) BT.lb
  have H := mean_any (cap := 2) w hX hw (by simp) (Nat.le_refl _)
  rw [HM] at H
  refine H.mono ?_
  rintro e w' ⟨m, rfl, B, lm, M⟩
  refine ⟨m, rfl, B, ⟨?_⟩⟩
  have s := M.yes HM
  rw [fsame_own lm BT.lo s BT.no]
  exact BT
theorem less_no {a b : Nat} (ha : a < 18446744073709551616) (hb : b < 18446744073709551616) (h : fkey b ≤ fkey a) (w : World) : Calls Tryd.prog 16 #[.float .f64 a, .float .f64 b] w fun e w' => e = .returned (.bool false) ∧ w = w' := by
  have := less_any a b ha hb w
  rwa [show fless a b = false from decide_eq_false (by omega)] at this
set_option maxHeartbeats 6400000 in
theorem gsame_walk (n k a b : Int) (w : World) (ht : Tab w) : Calls Tryd.prog 11 #[.int .i64 n, .int .i64 k, .int .i64 a, .int .i64 b] w fun e w' => e = .returned (.bool true) ∧ Below w.heap.size w w' := by
  have KN := known_any w ht
  clear ht
  have hn := wi_rng n 1099511627776 (by omega)
  have hk := wi_rng k 4 (by omega)
  have hp := wi_rng a 4503599627370496 (by omega)
  have hq := wi_rng b 4503599627370496 (by omega)
  have WN := fun w => within12_any n 1099511627776 (by omega) (by omega) w
  have WK := fun w => within12_any k 4 (by omega) (by omega) w
  have WP := fun w => within12_any a 4503599627370496 (by omega) (by omega) w
  have WQ := fun w => within12_any b 4503599627370496 (by omega) (by omega) w
  generalize wi n 1099511627776 = nz at hn WN
  generalize wi k 4 = kz at hk WK
  generalize wi a 4503599627370496 = p at hp WP
  generalize wi b 4503599627370496 = q at hq WQ
  obtain ⟨nn, rfl⟩ : ∃ h : Nat, nz = h := ⟨nz.toNat, by omega⟩
  obtain ⟨kk, rfl⟩ : ∃ h : Nat, kz = h := ⟨kz.toNat, by omega⟩
  obtain ⟨z, x, D, FX⟩ := fine1024 (k := nn) (by omega)
  have hnn : nn < 1099511627776 := by omega
  have RD : ∀ w : World, (binOp .quo 22 (.float .f64 (floatOfInt .f64 (nn : Int))) (.float .f64 4652218415073722368)).run Tryd.prog w = .ok (.float .f64 x) w := fun w => run_float_arith w .quo 22 .f64 _ _ _ D
  have EX : (FloatKind.f64.format.order x x == some .eq) = true := by rw [weq_eq, feq_self, FX.num]; rfl
  have FF := Bx.mk FX
  clear D FX
  have hkk : kk ≤ 3 := by omega
  go_enter Tryd.func11, Tryd.ntmps11
  go_wp2_with fail
  refine KN.mono ?_
  rintro e w1 ⟨rfl, B1⟩
  clear KN
  go_wp2_with fail
  refine (WN _).mono ?_
  rintro e w' ⟨rfl, rfl⟩
  clear WN
  go_wp2_with fail
  go_loopg [10, 11] 5 (fun qq y i wr => ∃ (c : Nat), i = .int .i64 c ∧ qq = 5 - c ∧ c ≤ kk + 1 ∧ Below w1.heap.size w1 wr ∧ FOwn wr w1.heap.size y (List.replicate (4 * c) x))
  case atStart => exact ⟨0, rfl, rfl, by omega, Below.refl _ _, FOwn.nil _ _⟩
  case round =>
    obtain ⟨c, rfl, hqq, hc, BW, hO⟩ := hrel
    by_cases hlt : c < kk + 1
    · have hL : (c : Int) < 1 + (kk : Int) := by omega
      go_wp2_with fail
      refine (WK _).mono ?_
      rintro e w' ⟨rfl, rfl⟩
      have B2 := below_alloc BW (.cells (flts [x, x, x, x]).toArray 22)
      have hO2 := hO.keep (below_alloc (Below.refl wr.heap.size wr) (.cells (flts [x, x, x, x]).toArray 22))
      have n1 := frow_new wr [x, x, x, x]
      have RP := Bx.mk (show List.replicate (4 * c) x ++ [x, x, x, x] = List.replicate (4 * (c + 1)) x from by
        rw [show [x, x, x, x] = List.replicate 4 x from rfl, List.replicate_append_replicate]
        rfl)
      clear hO
      go_wp2_with (at_builtin; refine fapp_any rfl (.tmp 31) (.tmp 36) rfl w1.heap.size _ (List.replicate (4 * c) x) [x, x, x, x] rfl hO2 (some ⟨wr.heap.size, 0, none⟩) 4 4 rfl rfl n1 (by omega) (by rw [List.length_replicate]; omega) B2.size (4 * (c + 1)) (by rw [List.length_replicate]; omega) ?_; intro g1 p1 w2 q1 gr1 _; have B3 := fbelow_app B2 hO2 (Nat.le_refl _) gr1; rw [RP.out] at q1; have q2 := Bx.mk q1; clear q1 gr1 hO2 n1 B2)
      go_roundg (5 - (c + 1))
      case rel => exact ⟨c + 1, rfl, rfl, by omega, B3, q2.out.own⟩
      case measure => omega
    · obtain rfl : c = kk + 1 := by omega
      have hL : ¬ (((kk + 1 : Nat) : Int) < 1 + (kk : Int)) := by omega
      go_wp2_with fail
      refine (WK _).mono ?_
      rintro e w' ⟨rfl, rfl⟩
      obtain ⟨g, cap, rfl, hX, hcap⟩ := hO.parts
      rw [List.length_replicate] at hcap ⊢
      clear WK hqq hc hL hlt hO
      obtain ⟨m, hm⟩ : ∃ m, 4 * (kk + 1) = m := ⟨_, rfl⟩
      rw [hm] at hX hcap ⊢
      have hm4 : m = 4 ∨ m = 8 ∨ m = 12 ∨ m = 16 := by omega
      clear hm
      have MR := mean_rep FF.out hnn (by omega) (by omega) wr hX hcap
      go_wp2_with fail
      refine MR.mono ?_
      rintro e w2 ⟨o1, rfl, B2, E1⟩
      clear MR
      have BB := below_below B1 (below_below BW B2)
      clear BW B2 hX B1
      go_wp2_with fail
      refine (WP _).mono ?_
      rintro e w' ⟨rfl, rfl⟩
      go_wp2_with fail
      refine (WQ _).mono ?_
      rintro e w' ⟨rfl, rfl⟩
      clear WP WQ
      have F2 := frow_new w2 [floatOfInt .f64 p, floatOfInt .f64 q]
      have B3 := below_alloc BB (.cells (flts [floatOfInt .f64 p, floatOfInt .f64 q]).toArray 22)
      have MD := mean_duo hp.1 hp.2 hq.1 hq.2 _ _ F2
      clear F2 BB
      go_wp2_with fail
      refine MD.mono ?_
      rintro e w4 ⟨o2, rfl, B4, E2⟩
      clear MD
      have BB := below_below B3 B4
      clear B3 B4
      have BT := E2.out
      generalize floatOfInt .f64 p = P at BT ⊢
      generalize floatOfInt .f64 q = Q at BT ⊢
      obtain ⟨mn, mn1, mn2, MN⟩ := min_run BT.na BT.nb BT.sa BT.sb
      obtain ⟨mx, mx1, mx2, MX⟩ := max_run BT.na BT.nb BT.sa BT.sb
      have lmn : mn < 18446744073709551616 := by rcases mn1 with rfl | rfl; exact BT.la; exact BT.lb
      have lmx : mx < 18446744073709551616 := by rcases mx1 with rfl | rfl; exact BT.la; exact BT.lb
      have L1 := fun w => less_no BT.lo lmn (by rw [mn2]; exact BT.low) w
      have L2 := fun w => less_no lmx BT.lo (by rw [mx2]; exact BT.high) w
      clear mn1 mn2 mx1 mx2 BT E2 lmn lmx
      rcases hm4 with rfl | rfl | rfl | rfl
      · obtain rfl : o1 = x := E1.out (by omega)
        clear E1 hcap
        go_wp2_with fail
        refine (L1 _).mono ?_
        rintro e w' ⟨rfl, rfl⟩
        go_wp2_with fail
        refine (L2 _).mono ?_
        rintro e w' ⟨rfl, rfl⟩
        go_wp2
        go_ret
        exact ⟨rfl, BB⟩
      · obtain rfl : o1 = x := E1.out (by omega)
        clear E1 hcap
        go_wp2_with fail
        refine (L1 _).mono ?_
        rintro e w' ⟨rfl, rfl⟩
        go_wp2_with fail
        refine (L2 _).mono ?_
        rintro e w' ⟨rfl, rfl⟩
        go_wp2
        go_ret
        exact ⟨rfl, BB⟩
      · clear E1 hcap
        go_wp2_with fail
        refine (L1 _).mono ?_
        rintro e w' ⟨rfl, rfl⟩
        go_wp2_with fail
        refine (L2 _).mono ?_
        rintro e w' ⟨rfl, rfl⟩
        go_wp2
        go_ret
        exact ⟨rfl, BB⟩
      · obtain rfl : o1 = x := E1.out (by omega)
        clear E1 hcap
        go_wp2_with fail
        refine (L1 _).mono ?_
        rintro e w' ⟨rfl, rfl⟩
        go_wp2_with fail
        refine (L2 _).mono ?_
        rintro e w' ⟨rfl, rfl⟩
        go_wp2
        go_ret
        exact ⟨rfl, BB⟩
end Go.Proofs.YtpggfgkajkgcoaaDoor
