/- The walk of LinkLeast: it returns true, and writes nothing that was there. -/
import Derived.Test.YtjicapkhlfbgjaaSo
set_option linter.unusedVariables false
namespace Go.Proofs.Ytjicapkhlfbgjaa
open Go.RowKit

set_option maxHeartbeats 6400000 in
set_option maxRecDepth 10000 in
theorem least_walk (s v : Int) (a : Option Addr) (len cap : Nat) (zs : List Int) (w : World) (hz : RowOf w a len zs) :
    Calls Try.prog 5 #[.int .i64 s, .slice a len cap, .int .i64 v] w fun e w' => e = .returned (.bool true) ∧ Below w.heap.size w w' := by
  have hs := wi_rng s 15 (by omega)
  obtain ⟨m, hm⟩ : ∃ m : Nat, 1 + wi s 15 = (m : Int) := ⟨(1 + wi s 15).toNat, by omega⟩
  have hm0 : 0 < m := by omega
  have hm1 : m ≤ 15 := by omega
  have hmz : ¬ (m : Int) = 0 := by omega
  have hmN : ¬ m = 0 := by omega
  go_enter Try.func5, Try.ntmps5
  go_wp2_with fail
  refine (known_any _).mono ?_
  rintro e w1 ⟨rfl, hB1⟩
  go_wp2_with fail
  refine (within_any s 15 (by omega) (by omega) _).mono ?_
  rintro e w' ⟨rfl, rfl⟩
  go_wp2_with fail
  refine (p_new m m (by omega) _).mono ?_
  rintro e w2 ⟨g, rfl, hF, hB⟩
  have hD2 : Solo w w2 w1.heap.size w2.heap.size g m _ _ := ⟨hB1.size, hF, below_below hB1 hB⟩
  clear hB1 hB hF
  go_wp2_with fail
  go_loopg [9] 60 (fun q y0 wr => ∃ (i : Nat) (U W : List Int), y0 = .int .i64 i ∧ i ≤ 60 ∧ q = 60 - i ∧ Good U ∧ Solo w wr w1.heap.size w2.heap.size g m U W)
  case atStart => exact ⟨0, _, _, rfl, by omega, by omega, good_zeros _, hD2⟩
  case round =>
    clear hD2
    obtain ⟨i, U, W, rfl, h0, hq, hg, hD⟩ := hrel
    by_cases h1 : i < len
    · have hi1 : (i : Int) < len := by omega
      by_cases h2 : i < 60
      · obtain ⟨b, o, rfl, hc⟩ := hz.at hD.B i h1
        have hi2 : (i : Int) < 60 := by omega
        have hwi := wi_rng (zs.getD i 0) 1099511627776 (by omega)
        go_wp2_with fail
        refine (within_any (zs.getD i 0) 1099511627776 (by omega) (by omega) _).mono ?_
        rintro e w' ⟨rfl, rfl⟩
        go_wp2_with fail
        go_still_tail 12, (by kernel_rfl)
        repeat (first | still_step | (refine wpStill_step (fun K hK => ?_); go_simp; rw [if_neg hmN]; refine ⟨rfl, hK _ ?_⟩; clear hK K))
        try refine wpStill_nil ?_
        change wpList _ _ _ _ _ wr.drew
        have hDd := hD.drew
        clear hD
        generalize wr.drew = wd at hDd ⊢
        go_wp2_with fail
        refine (p_link _ _ _ hDd.F hg).mono ?_
        rintro e w5 ⟨rfl, hL⟩
        have hD5 := hDd.p hL
        clear hDd hL
        go_wp2
        go_roundg (60 - (i + 1))
        case rel => exact ⟨i + 1, _, _, rfl, by omega, rfl, hg.link _ _, hD5⟩
        case measure => omega
      · have hi2 : ¬ (i : Int) < 60 := by omega
        have hlu := hD.F.lu
        have hv0 := wi_rng v m (by omega)
        obtain ⟨ta, tw, tb, ht⟩ : ∃ ta tw tb, leastT U W (wi v m) = (ta, tw, tb) := ⟨_, _, _, rfl⟩
        have hfit := least_fit hg hv0.1 (by omega) ht
        have hlen := way_le hg hv0.1 (by omega)
        have hway := hg.way (wi v m) (by omega) (by omega)
        go_wp2_with fail
        refine (within_any v m (by omega) (by omega) _).mono ?_
        rintro e w' ⟨rfl, rfl⟩
        go_wp2_with fail
        refine (p_least _ hD.F hg).mono ?_
        rintro e w5 ⟨rfl, hL⟩
        have hD5 := hD.p hL
        clear hD hL
        rw [ht]
        go_wp2_with fail
        go_loopg [11, 15, 16] (m + 1) (fun q y1 y2 y3 wx => ∃ (y : Int) (l : List Int) (met : Bool) (k : Nat), y1 = .int .i64 y ∧ y2 = .bool met ∧ y3 = .int .i64 k ∧ q = m + 1 - k ∧ k + l.length ≤ m ∧ 0 ≤ y ∧ Way U y l ∧ Fit W ta tw tb l.dropLast met ∧ Solo w wx w1.heap.size w2.heap.size g m U W)
        case atStart => exact ⟨_, _, false, 0, rfl, rfl, rfl, by omega, by omega, hv0.1, hway, hfit, hD5⟩
        case round =>
          clear hD5 hfit hlen hway
          obtain ⟨y, l, met, k, rfl, rfl, rfl, hq2, hk, hy0, hway, hfit, hD⟩ := hrel
          have hy1 := (hway.mem (x := y) (by obtain ⟨s, rfl, _⟩ := hway.cons hy0; simp)).2
          have hl0 : 0 < l.length := by obtain ⟨s, rfl, _⟩ := hway.cons hy0; simp
          have hkm : (k : Int) < m := by omega
          cases hu : hasUp U y
          · have F := fit_end hway hy0 hu hfit
            clear hfit hway
            rcases F with ⟨rfl, rfl, rfl, rfl⟩ | ⟨rfl, rfl⟩
            · go_wp2_with fail
              refine (p_up _ hD.F hg).mono ?_
              rintro e w' ⟨rfl, rfl⟩
              rw [hu]
              go_wp2_with fail
              refine (p_weight _ hD.F hg).mono ?_
              rintro e w' ⟨rfl, rfl⟩
              rw [hu]
              go_wp2
              go_ret
              exact ⟨rfl, hD.B⟩
            · go_wp2_with fail
              refine (p_up _ hD.F hg).mono ?_
              rintro e w' ⟨rfl, rfl⟩
              rw [hu]
              go_wp2_with fail
              refine (p_weight _ hD.F hg).mono ?_
              rintro e w' ⟨rfl, rfl⟩
              rw [hu]
              go_wp2
              go_ret
              exact ⟨rfl, hD.B⟩
          · obtain ⟨l2, e1, e2, e3, e4, e5, e6⟩ := fit_next hg hway hy0 hy1 hu hfit
            clear hfit hway
            obtain ⟨u, hru⟩ : ∃ u, upA U y = u := ⟨_, rfl⟩
            obtain ⟨x, hrx⟩ : ∃ x, wtA U W y = x := ⟨_, rfl⟩
            rw [hru] at e2 e3
            rw [hrx] at e4 e5 e6
            have hlt : ¬ x < tw := e4
            by_cases hat : y = ta
            · obtain ⟨rfl, rfl, rfl, f3⟩ := e5 hat
              subst hat
              have hb1 : (y == y) = true := by simp
              have hb2 : (x != x) = false := by simp
              go_wp2_with fail
              refine (p_up _ hD.F hg).mono ?_
              rintro e w' ⟨rfl, rfl⟩
              rw [hu, hru]
              go_wp2_with fail
              refine (p_weight _ hD.F hg).mono ?_
              rintro e w' ⟨rfl, rfl⟩
              rw [hu, hrx]
              go_wp2
              go_roundg (m + 1 - (k + 1))
              case rel => exact ⟨u, l2, true, k + 1, rfl, rfl, rfl, rfl, by omega, e2, e3, f3, hD⟩
              case measure => omega
            · obtain ⟨f1, f2⟩ := e6 hat
              have hb1 : (y == ta) = false := by simpa using hat
              cases met
              · go_wp2_with fail
                refine (p_up _ hD.F hg).mono ?_
                rintro e w' ⟨rfl, rfl⟩
                rw [hu, hru]
                go_wp2_with fail
                refine (p_weight _ hD.F hg).mono ?_
                rintro e w' ⟨rfl, rfl⟩
                rw [hu, hrx]
                go_wp2
                go_roundg (m + 1 - (k + 1))
                case rel => exact ⟨u, l2, false, k + 1, rfl, rfl, rfl, rfl, by omega, e2, e3, f2, hD⟩
                case measure => omega
              · have hle : ¬ x ≤ tw := f1 rfl
                go_wp2_with fail
                refine (p_up _ hD.F hg).mono ?_
                rintro e w' ⟨rfl, rfl⟩
                rw [hu, hru]
                go_wp2_with fail
                refine (p_weight _ hD.F hg).mono ?_
                rintro e w' ⟨rfl, rfl⟩
                rw [hu, hrx]
                go_wp2
                go_roundg (m + 1 - (k + 1))
                case rel => exact ⟨u, l2, true, k + 1, rfl, rfl, rfl, rfl, by omega, e2, e3, f2, hD⟩
                case measure => omega
    · have hi1 : ¬ (i : Int) < len := by omega
      have hlu := hD.F.lu
      have hv0 := wi_rng v m (by omega)
      obtain ⟨ta, tw, tb, ht⟩ : ∃ ta tw tb, leastT U W (wi v m) = (ta, tw, tb) := ⟨_, _, _, rfl⟩
      have hfit := least_fit hg hv0.1 (by omega) ht
      have hlen := way_le hg hv0.1 (by omega)
      have hway := hg.way (wi v m) (by omega) (by omega)
      go_wp2_with fail
      refine (within_any v m (by omega) (by omega) _).mono ?_
      rintro e w' ⟨rfl, rfl⟩
      go_wp2_with fail
      refine (p_least _ hD.F hg).mono ?_
      rintro e w5 ⟨rfl, hL⟩
      have hD5 := hD.p hL
      clear hD hL
      rw [ht]
      go_wp2_with fail
      go_loopg [11, 15, 16] (m + 1) (fun q y1 y2 y3 wx => ∃ (y : Int) (l : List Int) (met : Bool) (k : Nat), y1 = .int .i64 y ∧ y2 = .bool met ∧ y3 = .int .i64 k ∧ q = m + 1 - k ∧ k + l.length ≤ m ∧ 0 ≤ y ∧ Way U y l ∧ Fit W ta tw tb l.dropLast met ∧ Solo w wx w1.heap.size w2.heap.size g m U W)
      case atStart => exact ⟨_, _, false, 0, rfl, rfl, rfl, by omega, by omega, hv0.1, hway, hfit, hD5⟩
      case round =>
        clear hD5 hfit hlen hway
        obtain ⟨y, l, met, k, rfl, rfl, rfl, hq2, hk, hy0, hway, hfit, hD⟩ := hrel
        have hy1 := (hway.mem (x := y) (by obtain ⟨s, rfl, _⟩ := hway.cons hy0; simp)).2
        have hl0 : 0 < l.length := by obtain ⟨s, rfl, _⟩ := hway.cons hy0; simp
        have hkm : (k : Int) < m := by omega
        cases hu : hasUp U y
        · have F := fit_end hway hy0 hu hfit
          clear hfit hway
          rcases F with ⟨rfl, rfl, rfl, rfl⟩ | ⟨rfl, rfl⟩
          · go_wp2_with fail
            refine (p_up _ hD.F hg).mono ?_
            rintro e w' ⟨rfl, rfl⟩
            rw [hu]
            go_wp2_with fail
            refine (p_weight _ hD.F hg).mono ?_
            rintro e w' ⟨rfl, rfl⟩
            rw [hu]
            go_wp2
            go_ret
            exact ⟨rfl, hD.B⟩
          · go_wp2_with fail
            refine (p_up _ hD.F hg).mono ?_
            rintro e w' ⟨rfl, rfl⟩
            rw [hu]
            go_wp2_with fail
            refine (p_weight _ hD.F hg).mono ?_
            rintro e w' ⟨rfl, rfl⟩
            rw [hu]
            go_wp2
            go_ret
            exact ⟨rfl, hD.B⟩
        · obtain ⟨l2, e1, e2, e3, e4, e5, e6⟩ := fit_next hg hway hy0 hy1 hu hfit
          clear hfit hway
          obtain ⟨u, hru⟩ : ∃ u, upA U y = u := ⟨_, rfl⟩
          obtain ⟨x, hrx⟩ : ∃ x, wtA U W y = x := ⟨_, rfl⟩
          rw [hru] at e2 e3
          rw [hrx] at e4 e5 e6
          have hlt : ¬ x < tw := e4
          by_cases hat : y = ta
          · obtain ⟨rfl, rfl, rfl, f3⟩ := e5 hat
            subst hat
            have hb1 : (y == y) = true := by simp
            have hb2 : (x != x) = false := by simp
            go_wp2_with fail
            refine (p_up _ hD.F hg).mono ?_
            rintro e w' ⟨rfl, rfl⟩
            rw [hu, hru]
            go_wp2_with fail
            refine (p_weight _ hD.F hg).mono ?_
            rintro e w' ⟨rfl, rfl⟩
            rw [hu, hrx]
            go_wp2
            go_roundg (m + 1 - (k + 1))
            case rel => exact ⟨u, l2, true, k + 1, rfl, rfl, rfl, rfl, by omega, e2, e3, f3, hD⟩
            case measure => omega
          · obtain ⟨f1, f2⟩ := e6 hat
            have hb1 : (y == ta) = false := by simpa using hat
            cases met
            · go_wp2_with fail
              refine (p_up _ hD.F hg).mono ?_
              rintro e w' ⟨rfl, rfl⟩
              rw [hu, hru]
              go_wp2_with fail
              refine (p_weight _ hD.F hg).mono ?_
              rintro e w' ⟨rfl, rfl⟩
              rw [hu, hrx]
              go_wp2
              go_roundg (m + 1 - (k + 1))
              case rel => exact ⟨u, l2, false, k + 1, rfl, rfl, rfl, rfl, by omega, e2, e3, f2, hD⟩
              case measure => omega
            · have hle : ¬ x ≤ tw := f1 rfl
              go_wp2_with fail
              refine (p_up _ hD.F hg).mono ?_
              rintro e w' ⟨rfl, rfl⟩
              rw [hu, hru]
              go_wp2_with fail
              refine (p_weight _ hD.F hg).mono ?_
              rintro e w' ⟨rfl, rfl⟩
              rw [hu, hrx]
              go_wp2
              go_roundg (m + 1 - (k + 1))
              case rel => exact ⟨u, l2, true, k + 1, rfl, rfl, rfl, rfl, by omega, e2, e3, f2, hD⟩
              case measure => omega
end Go.Proofs.Ytjicapkhlfbgjaa
