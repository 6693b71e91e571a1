/- The walk of GaugeOrder. -/
import Derived.Test.YtpggfgkajkgcoaaDoorG12
set_option linter.unusedVariables false
set_option linter.unusedSimpArgs false
namespace Go.Proofs.YtpggfgkajkgcoaaDoor
open Go.RowKit

theorem fless_asym {a b : Nat} (h : fless a b = true) : fless b a = false := by
  unfold fless at *
  have := of_decide_eq_true h
  exact decide_eq_false (by omega)
theorem fless_trans {a b c : Nat} (h : fless a b = true) (k : fless b c = true) : fless a c = true := by
  unfold fless at *
  have h := of_decide_eq_true h
  have k := of_decide_eq_true k
  exact decide_eq_true (by omega)
set_option maxHeartbeats 6400000 in
set_option maxRecDepth 100000 in
theorem gorder_walk (a b c : Nat) (k n m : Int) (ha : a < 18446744073709551616) (hb : b < 18446744073709551616) (hc : c < 18446744073709551616) (w : World) (ht : Tab w) : Calls Tryd.prog 3 #[.float .f64 a, .float .f64 b, .float .f64 c, .int .i64 k, .int .i64 n, .int .i64 m] w fun e w' => e = .returned (.bool true) ∧ Below w.heap.size w w' := by
  have KN := known_any w ht
  clear ht
  go_enter Tryd.func3, Tryd.ntmps3
  go_wp2_with fail
  refine KN.mono ?_
  rintro e w1 ⟨rfl, B1⟩
  clear KN
  go_wp2_with fail
  refine (real_any k n m _).mono ?_
  rintro e w2 ⟨x, rfl, B2, lx, _⟩
  have BB := below_below B1 B2
  clear B1 B2
  go_wp2_with fail
  refine (real_any _ m n _).mono ?_
  rintro e w3 ⟨y, rfl, B3, ly, _⟩
  have BB := below_below BB B3
  clear B3
  obtain ⟨L, hL⟩ : ∃ L, [a, b, c, x, y] = L := ⟨_, rfl⟩
  have hl5 := Bx.mk (show L.length = 5 from by rw [← hL]; rfl)
  have LW := Bx.mk (show FW L from by
    intro i
    rcases fd_mem_or (D := L) i with h | h
    · rw [← hL] at h
      simp at h
      rw [← hL]
      rcases h with h | h | h | h | h <;> rw [h] <;> assumption
    · rw [h]; omega)
  have RR := frow_new w3 L
  have BB4 := below_alloc BB (.cells (flts L).toArray 22)
  rw [← hL] at RR BB4
  have RR := show FRow (w3.alloc (.cells #[.float .f64 a, .float .f64 b, .float .f64 c, .float .f64 x, .float .f64 y] 22)) _ _ from RR
  have BB4 := show Below w.heap.size w (w3.alloc (.cells #[.float .f64 a, .float .f64 b, .float .f64 c, .float .f64 x, .float .f64 y] 22)) from BB4
  rw [hL] at RR
  go_upto_region 4 with fail
  generalize w3.alloc _ = w4 at RR BB4 ⊢
  generalize w3.heap.size = g at RR ⊢
  clear BB hL lx ly
  have CE := Bx.mk (fun (W : World) (hW : Below w4.heap.size w4 W) (i : Int) (h0 : 0 ≤ i) (h1 : i < 5) => (show W.cell? ⟨g, i.toNat, none⟩ = some (.float .f64 (fd L i)) from by
    obtain ⟨b, o, e, _, h⟩ := (RR.keep hW) i h0 (by rw [hl5.out]; exact h1)
    obtain ⟨rfl, rfl⟩ : g = b ∧ 0 = o := by simpa using e
    rw [Nat.zero_add] at h
    exact h))
  clear RR
  go_wp2
  go_loopg [14] 6 (fun q y wr => ∃ i : Nat, y = .int .i64 i ∧ q = 6 - i ∧ i ≤ 5 ∧ Below w4.heap.size w4 wr)
  case atStart => exact ⟨0, rfl, by omega, by omega, Below.refl _ _⟩
  case round =>
    obtain ⟨i, rfl, hq, hi, BI⟩ := hrel
    by_cases hin : i < 5
    · have hI : (i : Int) < 5 := by omega
      obtain ⟨u, hu⟩ : ∃ u, fd L i = u := ⟨_, rfl⟩
      have lu := LW.out i
      have CU := Bx.mk (fun (W : World) (hW : Below w4.heap.size w4 W) => (show W.cell? ⟨g, i, none⟩ = some (.float .f64 u) from by
        have := CE.out W hW i (by omega) hI
        rw [Int.toNat_natCast, hu] at this
        exact this))
      rw [hu] at lu
      clear hu
      go_wp2
      go_loopg [15] 6 (fun q y wr => ∃ j : Nat, y = .int .i64 j ∧ q = 6 - j ∧ j ≤ 5 ∧ Below w4.heap.size w4 wr)
      case atStart => exact ⟨0, rfl, by omega, by omega, BI⟩
      case round =>
        clear BI
        obtain ⟨j, rfl, hq2, hj, BJ⟩ := hrel
        by_cases hjn : j < 5
        · have hJ : (j : Int) < 5 := by omega
          obtain ⟨v, hv⟩ : ∃ v, fd L j = v := ⟨_, rfl⟩
          have lv := LW.out j
          have CV := Bx.mk (fun (W : World) (hW : Below w4.heap.size w4 W) => (show W.cell? ⟨g, j, none⟩ = some (.float .f64 v) from by
            have := CE.out W hW j (by omega) hJ
            rw [Int.toNat_natCast, hv] at this
            exact this))
          rw [hv] at lv
          clear hv
          have c1 := CU.out _ BJ
          have c2 := CV.out _ BJ
          go_upto_region 10 with fail
          go_quiet ((go_at_call 16; refine (less_any _ _ (by assumption) (by assumption) _).mono ?_; rintro e w' ⟨rfl, rfl⟩; exact ⟨rfl, _, rfl⟩))
          have BJ2 := belowB_drewN BJ nq
          clear BJ c1 c2
          generalize wr.drewN nq = wz at BJ2 ⊢
          have c1 := CU.out _ BJ2
          have c2 := CV.out _ BJ2
          have RL := fun w => rless_any u v lu lv w
          have NL := fun w => less_any v u lv lu w
          have FT := Bx.mk (fun x (h1 : fless u v = true) (h2 : fless v x = true) => fless_trans h1 h2)
          cases hs : fless u v
          · rw [hs] at RL
            clear hs FT NL
            go_upto_region 11 with fail
            go_quiet ((go_at_call 17; refine (RL _).mono ?_; rintro e w' ⟨rfl, rfl⟩; exact ⟨rfl, _, rfl⟩))
            have BJ3 := belowB_drewN BJ2 nq
            clear BJ2 c1 c2 RL
            generalize wz.drewN nq = wy at BJ3 ⊢
            go_wp2
            go_loopg [17] 6 (fun q y wr => ∃ h : Nat, y = .int .i64 h ∧ q = 6 - h ∧ h ≤ 5 ∧ Below w4.heap.size w4 wr)
            case atStart => exact ⟨0, rfl, by omega, by omega, BJ3⟩
            case round =>
              clear BJ3
              obtain ⟨h, rfl, hq3, hh, BH⟩ := hrel
              by_cases hhn : h < 5
              · have hH : (h : Int) < 5 := by omega
                go_upto_region 16 with fail
                go_quiet (fail)
                go_wp2
                go_roundg (6 - (h + 1))
                case rel => exact ⟨h + 1, rfl, by omega, by omega, belowB_drewN BH _⟩
                case measure => omega
              · have hH : ¬ (h : Int) < 5 := by omega
                go_wp2
                go_roundg (6 - (j + 1))
                case rel => exact ⟨j + 1, rfl, by omega, by omega, BH⟩
                case measure => omega
          · rw [hs] at RL
            have ns := fless_asym hs
            rw [ns] at NL
            have HS := Bx.mk hs
            clear hs ns
            go_upto_region 11 with fail
            go_quiet ((first | (go_at_call 17; refine (RL _).mono ?_; rintro e w' ⟨rfl, rfl⟩; exact ⟨rfl, _, rfl⟩) | (go_at_call 16; refine (NL _).mono ?_; rintro e w' ⟨rfl, rfl⟩; exact ⟨rfl, _, rfl⟩)))
            have BJ3 := belowB_drewN BJ2 nq
            clear BJ2 c1 c2 RL NL
            generalize wz.drewN nq = wy at BJ3 ⊢
            go_wp2
            go_loopg [17] 6 (fun q y wr => ∃ h : Nat, y = .int .i64 h ∧ q = 6 - h ∧ h ≤ 5 ∧ Below w4.heap.size w4 wr)
            case atStart => exact ⟨0, rfl, by omega, by omega, BJ3⟩
            case round =>
              clear BJ3
              obtain ⟨h, rfl, hq3, hh, BH⟩ := hrel
              by_cases hhn : h < 5
              · have hH : (h : Int) < 5 := by omega
                have c1 := CU.out _ BH
                have c2 := CV.out _ BH
                obtain ⟨x, hx⟩ : ∃ x, fd L h = x := ⟨_, rfl⟩
                have lx := LW.out h
                have c3 := CE.out _ BH h (by omega) hH
                rw [Int.toNat_natCast, hx] at c3
                rw [hx] at lx
                clear hx
                have VX := fun w => less_any v x lv lx w
                have UX := fun w => less_any u x lu lx w
                cases ht : fless v x
                · rw [ht] at VX
                  clear ht UX
                  go_upto_region 16 with fail
                  go_quiet ((go_at_call 16; refine (VX _).mono ?_; rintro e w' ⟨rfl, rfl⟩; exact ⟨rfl, _, rfl⟩))
                  go_wp2
                  go_roundg (6 - (h + 1))
                  case rel => exact ⟨h + 1, rfl, by omega, by omega, belowB_drewN BH _⟩
                  case measure => omega
                · rw [ht] at VX
                  rw [FT.out x HS.out ht] at UX
                  clear ht
                  go_upto_region 16 with fail
                  go_quiet ((first | (go_at_call 16; with_reducible refine (VX _).mono ?_; rintro e w' ⟨rfl, rfl⟩; exact ⟨rfl, _, rfl⟩) | (go_at_call 16; with_reducible refine (UX _).mono ?_; rintro e w' ⟨rfl, rfl⟩; exact ⟨rfl, _, rfl⟩)))
                  go_wp2
                  go_roundg (6 - (h + 1))
                  case rel => exact ⟨h + 1, rfl, by omega, by omega, belowB_drewN BH _⟩
                  case measure => omega
              · have hH : ¬ (h : Int) < 5 := by omega
                go_wp2
                go_roundg (6 - (j + 1))
                case rel => exact ⟨j + 1, rfl, by omega, by omega, BH⟩
                case measure => omega
        · have hJ : ¬ (j : Int) < 5 := by omega
          go_wp2
          go_roundg (6 - (i + 1))
          case rel => exact ⟨i + 1, rfl, by omega, by omega, BJ⟩
          case measure => omega
    · have hI : ¬ (i : Int) < 5 := by omega
      go_wp2
      go_ret
      exact ⟨rfl, below_below BB4 BI⟩
end Go.Proofs.YtpggfgkajkgcoaaDoor
