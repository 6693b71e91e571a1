/- The document's Check, of a round: all is well. -/
import Derived.Test.YtjeddcijefnbfaaKq
set_option linter.unusedVariables false
set_option linter.unusedSimpArgs false
namespace Go.Proofs.Ytjeddcijefnbfaa
open Go.RowKit

theorem cC_length (k : Nat) : (cC k).length = 2 * k := by simp [cC]
theorem rd_cC (k : Nat) (i : Int) : rd (cC k) i = 0 := rd_zeros _ _
set_option maxHeartbeats 6400000 in
set_option maxRecDepth 100000 in
theorem check_any {k : Nat} {aT aX aC : Option Addr} {kT kX kC : Nat} {w : World} (R : Round k) (h3 : 3 ≤ k) (h11 : k ≤ 11) (hT : RowOf w aT (cT k)) (hX : RowOf w aX (cX k)) (hC : RowOf w aC (cC k)) :
    Calls Try.prog 28 #[.agg #[.int .i64 k, .slice aT (2 * k) kT, .slice aX (2 * k) kX, .slice aC (2 * k) kC]] w fun e w' => e = .returned (.int .i64 0) ∧ Below w.heap.size w w' := by
  have TU := fun W (h : Below w.heap.size w W) => turns_any (N := k) (aC := aC) (kT := kT) (kX := kX) (kC := kC) R h3 h11 (hT.keep h) (hX.keep h)
  have PA := fun W (h : Below w.heap.size w W) => parts_any (aX := aX) (aC := aC) (kT := kT) (kX := kX) (kC := kC) R h3 h11 (hT.keep h)
  have FA := fun W (h : Below w.heap.size w W) => faces_any (w := W) (N := k) (aT := aT) (aX := aX) (aC := aC) (cT := kT) (cX := kX) (cC := kC) (T := cT k) (X := cX k) (C := cC k) (hX.keep h) (by rw [R.lT, R.lX]) (by rw [R.lX]; omega) (by rw [R.lX]; omega) (rings_of R.perm (by rw [R.lX]; omega) (by rw [R.lX]; omega))
  rw [R.faces h3, R.lT, R.lX, cC_length] at FA
  obtain ⟨n, hn⟩ : ∃ n, 2 * k = n := ⟨_, rfl⟩
  have hn0 : 6 ≤ n := by omega
  have hn1 : n ≤ 22 := by omega
  obtain ⟨bT, oT, rfl, hcT⟩ := hT.spot (by rw [R.lT]; omega)
  obtain ⟨bX, oX, rfl, hcX⟩ := hX.spot (by rw [R.lX]; omega)
  obtain ⟨bC, oC, rfl, hcC⟩ := hC.spot (by rw [cC_length]; omega)
  have lT := R.lT
  have lX := R.lX
  have lC := cC_length k
  have zC := rd_cC k
  rw [hn] at lT lX lC TU PA FA ⊢
  obtain ⟨T, hTT⟩ : ∃ T, cT k = T := ⟨_, rfl⟩
  obtain ⟨X, hXX⟩ : ∃ X, cX k = X := ⟨_, rfl⟩
  obtain ⟨C, hCC⟩ : ∃ C, cC k = C := ⟨_, rfl⟩
  rw [hTT] at hcT lT
  rw [hXX] at hcX lX
  rw [hCC] at hcC lC zC
  have t0 := Bx.mk (fun (d : Int) (h0 : 0 ≤ d) (h1 : d < n) => (by have := R.t0 d h0 (by omega); rw [hTT] at this; exact this : 0 ≤ rd T d ∧ rd T d < k))
  have x0 := Bx.mk (fun (d : Int) (h0 : 0 ≤ d) (h1 : d < n) => (by have := R.x0 d h0 (by omega); rw [hXX, hn] at this; exact this : 0 ≤ rd X d ∧ rd X d < n))
  have HCT := Bx.mk (fun w' (hb : Below w.heap.size w w') (i : Int) (h0 : 0 ≤ i) (h1 : i < n) => hcT w' hb i h0 (by omega))
  have HCX := Bx.mk (fun w' (hb : Below w.heap.size w w') (i : Int) (h0 : 0 ≤ i) (h1 : i < n) => hcX w' hb i h0 (by omega))
  have HCC := Bx.mk (fun w' (hb : Below w.heap.size w w') (i : Int) (h0 : 0 ≤ i) (h1 : i < n) => (by have := hcC w' hb i h0 (by omega); rw [zC] at this; exact this : w'.cell? ⟨bC, oC + i.toNat, none⟩ = some (.int .i64 0)))
  have HNK := Bx.mk hn
  have PAR := Bx.mk (show (n : Int) % 2 = 0 from by omega)
  have e2 : ((n : Int) % 2 == 1) = false := beq_false_of_ne (by omega)
  have e2' : ((n : Int).tmod 2 == 1) = false := beq_false_of_ne (by rw [Int.tmod_eq_emod_of_nonneg (by omega)]; omega)
  have QD := Bx.mk (show ((n : Int) / 2) = k from by omega)
  clear hTT hXX hCC hcT hcX hcC hT hX hC R hn lT lX lC zC
  have hB := below_alloc (Below.refl w.heap.size w) (.cells #[.int .i64 k, .slice (some ⟨bT, oT, none⟩) n kT, .slice (some ⟨bX, oX, none⟩) n kX, .slice (some ⟨bC, oC, none⟩) n kC] 25)
  have hbox := box_new w #[.int .i64 k, .slice (some ⟨bT, oT, none⟩) n kT, .slice (some ⟨bX, oX, none⟩) n kX, .slice (some ⟨bC, oC, none⟩) n kC] 25
  go_enter Try.func28, Try.ntmps28
  go_upto_region 1 with fail
  generalize w.alloc _ = wa at hB hbox ⊢
  generalize w.heap.size = b at hbox ⊢
  have HK := Bx.mk (fun W (h : Below wa.heap.size wa W) => (⟨(hbox.keep h).cell 0, (hbox.keep h).cell 1, (hbox.keep h).cell 2, (hbox.keep h).cell 3⟩ : W.cell? ⟨b, 0, none⟩ = some (.int .i64 k) ∧ W.cell? ⟨b, 1, none⟩ = some (.slice (some ⟨bT, oT, none⟩) n kT) ∧ W.cell? ⟨b, 2, none⟩ = some (.slice (some ⟨bX, oX, none⟩) n kX) ∧ W.cell? ⟨b, 3, none⟩ = some (.slice (some ⟨bC, oC, none⟩) n kC)))
  have HBW := Bx.mk (fun W (h : Below wa.heap.size wa W) => below_below hB h)
  clear hbox
  obtain ⟨k0, k1, k2, k3⟩ := HK.out wa (Below.refl _ _)
  go_wp2
  go_loopg [4] (n + 1) (fun q y wr => ∃ d : Nat, y = .int .i64 d ∧ q = n + 1 - d ∧ d ≤ n ∧ Below wa.heap.size wa wr)
  case atStart => exact ⟨0, rfl, by omega, by omega, Below.refl _ _⟩
  case round =>
    clear k0 k1 k2 k3
    obtain ⟨d, rfl, hq, hd, BW⟩ := hrel
    obtain ⟨k0, k1, k2, k3⟩ := HK.out _ BW
    by_cases hdn : d < n
    · have hD : (d : Int) < n := by omega
      have cx := HCX.out _ (HBW.out _ BW) d (by omega) hD
      have xx := x0.out d (by omega) hD
      rw [Int.toNat_natCast] at cx
      have x00 := xx.1
      have x01 := xx.2
      obtain ⟨x, hx⟩ : ∃ x, rd X d = x := ⟨_, rfl⟩
      rw [hx] at cx x00 x01
      clear hx xx
      go_wp2
      go_roundg (n + 1 - (d + 1))
      case rel => exact ⟨d + 1, rfl, by omega, by omega, BW⟩
      case measure => omega
    · have hD : ¬ (d : Int) < n := by omega
      go_wp2
      go_loopg [5] (n + 1) (fun q y wr => ∃ d : Nat, y = .int .i64 d ∧ q = n + 1 - d ∧ d ≤ n ∧ Below wa.heap.size wa wr)
      case atStart => exact ⟨0, rfl, by omega, by omega, BW⟩
      case round =>
        clear k0 k1 k2 k3 BW hd hq hdn hD
        obtain ⟨d, rfl, hq, hd, BW⟩ := hrel
        obtain ⟨k0, k1, k2, k3⟩ := HK.out _ BW
        by_cases hdn : d < n
        · have hD : (d : Int) < n := by omega
          have ct := HCT.out _ (HBW.out _ BW) d (by omega) hD
          have tt := t0.out d (by omega) hD
          rw [Int.toNat_natCast] at ct
          obtain ⟨t, ht⟩ : ∃ t, rd T d = t := ⟨_, rfl⟩
          rw [ht] at ct tt
          have g1 : decide (t < 0) = false := decide_eq_false (by omega)
          have g2 : decide (t ≥ (k : Int)) = false := decide_eq_false (by omega)
          have g3 : decide ((k : Int) ≤ t) = false := decide_eq_false (by omega)
          clear ht tt
          go_upto_region 16 with fail
          go_quiet (fail)
          go_wp2
          go_roundg (n + 1 - (d + 1))
          case rel => exact ⟨d + 1, rfl, by omega, by omega, below_drewN BW _⟩
          case measure => omega
        · have hD : ¬ (d : Int) < n := by omega
          have TU2 := TU _ (HBW.out _ BW)
          go_wp2_with fail
          refine TU2.mono ?_
          rintro e w2 ⟨rfl, B2⟩
          have BW := below_below BW B2
          clear TU2 B2 k0 k1 k2 k3
          obtain ⟨k0, k1, k2, k3⟩ := HK.out _ BW
          go_wp2
          go_loopg [6] (n + 1) (fun q y wr => ∃ d : Nat, y = .int .i64 d ∧ q = n + 1 - d ∧ d ≤ n ∧ Below wa.heap.size wa wr)
          case atStart => exact ⟨0, rfl, by omega, by omega, BW⟩
          case round =>
            clear k0 k1 k2 k3 BW hd hq hdn hD
            obtain ⟨d, rfl, hq, hd, BW⟩ := hrel
            obtain ⟨k0, k1, k2, k3⟩ := HK.out _ BW
            by_cases hdn : d < n
            · have hD : (d : Int) < n := by omega
              have cc := HCC.out _ (HBW.out _ BW) d (by omega) hD
              rw [Int.toNat_natCast] at cc
              go_wp2
              go_roundg (n + 1 - (d + 1))
              case rel => exact ⟨d + 1, rfl, by omega, by omega, BW⟩
              case measure => omega
            · have hD : ¬ (d : Int) < n := by omega
              have PA2 := PA _ (HBW.out _ BW)
              go_wp2_with fail
              refine PA2.mono ?_
              rintro e w2 ⟨⟨v, rfl⟩, B2⟩
              have BW := below_below BW B2
              clear PA2 B2 k0 k1 k2 k3
              obtain ⟨k0, k1, k2, k3⟩ := HK.out _ BW
              have FA2 := FA _ (HBW.out _ BW)
              go_wp2_with fail
              refine FA2.mono ?_
              rintro e w3 ⟨v2, rfl, _, B2⟩
              have BW := below_below BW B2
              clear FA2 B2 k0 k1 k2 k3
              obtain ⟨k0, k1, k2, k3⟩ := HK.out _ BW
              have BF := Bx.mk (HBW.out _ BW)
              have y3 : max (2 : Int) 1 = 2 := by decide
              have y1 := QD.out
              have y2 : ((k : Int) - k + 2 != 2) = false := by simp
              go_wp2
              go_ret
              exact ⟨rfl, BF.out⟩
end Go.Proofs.Ytjeddcijefnbfaa
