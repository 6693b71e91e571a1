/- The walk of LinkRows: it returns true, and writes nothing that was there. -/
import Derived.Test.YtjicapkhlfbgjaaCh
import Derived.Deep.CutRange
set_option linter.unusedVariables false
namespace Go.Proofs.Ytjicapkhlfbgjaa
open Go.RowKit

theorem bit_yes (w : World) : Calls Try.prog 26 #[.bool true] w fun e w' => e = .returned (.int .i64 1) ∧ w = w' := by
  go_enter Try.func26, Try.ntmps26
  go_wp2
  go_ret
  exact ⟨rfl, rfl⟩
theorem bit_no (w : World) : Calls Try.prog 26 #[.bool false] w fun e w' => e = .returned (.int .i64 0) ∧ w = w' := by
  go_enter Try.func26, Try.ntmps26
  go_wp2
  go_ret
  exact ⟨rfl, rfl⟩
theorem Solo.alloc {w0 w : World} {lo hi f n : Nat} {U W : List Int} (h : Solo w0 w lo hi f n U W) (o : Obj) : Solo w0 (w.alloc o) lo hi f n U W := by
  obtain ⟨_, _, _, _, k⟩ := h.F
  have hle : lo ≤ hi := by have := k.ge.1; have := k.lt.1; omega
  exact ⟨h.ge, h.F.other ((Rng.refl hi hi _).alloc o) (.inl (Nat.le_refl _)), h.B.trans (((Rng.refl hi hi _).alloc o).below (Nat.le_trans h.ge hle) h.B.size)⟩

set_option maxHeartbeats 12800000 in
set_option maxRecDepth 10000 in
theorem rows_walk (x0 v : Int) (a : Option Addr) (len cap : Nat) (zs : List Int) (w : World) (hz : RowOf w a len zs) :
    Calls Try.prog 6 #[.slice a len cap, .int .i64 x0, .int .i64 v] w fun e w' => e = .returned (.bool true) ∧ Below w.heap.size w w' := by
  obtain ⟨m, hm⟩ : ∃ m : Nat, m = min len 40 + 1 := ⟨_, rfl⟩
  have hm0 : 0 < m := by omega
  have hm1 : m ≤ 41 := by omega
  have hml : m ≤ len + 1 := by omega
  have HM := Bx.mk hm
  clear hm
  go_enter Try.func6, Try.ntmps6
  go_upto_region 3 with (go_at_call 12; refine (known_any _).mono ?_; rintro e w1 ⟨rfl, hB1⟩)
  go_cut [7] from 21 to 24 (fun s7 wx => s7 = .int .i64 m ∧ wx = w1)
  case first =>
    have hm := HM.out
    by_cases hl : len ≤ 40
    · have hl1 : (len : Int) ≤ 40 := by omega
      have hlm : (len : Int) + 1 = (m : Int) := by omega
      clear hm
      go_wp2
      go_meet
      case rel => exact ⟨by first | rfl | (congr 1; omega), rfl⟩
    · have hl1 : ¬ (len : Int) ≤ 40 := by omega
      obtain rfl : m = 41 := by omega
      clear hm
      go_wp2
      go_meet
      case rel => exact ⟨by first | rfl | (congr 1; omega), rfl⟩
  case rest =>
    obtain ⟨rfl, rfl⟩ := hcut
    go_wp2_with fail
    refine (p_new m m (by omega) _).mono ?_
    rintro e w2 ⟨g, rfl, hF, hB⟩
    have hD2 : Solo w w2 wc.heap.size w2.heap.size g m _ _ := ⟨hB1.size, hF, below_below hB1 hB⟩
    clear hB1 hB hF
    go_wp2_with fail
    go_loopg [9] (m + 1) (fun q y0 wx => ∃ (i : Int) (U W : List Int), y0 = .int .i64 i ∧ 1 ≤ i ∧ i ≤ m ∧ (q : Int) = m + 2 - i ∧ Chain m zs U W i ∧ Solo w wx wc.heap.size w2.heap.size g m U W)
    case atStart => exact ⟨1, _, _, rfl, by omega, by omega, by omega, chain_start m zs, hD2⟩
    case round =>
      clear hD2
      obtain ⟨i, U, W, rfl, h0, h1, hq, hC, hD⟩ := hrel
      by_cases h2 : i < m
      · obtain ⟨j, hj⟩ : ∃ j : Nat, i = (j : Int) + 1 := ⟨(i - 1).toNat, by omega⟩
        subst hj
        obtain ⟨b, o, rfl, hc⟩ := hz.at hD.B j (by omega)
        have hx := wi_rng (zs.getD j 0) 100 (by omega)
        have hjl : (j : Int) < len := by omega
        obtain ⟨T1, hC2⟩ := hC.next h0 h2
        have ej : ((j : Int) + 1) - 1 = j := by omega
        have et : (((j : Int) + 1) - 1).toNat = j := by omega
        rw [et, ej] at hC2
        rw [ej] at T1
        go_wp2_with fail
        refine (within_any (zs.getD j 0) 100 (by omega) (by omega) _).mono ?_
        rintro e w' ⟨rfl, rfl⟩
        go_wp2_with fail
        refine (p_link _ _ _ hD.F hC.good).mono ?_
        rintro e w5 ⟨rfl, hL⟩
        rw [T1]
        have hD5 := hD.p hL
        clear hD hL
        go_wp2
        go_roundg (m - j)
        case rel => exact ⟨(j : Int) + 1 + 1, _, _, rfl, by omega, by omega, by omega, hC2, hD5⟩
        case measure => omega
      · obtain rfl : i = m := by omega
        obtain ⟨ta, tw, tb, ht⟩ : ∃ ta tw tb, leastT U W ((m : Int) - 1) = (ta, tw, tb) := ⟨_, _, _, rfl⟩
        have hls := hC.least rfl hm0 ht
        go_wp2_with fail
        refine (p_least _ hD.F hC.good).mono ?_
        rintro e w5 ⟨rfl, hL⟩
        rw [ht]
        have hD5 := hD.p hL
        clear hD hL
        rcases hls with ⟨rfl, rfl⟩ | ⟨hm2, rfl, hfa⟩
        · go_wp2_with fail
          go_loopg [13] 1 (fun q y0 wx => y0 = .int .i64 1 ∧ Solo w wx wc.heap.size w2.heap.size g 1 U W)
          case atStart => exact ⟨rfl, hD5⟩
          case round =>
            clear hD5
            obtain ⟨rfl, hD⟩ := hrel
            go_wp2
            go_ret
            exact ⟨rfl, hD.B⟩
        · have hm2I : (m : Int) > 1 := by omega
          have FA := Bx.mk hfa
          clear hfa
          go_wp2_with fail
          go_loopg [13] m (fun q y0 wx => ∃ j : Nat, y0 = .int .i64 ((j : Int) + 1) ∧ j + 1 ≤ m ∧ q = m - j ∧ Solo w wx wc.heap.size w2.heap.size g m U W)
          case atStart => exact ⟨0, rfl, by omega, by omega, hD5⟩
          case round =>
            clear hD5
            obtain ⟨j, rfl, hj, hq2, hD⟩ := hrel
            by_cases h3 : j + 1 < m
            · obtain ⟨b, o, rfl, hc⟩ := hz.at hD.B j (by omega)
              have hjl : (j : Int) < len := by omega
              have hjm : (j : Int) + 1 < m := by omega
              obtain ⟨A1, A2⟩ := FA.out ((j : Int) + 1) (by omega) hjm
              have et : (((j : Int) + 1) - 1).toNat = j := by omega
              rw [et] at A1 A2
              have B1 : ¬ wi (zs.getD j 0) 100 < tw := by omega
              by_cases h4 : wi (zs.getD j 0) 100 = tw
              · have B2 : (wi (zs.getD j 0) 100 == tw) = true := by simpa using h4
                have B3 : ¬ (j : Int) + 1 < ta := fun k => by have := A2 k; omega
                clear A1 A2 h4
                go_wp2_with fail
                refine (within_any (zs.getD j 0) 100 (by omega) (by omega) _).mono ?_
                rintro e w' ⟨rfl, rfl⟩
                obtain ⟨x, hx⟩ : ∃ x, wi (zs.getD j 0) 100 = x := ⟨_, rfl⟩
                rw [hx] at B1 B2 ⊢
                go_wp2
                go_roundg (m - (j + 1))
                case rel => exact ⟨j + 1, by first | rfl | (congr 1; omega), by omega, rfl, hD⟩
                case measure => omega
              · have B2 : (wi (zs.getD j 0) 100 == tw) = false := by simpa using h4
                clear A1 A2 h4
                go_wp2_with fail
                refine (within_any (zs.getD j 0) 100 (by omega) (by omega) _).mono ?_
                rintro e w' ⟨rfl, rfl⟩
                obtain ⟨x, hx⟩ : ∃ x, wi (zs.getD j 0) 100 = x := ⟨_, rfl⟩
                rw [hx] at B1 B2 ⊢
                go_wp2
                go_roundg (m - (j + 1))
                case rel => exact ⟨j + 1, by first | rfl | (congr 1; omega), by omega, rfl, hD⟩
                case measure => omega
            · have hjm : ¬ (j : Int) + 1 < m := by omega
              by_cases h5 : m < 3
              · have h5I : (m : Int) < 3 := by omega
                go_wp2
                go_ret
                exact ⟨rfl, hD.B⟩
              · have h5I : ¬ (m : Int) < 3 := by omega
                have ht0 := wi_rng v m (by omega)
                have hc0 := wi_rng x0 m (by omega)
                obtain ⟨t, htt⟩ : ∃ t, wi v m = t := ⟨_, rfl⟩
                obtain ⟨c, hcc⟩ : ∃ c, wi x0 m = c := ⟨_, rfl⟩
                rw [htt] at ht0
                rw [hcc] at hc0
                have HT := hC.root0 rfl ht0.1 ht0.2
                have HU := hC.turned rfl ht0.1 ht0.2
                go_wp2_with fail
                refine (within_any v m (by omega) (by omega) _).mono ?_
                rintro e w' ⟨rfl, rfl⟩
                rw [htt]
                go_wp2_with fail
                refine (p_turn _ hD.F hC.good).mono ?_
                rintro e w6 ⟨rfl, hL⟩
                have hD6 := hD.p hL
                clear hD hL
                go_wp2_with fail
                refine (within_any x0 m (by omega) (by omega) _).mono ?_
                rintro e w' ⟨rfl, rfl⟩
                rw [hcc]
                by_cases hct : c = t
                · subst hct
                  have hb : (c == c) = true := by simp
                  go_wp2_with fail
                  refine (p_cut_no c 7 hD6.F (hC.good.turned _) HT.1 (by decide)).mono ?_
                  rintro e w7 ⟨rfl, hL⟩
                  have hD7 := hD6.p hL
                  clear hD6 hL
                  go_wp2_with fail
                  refine (p_root 0 hD7.F (hC.good.turned _)).mono ?_
                  rintro e w' ⟨rfl, rfl⟩
                  rw [HT.2]
                  go_wp2
                  go_ret
                  exact ⟨rfl, hD7.B⟩
                · have hb : (c == t) = false := by simpa using hct
                  obtain ⟨T1, T2⟩ := parted (m := m) (by rw [turnedU_length, hC.lu]) ht0.1 ht0.2 hc0.1 hc0.2 hct HU
                  have TT := Bx.mk T2
                  clear HU HT T2
                  go_wp2_with fail
                  refine (p_cut c hD6.F (hC.good.turned _)).mono ?_
                  rintro e w7 ⟨rfl, hL⟩
                  rw [T1]
                  have hD7 := hD6.p hL
                  clear hD6 hL
                  go_wp2_with fail
                  go_loopg [17] (m + 1) (fun q y0 wx => ∃ k : Nat, y0 = .int .i64 k ∧ k ≤ m ∧ q = m + 1 - k ∧ Solo w wx wc.heap.size w2.heap.size g m (cutU (turnedU U t) c) (cutW (turnedU U t) (turnedW U W t) c))
                  case atStart => exact ⟨0, rfl, by omega, by omega, hD7⟩
                  case round =>
                    clear hD7
                    obtain ⟨k, rfl, hk, hq3, hD⟩ := hrel
                    by_cases hkm : k < m
                    · have hkI : (k : Int) < m := by omega
                      have T2 := TT.out (k : Int) (by omega) hkI
                      rcases (by omega : c < t ∨ t < c) with h6 | h6
                      · have g1 : ¬ c > t := by omega
                        by_cases h7 : (k : Int) ≤ c
                        · rw [if_pos (by omega)] at T2
                          go_wp2_with fail
                          refine (p_root _ hD.F ((hC.good.turned _).cut _)).mono ?_
                          rintro e w' ⟨rfl, rfl⟩
                          rw [T2]
                          go_wp2_with fail
                          refine (bit_yes _).mono ?_
                          rintro e w' ⟨rfl, rfl⟩
                          go_wp2
                          go_roundg (m + 1 - (k + 1))
                          case rel => exact ⟨k + 1, rfl, by omega, rfl, hD.alloc _⟩
                          case measure => omega
                        · rw [if_neg (by omega)] at T2
                          go_wp2_with fail
                          refine (p_root _ hD.F ((hC.good.turned _).cut _)).mono ?_
                          rintro e w' ⟨rfl, rfl⟩
                          rw [T2]
                          go_wp2_with fail
                          refine (bit_no _).mono ?_
                          rintro e w' ⟨rfl, rfl⟩
                          go_wp2
                          go_roundg (m + 1 - (k + 1))
                          case rel => exact ⟨k + 1, rfl, by omega, rfl, hD.alloc _⟩
                          case measure => omega
                      · have g1 : c > t := h6
                        have g2 : ¬ c < t := by omega
                        by_cases h7 : (k : Int) ≥ c
                        · rw [if_pos (by omega)] at T2
                          go_wp2_with fail
                          refine (p_root _ hD.F ((hC.good.turned _).cut _)).mono ?_
                          rintro e w' ⟨rfl, rfl⟩
                          rw [T2]
                          go_wp2_with fail
                          refine (bit_yes _).mono ?_
                          rintro e w' ⟨rfl, rfl⟩
                          go_wp2
                          go_roundg (m + 1 - (k + 1))
                          case rel => exact ⟨k + 1, rfl, by omega, rfl, hD.alloc _⟩
                          case measure => omega
                        · rw [if_neg (by omega)] at T2
                          go_wp2_with fail
                          refine (p_root _ hD.F ((hC.good.turned _).cut _)).mono ?_
                          rintro e w' ⟨rfl, rfl⟩
                          rw [T2]
                          go_wp2_with fail
                          refine (bit_no _).mono ?_
                          rintro e w' ⟨rfl, rfl⟩
                          go_wp2
                          go_roundg (m + 1 - (k + 1))
                          case rel => exact ⟨k + 1, rfl, by omega, rfl, hD.alloc _⟩
                          case measure => omega
                    · have hkI : ¬ (k : Int) < m := by omega
                      go_wp2
                      go_ret
                      exact ⟨rfl, hD.B⟩
end Go.Proofs.Ytjicapkhlfbgjaa
