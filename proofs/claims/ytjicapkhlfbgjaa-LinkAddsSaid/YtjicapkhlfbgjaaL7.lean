/- The walk of LinkAdds: it returns true, and writes nothing that was there. -/
import Derived.Test.YtjicapkhlfbgjaaAr
set_option linter.unusedVariables false
namespace Go.Proofs.Ytjicapkhlfbgjaa
open Go.RowKit

set_option maxHeartbeats 6400000 in
set_option maxRecDepth 10000 in
theorem adds_walk (s v by_ : Int) (a : Option Addr) (len cap : Nat) (zs : List Int) (w : World) (hz : RowOf w a len zs) :
    Calls Try.prog 7 #[.int .i64 s, .slice a len cap, .int .i64 v, .int .i64 by_] w fun e w' => e = .returned (.bool true) ∧ Below w.heap.size w w' := by
  have hs := wi_rng s 15 (by omega)
  obtain ⟨m, hm⟩ : ∃ m : Nat, 1 + wi s 15 = (m : Int) := ⟨(1 + wi s 15).toNat, by omega⟩
  have hm0 : 0 < m := by omega
  have hm1 : m ≤ 15 := by omega
  have hmz : ¬ (m : Int) = 0 := by omega
  have hmN : ¬ m = 0 := by omega
  go_enter Try.func7, Try.ntmps7
  go_wp2_with fail
  refine (known_any _).mono ?_
  rintro e w1 ⟨rfl, hB1⟩
  go_wp2_with fail
  refine (within_any s 15 (by omega) (by omega) _).mono ?_
  rintro e w' ⟨rfl, rfl⟩
  go_wp2_with fail
  refine (p_new m m (by omega) _).mono ?_
  rintro e w2 ⟨g, rfl, hF, hB⟩
  have hD2 : Solo w w2 w1.heap.size w2.heap.size g m _ _ := ⟨hB1.size, hF, below_below hB1 hB⟩
  clear hB1 hB hF
  go_wp2_with fail
  go_loopg [11] 60 (fun q y0 wr => ∃ (i : Nat) (U W : List Int), y0 = .int .i64 i ∧ i ≤ 60 ∧ q = 60 - i ∧ Good U ∧ Solo w wr w1.heap.size w2.heap.size g m U W)
  case atStart => exact ⟨0, _, _, rfl, by omega, by omega, good_zeros _, hD2⟩
  case round =>
    clear hD2
    obtain ⟨i, U, W, rfl, h0, hq, hg, hD⟩ := hrel
    by_cases h1 : i < len
    · have hi1 : (i : Int) < len := by omega
      by_cases h2 : i < 60
      · obtain ⟨b, o, rfl, hc⟩ := hz.at hD.B i h1
        have hi2 : (i : Int) < 60 := by omega
        have hwi := wi_rng (zs.getD i 0) 1099511627776 (by omega)
        go_wp2_with fail
        refine (within_any (zs.getD i 0) 1099511627776 (by omega) (by omega) _).mono ?_
        rintro e w' ⟨rfl, rfl⟩
        go_wp2_with fail
        go_still_tail 12, (by kernel_rfl)
        repeat (first | still_step | (refine wpStill_step (fun K hK => ?_); go_simp; rw [if_neg hmN]; refine ⟨rfl, hK _ ?_⟩; clear hK K))
        try refine wpStill_nil ?_
        change wpList _ _ _ _ _ wr.drew
        have hDd := hD.drew
        clear hD
        generalize wr.drew = wd at hDd ⊢
        go_wp2_with fail
        refine (p_link _ _ _ hDd.F hg).mono ?_
        rintro e w5 ⟨rfl, hL⟩
        have hD5 := hDd.p hL
        clear hDd hL
        go_wp2
        go_roundg (60 - (i + 1))
        case rel => exact ⟨i + 1, _, _, rfl, by omega, rfl, hg.link _ _, hD5⟩
        case measure => omega
      · have hi2 : ¬ (i : Int) < 60 := by omega
        have hlu := hD.F.lu
        have hlw := hD.F.lw
        have hv0 := wi_rng v m (by omega)
        have hb0 := wi_rng by_ 1000 (by omega)
        have hle : w1.heap.size ≤ w2.heap.size := hD.F.sz.1
        have hsi : w2.heap.size ≤ wr.heap.size := hD.F.sz.2
        have hA0 := ads_start hD hle hsi (.cells #[Value.int IntKind.i64 0, Value.int IntKind.i64 0, Value.int IntKind.i64 0, Value.int IntKind.i64 0, Value.int IntKind.i64 0, Value.int IntKind.i64 0, Value.int IntKind.i64 0, Value.int IntKind.i64 0, Value.int IntKind.i64 0, Value.int IntKind.i64 0, Value.int IntKind.i64 0, Value.int IntKind.i64 0, Value.int IntKind.i64 0, Value.int IntKind.i64 0, Value.int IntKind.i64 0, Value.int IntKind.i64 0] 44) (.cells #[Value.bool false, Value.bool false, Value.bool false, Value.bool false, Value.bool false, Value.bool false, Value.bool false, Value.bool false, Value.bool false, Value.bool false, Value.bool false, Value.bool false, Value.bool false, Value.bool false, Value.bool false, Value.bool false] 45) rfl (by first | rfl | (simp; rfl))
        clear hD hle hsi
        go_wp2_with fail
        generalize (wr.alloc _).alloc _ = wa at hA0 ⊢
        generalize hA1 : wr.heap.size = A at hA0 ⊢
        go_loopg [15] (m + 1) (fun q y0 wx => ∃ k : Nat, y0 = .int .i64 k ∧ q = m + 1 - k ∧ k ≤ m ∧ Ads w wx w1.heap.size w2.heap.size g m U W A (A + 1) (gw U W k) (gu []))
        case atStart => exact ⟨0, rfl, by omega, by omega, hA0⟩
        case round =>
          clear hA0
          obtain ⟨k, rfl, hq2, hk, hA⟩ := hrel
          by_cases hkm : k < m
          · have hkI : (k : Int) < m := by omega
            have hk16 : (k : Int) < 16 := by omega
            have c1 := hA.a.cell k (by omega)
            have f1 := hA.a.fz k
            obtain ⟨z0, hz0⟩ : ∃ z0, gw U W k k = z0 := ⟨_, rfl⟩
            rw [hz0] at c1
            go_wp2_with fail
            refine (p_weight _ hA.S.F hg).mono ?_
            rintro e w' ⟨rfl, rfl⟩
            have hA2 := (hA.seta k (.int .i64 (wtA U W k))).congr (gw_next k) (fun _ _ => rfl)
            go_wp2
            go_roundg (m + 1 - (k + 1))
            case rel => exact ⟨k + 1, rfl, rfl, by omega, by first | exact hA2 | exact hA2.drew⟩
            case measure => omega
          · have hkI : ¬ (k : Int) < m := by omega
            obtain rfl : k = m := by omega
            clear hq2 hk hkm
            go_wp2_with fail
            refine (within_any v k (by omega) (by omega) _).mono ?_
            rintro e w' ⟨rfl, rfl⟩
            go_wp2_with fail
            refine (within_any by_ 1000 (by omega) (by omega) _).mono ?_
            rintro e w' ⟨rfl, rfl⟩
            have hlen := way_le hg hv0.1 (by omega)
            have hway := hg.way (wi v k) (by omega) (by omega)
            obtain ⟨D, hD⟩ : ∃ D, (way U (wi v k)).dropLast = D := ⟨_, rfl⟩
            have DB := Bx.mk hD
            clear hD
            go_wp2_with fail
            go_loopg [18, 19] (k + 1) (fun q y1 y2 wx => ∃ (y : Int) (l S : List Int) (j : Nat), y1 = .int .i64 y ∧ y2 = .int .i64 j ∧ q = k + 1 - j ∧ j + l.length ≤ k ∧ 0 ≤ y ∧ Way U y l ∧ S ++ l.dropLast = D ∧ Ads w wx w1.heap.size w2.heap.size g k U W A (A + 1) (gw U W k) (gu S))
            case atStart => exact ⟨_, _, [], 0, rfl, rfl, by omega, by omega, hv0.1, hway, DB.out, hA⟩
            case round =>
              clear hA hway hlen
              obtain ⟨y, l, S, j, rfl, rfl, hq3, hj, hy0, hway, hS, hA⟩ := hrel
              have hy1 := (hway.mem (x := y) (by obtain ⟨s, rfl, _⟩ := hway.cons hy0; simp)).2
              have hl0 : 0 < l.length := by obtain ⟨s, rfl, _⟩ := hway.cons hy0; simp
              have hjk : (j : Int) < k := by omega
              cases hu : hasUp U y
              · have hle := up_end hway hy0 hu
                rw [hle, List.append_nil] at hS
                subst hS
                clear hway hle
                go_wp2_with fail
                refine (p_up _ hA.S.F hg).mono ?_
                rintro e w' ⟨rfl, rfl⟩
                rw [hu]
                go_wp2_with fail
                refine (p_add _ _ hA.S.F hg).mono ?_
                rintro e w5 ⟨rfl, hL⟩
                have hA5 := hA.p hL
                clear hA hL
                rw [isv_iff.2 ⟨hv0.1, by omega⟩]
                go_wp2_with fail
                obtain ⟨bb, hbb⟩ : ∃ bb, wi by_ 1000 - 500 = bb := ⟨_, rfl⟩
                rw [hbb] at hA5
                simp only [hbb]
                have AF := Bx.mk (fun z a1 a2 => add_after (W := W) (b := bb) (z := z) hg hv0.1 (by omega : wi v k < U.length) (by omega) a1 a2)
                go_loopg [22] (k + 1) (fun q y0 wx => ∃ j2 : Nat, y0 = .int .i64 j2 ∧ q = k + 1 - j2 ∧ j2 ≤ k ∧ Ads w wx w1.heap.size w2.heap.size g k U (addedW U W (wi v k) bb) A (A + 1) (gw U W k) (gu S))
                case atStart => exact ⟨0, rfl, by omega, by omega, hA5⟩
                case round =>
                  clear hA5
                  obtain ⟨j2, rfl, hq4, hj2, hA⟩ := hrel
                  by_cases hjm : j2 < k
                  · have hjI : (j2 : Int) < k := by omega
                    have hj16 : (j2 : Int) < 16 := by omega
                    have c1 : wr.cell? ⟨A, j2, none⟩ = some (.int .i64 (wtA U W j2)) := by
                      rw [hA.a.cell j2 (by omega)]
                      simp [gw, hjm]
                    have c2 := hA.b.cell j2 (by omega)
                    have haf := AF.out (j2 : Int) (by omega) (by omega)
                    rw [DB.out] at haf
                    cases hd : decide ((j2 : Int) ∈ S)
                    · rw [show gu S j2 = .bool false from by rw [gu, hd]] at c2
                      rw [if_neg (of_decide_eq_false hd)] at haf
                      clear hd
                      go_wp2_with fail
                      refine (p_weight _ hA.S.F hg).mono ?_
                      rintro e w' ⟨rfl, rfl⟩
                      rw [haf]
                      go_wp2
                      go_roundg (k + 1 - (j2 + 1))
                      case rel => exact ⟨j2 + 1, rfl, rfl, by omega, by first | exact hA | exact hA.drew⟩
                      case measure => omega
                    · rw [show gu S j2 = .bool true from by rw [gu, hd]] at c2
                      rw [if_pos (of_decide_eq_true hd)] at haf
                      clear hd
                      go_wp2_with fail
                      refine (p_weight _ hA.S.F hg).mono ?_
                      rintro e w' ⟨rfl, rfl⟩
                      rw [haf]
                      go_wp2
                      go_roundg (k + 1 - (j2 + 1))
                      case rel => exact ⟨j2 + 1, rfl, rfl, by omega, by first | exact hA | exact hA.drew⟩
                      case measure => omega
                  · have hjI : ¬ (j2 : Int) < k := by omega
                    go_wp2
                    go_ret
                    exact ⟨rfl, hA.S.B⟩
              · obtain ⟨l2, e1, e2, e3, e4, e5⟩ := up_next hg hway hy0 hy1 hu
                rw [e5] at hS
                clear hway e5
                obtain ⟨u, hru⟩ : ∃ u, upA U y = u := ⟨_, rfl⟩
                rw [hru] at e2 e3 e4
                have c2 := hA.b.cell y.toNat (by omega)
                have f2 := hA.b.fz y.toNat
                obtain ⟨z0, hz0⟩ : ∃ z0, gu S y.toNat = z0 := ⟨_, rfl⟩
                rw [hz0] at c2
                have hy16 : y < 16 := by omega
                have hu0 : ¬ u < 0 := by omega
                have huk : ¬ u ≥ (k : Int) := by omega
                have hA2 := (hA.setb y.toNat (.bool true)).congr (fun _ _ => rfl) (gu_next y hy0)
                go_wp2_with fail
                refine (p_up _ hA.S.F hg).mono ?_
                rintro e w' ⟨rfl, rfl⟩
                rw [hu, hru]
                go_wp2
                go_roundg (k + 1 - (j + 1))
                case rel => exact ⟨u, l2, S ++ [y], j + 1, rfl, rfl, rfl, by omega, e2, e4, by rw [← hS]; simp, by first | exact hA2 | exact hA2.drew⟩
                case measure => omega
    · have hi1 : ¬ (i : Int) < len := by omega
      have hlu := hD.F.lu
      have hlw := hD.F.lw
      have hv0 := wi_rng v m (by omega)
      have hb0 := wi_rng by_ 1000 (by omega)
      have hle : w1.heap.size ≤ w2.heap.size := hD.F.sz.1
      have hsi : w2.heap.size ≤ wr.heap.size := hD.F.sz.2
      have hA0 := ads_start hD hle hsi (.cells #[Value.int IntKind.i64 0, Value.int IntKind.i64 0, Value.int IntKind.i64 0, Value.int IntKind.i64 0, Value.int IntKind.i64 0, Value.int IntKind.i64 0, Value.int IntKind.i64 0, Value.int IntKind.i64 0, Value.int IntKind.i64 0, Value.int IntKind.i64 0, Value.int IntKind.i64 0, Value.int IntKind.i64 0, Value.int IntKind.i64 0, Value.int IntKind.i64 0, Value.int IntKind.i64 0, Value.int IntKind.i64 0] 44) (.cells #[Value.bool false, Value.bool false, Value.bool false, Value.bool false, Value.bool false, Value.bool false, Value.bool false, Value.bool false, Value.bool false, Value.bool false, Value.bool false, Value.bool false, Value.bool false, Value.bool false, Value.bool false, Value.bool false] 45) rfl (by first | rfl | (simp; rfl))
      clear hD hle hsi
      go_wp2_with fail
      generalize (wr.alloc _).alloc _ = wa at hA0 ⊢
      generalize hA1 : wr.heap.size = A at hA0 ⊢
      go_loopg [15] (m + 1) (fun q y0 wx => ∃ k : Nat, y0 = .int .i64 k ∧ q = m + 1 - k ∧ k ≤ m ∧ Ads w wx w1.heap.size w2.heap.size g m U W A (A + 1) (gw U W k) (gu []))
      case atStart => exact ⟨0, rfl, by omega, by omega, hA0⟩
      case round =>
        clear hA0
        obtain ⟨k, rfl, hq2, hk, hA⟩ := hrel
        by_cases hkm : k < m
        · have hkI : (k : Int) < m := by omega
          have hk16 : (k : Int) < 16 := by omega
          have c1 := hA.a.cell k (by omega)
          have f1 := hA.a.fz k
          obtain ⟨z0, hz0⟩ : ∃ z0, gw U W k k = z0 := ⟨_, rfl⟩
          rw [hz0] at c1
          go_wp2_with fail
          refine (p_weight _ hA.S.F hg).mono ?_
          rintro e w' ⟨rfl, rfl⟩
          have hA2 := (hA.seta k (.int .i64 (wtA U W k))).congr (gw_next k) (fun _ _ => rfl)
          go_wp2
          go_roundg (m + 1 - (k + 1))
          case rel => exact ⟨k + 1, rfl, rfl, by omega, by first | exact hA2 | exact hA2.drew⟩
          case measure => omega
        · have hkI : ¬ (k : Int) < m := by omega
          obtain rfl : k = m := by omega
          clear hq2 hk hkm
          go_wp2_with fail
          refine (within_any v k (by omega) (by omega) _).mono ?_
          rintro e w' ⟨rfl, rfl⟩
          go_wp2_with fail
          refine (within_any by_ 1000 (by omega) (by omega) _).mono ?_
          rintro e w' ⟨rfl, rfl⟩
          have hlen := way_le hg hv0.1 (by omega)
          have hway := hg.way (wi v k) (by omega) (by omega)
          obtain ⟨D, hD⟩ : ∃ D, (way U (wi v k)).dropLast = D := ⟨_, rfl⟩
          have DB := Bx.mk hD
          clear hD
          go_wp2_with fail
          go_loopg [18, 19] (k + 1) (fun q y1 y2 wx => ∃ (y : Int) (l S : List Int) (j : Nat), y1 = .int .i64 y ∧ y2 = .int .i64 j ∧ q = k + 1 - j ∧ j + l.length ≤ k ∧ 0 ≤ y ∧ Way U y l ∧ S ++ l.dropLast = D ∧ Ads w wx w1.heap.size w2.heap.size g k U W A (A + 1) (gw U W k) (gu S))
          case atStart => exact ⟨_, _, [], 0, rfl, rfl, by omega, by omega, hv0.1, hway, DB.out, hA⟩
          case round =>
            clear hA hway hlen
            obtain ⟨y, l, S, j, rfl, rfl, hq3, hj, hy0, hway, hS, hA⟩ := hrel
            have hy1 := (hway.mem (x := y) (by obtain ⟨s, rfl, _⟩ := hway.cons hy0; simp)).2
            have hl0 : 0 < l.length := by obtain ⟨s, rfl, _⟩ := hway.cons hy0; simp
            have hjk : (j : Int) < k := by omega
            cases hu : hasUp U y
            · have hle := up_end hway hy0 hu
              rw [hle, List.append_nil] at hS
              subst hS
              clear hway hle
              go_wp2_with fail
              refine (p_up _ hA.S.F hg).mono ?_
              rintro e w' ⟨rfl, rfl⟩
              rw [hu]
              go_wp2_with fail
              refine (p_add _ _ hA.S.F hg).mono ?_
              rintro e w5 ⟨rfl, hL⟩
              have hA5 := hA.p hL
              clear hA hL
              rw [isv_iff.2 ⟨hv0.1, by omega⟩]
              go_wp2_with fail
              obtain ⟨bb, hbb⟩ : ∃ bb, wi by_ 1000 - 500 = bb := ⟨_, rfl⟩
              rw [hbb] at hA5
              simp only [hbb]
              have AF := Bx.mk (fun z a1 a2 => add_after (W := W) (b := bb) (z := z) hg hv0.1 (by omega : wi v k < U.length) (by omega) a1 a2)
              go_loopg [22] (k + 1) (fun q y0 wx => ∃ j2 : Nat, y0 = .int .i64 j2 ∧ q = k + 1 - j2 ∧ j2 ≤ k ∧ Ads w wx w1.heap.size w2.heap.size g k U (addedW U W (wi v k) bb) A (A + 1) (gw U W k) (gu S))
              case atStart => exact ⟨0, rfl, by omega, by omega, hA5⟩
              case round =>
                clear hA5
                obtain ⟨j2, rfl, hq4, hj2, hA⟩ := hrel
                by_cases hjm : j2 < k
                · have hjI : (j2 : Int) < k := by omega
                  have hj16 : (j2 : Int) < 16 := by omega
                  have c1 : wr.cell? ⟨A, j2, none⟩ = some (.int .i64 (wtA U W j2)) := by
                    rw [hA.a.cell j2 (by omega)]
                    simp [gw, hjm]
                  have c2 := hA.b.cell j2 (by omega)
                  have haf := AF.out (j2 : Int) (by omega) (by omega)
                  rw [DB.out] at haf
                  cases hd : decide ((j2 : Int) ∈ S)
                  · rw [show gu S j2 = .bool false from by rw [gu, hd]] at c2
                    rw [if_neg (of_decide_eq_false hd)] at haf
                    clear hd
                    go_wp2_with fail
                    refine (p_weight _ hA.S.F hg).mono ?_
                    rintro e w' ⟨rfl, rfl⟩
                    rw [haf]
                    go_wp2
                    go_roundg (k + 1 - (j2 + 1))
                    case rel => exact ⟨j2 + 1, rfl, rfl, by omega, by first | exact hA | exact hA.drew⟩
                    case measure => omega
                  · rw [show gu S j2 = .bool true from by rw [gu, hd]] at c2
                    rw [if_pos (of_decide_eq_true hd)] at haf
                    clear hd
                    go_wp2_with fail
                    refine (p_weight _ hA.S.F hg).mono ?_
                    rintro e w' ⟨rfl, rfl⟩
                    rw [haf]
                    go_wp2
                    go_roundg (k + 1 - (j2 + 1))
                    case rel => exact ⟨j2 + 1, rfl, rfl, by omega, by first | exact hA | exact hA.drew⟩
                    case measure => omega
                · have hjI : ¬ (j2 : Int) < k := by omega
                  go_wp2
                  go_ret
                  exact ⟨rfl, hA.S.B⟩
            · obtain ⟨l2, e1, e2, e3, e4, e5⟩ := up_next hg hway hy0 hy1 hu
              rw [e5] at hS
              clear hway e5
              obtain ⟨u, hru⟩ : ∃ u, upA U y = u := ⟨_, rfl⟩
              rw [hru] at e2 e3 e4
              have c2 := hA.b.cell y.toNat (by omega)
              have f2 := hA.b.fz y.toNat
              obtain ⟨z0, hz0⟩ : ∃ z0, gu S y.toNat = z0 := ⟨_, rfl⟩
              rw [hz0] at c2
              have hy16 : y < 16 := by omega
              have hu0 : ¬ u < 0 := by omega
              have huk : ¬ u ≥ (k : Int) := by omega
              have hA2 := (hA.setb y.toNat (.bool true)).congr (fun _ _ => rfl) (gu_next y hy0)
              go_wp2_with fail
              refine (p_up _ hA.S.F hg).mono ?_
              rintro e w' ⟨rfl, rfl⟩
              rw [hu, hru]
              go_wp2
              go_roundg (k + 1 - (j + 1))
              case rel => exact ⟨u, l2, S ++ [y], j + 1, rfl, rfl, rfl, by omega, e2, e4, by rw [← hS]; simp, by first | exact hA2 | exact hA2.drew⟩
              case measure => omega
end Go.Proofs.Ytjicapkhlfbgjaa
