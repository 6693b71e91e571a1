/- The document's parts, of a round: one. -/
import Derived.Test.YtjeddcijefnbfaaKt
import Derived.Test.YtjeddcijefnbfaaT0
set_option linter.unusedVariables false
set_option linter.unusedSimpArgs false
namespace Go.Proofs.Ytjeddcijefnbfaa
open Go.RowKit

theorem passP_length (T of : List Int) : ∀ d, (passP T of d).1.length = of.length
  | 0 => rfl
  | d + 1 => by
    rw [passP]
    split
    · rw [st_length, passP_length T of d]
    · exact passP_length T of d
theorem idsN_length (k : Nat) : (idsN k).length = k := by simp [idsN]
theorem rd_idsN {k : Nat} {i : Int} (h0 : 0 ≤ i) (h1 : i < k) : rd (idsN k) i = i := by
  unfold rd idsN
  have : i.toNat < k := by omega
  simp [List.getD_eq_getElem?_getD, this]
  omega
theorem rd_zeros (k : Nat) (i : Int) : rd (List.replicate k 0) i = 0 := by
  unfold rd
  rw [List.getD_eq_getElem?_getD, List.getElem?_replicate]
  split <;> rfl
theorem st_zeros (k : Nat) (i : Int) : st (List.replicate k (0 : Int)) i 0 = List.replicate k 0 := by
  unfold st
  apply List.ext_getElem
  · simp
  · intro j h1 h2
    rw [List.getElem_set]
    split <;> simp
set_option maxHeartbeats 6400000 in
theorem parts_any {k : Nat} {aT aX aC : Option Addr} {kT kX kC : Nat} {w : World} (R : Round k) (h3 : 3 ≤ k) (h11 : k ≤ 11) (hT : RowOf w aT (cT k)) :
    Calls Try.prog 40 #[.agg #[.int .i64 k, .slice aT (2 * k) kT, .slice aX (2 * k) kX, .slice aC (2 * k) kC]] w fun e w' => (∃ v, e = .returned (.tuple #[v, .int .i64 1])) ∧ Below w.heap.size w w' := by
  obtain ⟨n, hn⟩ : ∃ n, 2 * k = n := ⟨_, rfl⟩
  have hn0 : 6 ≤ n := by omega
  have hn1 : n ≤ 22 := by omega
  obtain ⟨bT, oT, rfl, hcT⟩ := hT.spot (by rw [R.lT]; omega)
  have lT := R.lT
  rw [hn] at lT ⊢
  have RP1 := Bx.mk R.p1
  have RP2 := Bx.mk R.p2
  have HTT := Bx.mk hT
  obtain ⟨T, hTT⟩ : ∃ T, cT k = T := ⟨_, rfl⟩
  rw [hTT] at hcT lT RP1 RP2 HTT
  rw [hn] at RP1 RP2
  have t0 := Bx.mk (fun (d : Int) (h0 : 0 ≤ d) (h1 : d < n) => (by have := R.t0 d h0 (by omega); rw [hTT] at this; exact this : 0 ≤ rd T d ∧ rd T d < k))
  have o0 := Bx.mk (fun (d : Int) (h0 : 0 ≤ d) (h1 : d < n) => (by have := R.o0 d h0 (by omega); rw [hn] at this; exact this : 0 ≤ ot d ∧ ot d < n))
  have HCT := Bx.mk (fun w' (hb : Below w.heap.size w w') (i : Int) (h0 : 0 ≤ i) (h1 : i < n) => hcT w' hb i h0 (by omega))
  have HLT := Bx.mk lT
  have HE := Bx.mk (show (T.length : Int) % 2 = 0 from by omega)
  clear hTT hcT hT R hn lT
  have hB := below_alloc (Below.refl w.heap.size w) (.cells #[.int .i64 k, .slice (some ⟨bT, oT, none⟩) n kT, .slice aX n kX, .slice aC n kC] 25)
  have hbox := box_new w #[.int .i64 k, .slice (some ⟨bT, oT, none⟩) n kT, .slice aX n kX, .slice aC n kC] 25
  go_enter Try.func40, Try.ntmps40
  go_upto_region 1 with fail
  generalize w.alloc _ = wa at hB hbox ⊢
  generalize w.heap.size = b at hbox ⊢
  have HBX := Bx.mk hbox
  have HK := Bx.mk (fun W (h : Below wa.heap.size wa W) => (⟨(hbox.keep h).cell 0, (hbox.keep h).cell 1, (hbox.keep h).cell 2, (hbox.keep h).cell 3⟩ : W.cell? ⟨b, 0, none⟩ = some (.int .i64 k) ∧ W.cell? ⟨b, 1, none⟩ = some (.slice (some ⟨bT, oT, none⟩) n kT) ∧ W.cell? ⟨b, 2, none⟩ = some (.slice aX n kX) ∧ W.cell? ⟨b, 3, none⟩ = some (.slice aC n kC)))
  have HBW := Bx.mk (fun W (h : Below wa.heap.size wa W) => below_below hB h)
  clear hbox
  have k0 := (HK.out wa (Below.refl _ _)).1
  have hmk : ∀ w : World, (Instr.makeSlice 22 (.int .i64 k) (.int .i64 k)).run Try.prog w = .ok (.slice (some ⟨w.heap.size, 0, none⟩) k k) (w.alloc (.cells (madeCells #[.int .i64 0] k) 3)) :=
    run_make_row' (P := Try.prog) 22 3 (.int .i64 0) 8 Try.underlying22 info3 rfl .i64 .i64 k (by omega) (by omega)
  have hown := own_made wa wa.heap.size k (Nat.le_refl _) (by omega)
  have BW := below_alloc (Below.refl wa.heap.size wa) (.cells (madeCells #[.int .i64 0] k) 3)
  obtain ⟨gO, hgO⟩ : ∃ gO, wa.heap.size = gO := ⟨_, rfl⟩
  have hgl : wa.heap.size ≤ gO := by omega
  rw [show OwnN (wa.alloc (.cells (madeCells #[.int .i64 0] k) 3)) wa.heap.size wa.heap.size k k (List.replicate k 0) = OwnN (wa.alloc (.cells (madeCells #[.int .i64 0] k) 3)) wa.heap.size gO k k (List.replicate k 0) from by rw [hgO]] at hown
  go_upto_region 2 with fail
  generalize wa.alloc _ = wb at hown BW ⊢
  clear k0 hmk hgO
  go_wp2
  go_loopg [5] (k + 1) (fun q y wr => ∃ j : Nat, y = .int .i64 j ∧ q = k + 1 - j ∧ j ≤ k ∧ (∃ D, OwnN wr wa.heap.size gO k k D ∧ Bx (∀ z : Int, 0 ≤ z → z < j → rd D z = z)) ∧ Below wa.heap.size wa wr)
  case atStart => exact ⟨0, rfl, by omega, by omega, ⟨_, hown, ⟨fun z h0 h1 => by omega⟩⟩, BW⟩
  case round =>
    clear hown BW
    obtain ⟨j, rfl, hq, hj, ⟨D, hown, HD⟩, BW⟩ := hrel
    obtain ⟨k0, k1, k2, k3⟩ := HK.out _ BW
    by_cases hjm : j < k
    · have hjI : (j : Int) < k := by omega
      have c1 := hown.cell j (by omega) hjI
      have f1 := hown.fz j
      rw [Int.toNat_natCast] at c1 f1
      have h2 := hown.set j j
      rw [Int.toNat_natCast] at h2
      have BW2 := below_set BW (p := ⟨gO, j, none⟩) hgl (.int .i64 (j : Int))
      have HDl := Bx.mk hown.1
      clear hown BW
      go_wp2
      go_roundg (k + 1 - (j + 1))
      case rel => exact ⟨j + 1, rfl, by omega, by omega, ⟨_, h2, ⟨fun z h0 h1 => (by
        rw [rd_st _ _ _ _ (by omega) (by rw [HDl.out]; exact hjI) h0]
        by_cases e : z = j
        · rw [if_pos e, e]
        · rw [if_neg e, HD.out z h0 (by omega)])⟩⟩, BW2⟩
      case measure => omega
    · have hjI : ¬ (j : Int) < k := by omega
      obtain rfl : k = j := by omega
      have hD : D = idsN k := rows_ext (by rw [hown.1, idsN_length]) (fun z h0 h1 => by rw [hown.1] at h1; rw [HD.out z h0 h1, rd_idsN h0 h1])
      rw [hD] at hown
      go_wp2
      clear hD HD hq hj hjm k0 k1 k2 k3 hjI
      go_loopg [6] 3 (fun q y wr => (∃ O : List Int, OwnN wr wa.heap.size gO k k O ∧ ((∃ (r : Nat) (f : Bool), y = .bool true ∧ q = r + 1 ∧ Bx (passP T O n = (List.replicate k 0, f)) ∧ Bx ((r = 2 ∧ f = true) ∨ (r = 1 ∧ f = false))) ∨ (y = .bool false ∧ q = 1 ∧ Bx (O = List.replicate k 0)))) ∧ Below wa.heap.size wa wr)
      case atStart => exact ⟨⟨_, hown, .inl ⟨2, true, rfl, rfl, RP1, ⟨.inl ⟨rfl, rfl⟩⟩⟩⟩, BW⟩
      case round =>
        clear hown BW
        obtain ⟨⟨O, hown, hc⟩, BW⟩ := hrel
        rcases hc with ⟨r, f, rfl, hgk, HP, hrf⟩ | ⟨rfl, hgk, hO⟩
        · have HOl := Bx.mk hown.1
          go_wp2
          go_loopg [6, 7] (n + 1) (fun q y z wr => ∃ (d : Nat) (g : Bool), z = .int .i64 d ∧ y = .bool g ∧ q = n + 1 - d ∧ d ≤ n ∧ Bx (g = (passP T O d).2) ∧ (∃ D, OwnN wr wa.heap.size gO k k D ∧ Bx (D = (passP T O d).1)) ∧ Below wa.heap.size wa wr)
          case atStart => exact ⟨0, false, rfl, rfl, by omega, by omega, ⟨rfl⟩, ⟨_, hown, ⟨rfl⟩⟩, BW⟩
          case round =>
            clear hown BW
            obtain ⟨d, g, rfl, rfl, hq, hd, HG, ⟨D, hown, HD⟩, BW⟩ := hrel
            obtain ⟨k0, k1, k2, k3⟩ := HK.out _ BW
            by_cases hdn : d < n
            · have hD : (d : Int) < n := by omega
              have ta := t0.out d (by omega) hD
              have oo := o0.out d (by omega) hD
              have tb := t0.out (ot d) oo.1 oo.2
              have ct := HCT.out _ (HBW.out _ BW) d (by omega) hD
              rw [Int.toNat_natCast] at ct
              have HH := fun W (h : Below wa.heap.size wa W) => rhead_any (w := W) (N := k) (aT := some ⟨bT, oT, none⟩) (aX := aX) (aC := aC) (cT := kT) (cX := kX) (cC := kC) (T := T) (X := List.replicate n 0) (C := List.replicate n 0) d (HTT.out.keep (HBW.out W h)) (by omega) (by rw [HLT.out]; exact hD) HE.out (by rw [HLT.out]; omega)
              rw [HLT.out, List.length_replicate] at HH
              have NX := Bx.mk (show passP T O (d + 1) = if rd (passP T O d).1 (rd T (ot d)) > rd (passP T O d).1 (rd T d) then (st (passP T O d).1 (rd T (ot d)) (rd (passP T O d).1 (rd T d)), true) else passP T O d from rfl)
              rw [← HD.out] at NX
              obtain ⟨a, ha⟩ : ∃ a, rd T d = a := ⟨_, rfl⟩
              obtain ⟨c, hc⟩ : ∃ c, rd T (ot d) = c := ⟨_, rfl⟩
              rw [ha] at ta ct NX
              rw [hc] at tb HH NX
              have a0 := ta.1
              have a1 := ta.2
              have b0 := tb.1
              have b1 := tb.2
              have HA := Bx.mk ha
              clear ha hc ta tb oo
              have cta := Bx.mk (fun W (h : Below wr.heap.size wr W) => (by
                have := HCT.out W (HBW.out _ (below_below BW h)) d (by omega) hD
                rw [Int.toNat_natCast, HA.out] at this
                exact this : W.cell? ⟨bT, oT + d, none⟩ = some (.int .i64 a)))
              have HK2 : Bx (∀ W, Below wr.heap.size wr W → Below wr.heap.size wr W ∧ W.cell? ⟨b, 0, none⟩ = some (.int .i64 k) ∧ W.cell? ⟨b, 1, none⟩ = some (.slice (some ⟨bT, oT, none⟩) n kT) ∧ W.cell? ⟨b, 2, none⟩ = some (.slice aX n kX) ∧ W.cell? ⟨b, 3, none⟩ = some (.slice aC n kC) ∧ W.cell? ⟨bT, oT + d, none⟩ = some (.int .i64 a)) :=
                ⟨fun W h => ⟨h, (HK.out _ (below_below BW h)).1, (HK.out _ (below_below BW h)).2.1, (HK.out _ (below_below BW h)).2.2.1, (HK.out _ (below_below BW h)).2.2.2, cta.out W h⟩⟩
              have HH2 := fun W (h : Below wr.heap.size wr W) => HH W (below_below BW h)
              clear HH cta ct
              go_upto_region 12 with fail
              clear k0 k1 k2 k3
              go_region_held3 (fun W => Below wr.heap.size wr W ∧ W.cell? ⟨b, 0, none⟩ = some (.int .i64 k) ∧ W.cell? ⟨b, 1, none⟩ = some (.slice (some ⟨bT, oT, none⟩) n kT) ∧ W.cell? ⟨b, 2, none⟩ = some (.slice aX n kX) ∧ W.cell? ⟨b, 3, none⟩ = some (.slice aC n kC) ∧ W.cell? ⟨bT, oT + d, none⟩ = some (.int .i64 a))
                (first | assumption | exact HK2.out _ (below_below (And.left ‹_ ∧ _›) hB1) | exact HK2.out _ (Below.drew (Below.refl _ _)))
                (first
                  | (go_at_call 26; (with_reducible refine (HH2 _ (And.left ‹_ ∧ _›)).mono ?_); rintro e W5 ⟨rfl, hB1⟩))
              have BX := And.left ‹Below wr.heap.size wr _ ∧ _›
              have hown := hown.keep BX
              have BW := below_below BW BX
              clear HK2 HH2 BX
              have c1 := hown.cell a a0 a1
              have c2 := hown.cell c b0 b1
              have f2 := hown.fz c
              have HDl := Bx.mk hown.1
              obtain ⟨p, hp⟩ : ∃ p, rd D a = p := ⟨_, rfl⟩
              obtain ⟨q2, hq2⟩ : ∃ q2, rd D c = q2 := ⟨_, rfl⟩
              rw [hp] at c1 NX
              rw [hq2] at c2 NX
              clear hp hq2
              by_cases hgt : q2 > p
              · have NX2 := Bx.mk (show passP T O (d + 1) = (st D c p, true) from by rw [NX.out, if_pos hgt])
                have hg1 : p < q2 := hgt
                clear NX hgt
                go_upto_region 13 with fail
                go_quiet (fail)
                have h2 := (hown.keep (below_drewN (Below.refl _ _) nq)).set c p
                have BW2 := below_set (below_drewN BW nq) (p := ⟨gO, c.toNat, none⟩) hgl (.int .i64 p)
                clear hown BW
                go_wp2
                go_roundg (n + 1 - (d + 1))
                case rel => exact ⟨d + 1, true, rfl, rfl, by omega, by omega, ⟨by rw [NX2.out]⟩, ⟨_, h2, ⟨by rw [NX2.out]⟩⟩, BW2⟩
                case measure => omega
              · have NX2 := Bx.mk (show passP T O (d + 1) = passP T O d from by rw [NX.out, if_neg hgt])
                have hg1 : ¬ p < q2 := hgt
                clear NX hgt
                go_upto_region 13 with fail
                go_quiet (fail)
                have h2 := hown.keep (below_drewN (Below.refl _ _) nq)
                have BW2 := below_drewN BW nq
                clear hown BW
                go_wp2
                go_roundg (n + 1 - (d + 1))
                case rel => exact ⟨d + 1, g, rfl, rfl, by omega, by omega, ⟨by rw [NX2.out]; exact HG.out⟩, ⟨D, h2, ⟨by rw [NX2.out]; exact HD.out⟩⟩, BW2⟩
                case measure => omega
            · have hD : ¬ (d : Int) < n := by omega
              obtain rfl : d = n := by omega
              have hg2 : g = f := by rw [HG.out, HP.out]
              have hd2 : D = List.replicate k 0 := by rw [HD.out, HP.out]
              subst hg2
              rw [hd2] at hown
              clear hd2 HG HD HP hdn
              go_wp2
              rcases hrf.out with ⟨rfl, rfl⟩ | ⟨rfl, rfl⟩
              · go_roundg 2
                case rel => exact ⟨⟨_, hown, .inl ⟨1, false, rfl, rfl, RP2, ⟨.inr ⟨rfl, rfl⟩⟩⟩⟩, BW⟩
                case measure => omega
              · go_roundg 1
                case rel => exact ⟨⟨_, hown, .inr ⟨rfl, rfl, ⟨rfl⟩⟩⟩, BW⟩
                case measure => omega
        · obtain rfl := hO.out
          have k0 := (HK.out _ BW).1
          have hmk : ∀ w : World, (Instr.makeSlice 22 (.int .i64 k) (.int .i64 k)).run Try.prog w = .ok (.slice (some ⟨w.heap.size, 0, none⟩) k k) (w.alloc (.cells (madeCells #[.int .i64 0] k) 3)) :=
            run_make_row' (P := Try.prog) 22 3 (.int .i64 0) 8 Try.underlying22 info3 rfl .i64 .i64 k (by omega) (by omega)
          have hN := own_made wr wr.heap.size k (Nat.le_refl _) (by omega)
          have BN := below_alloc BW (.cells (madeCells #[.int .i64 0] k) 3)
          have hO2 := hown.keep (below_alloc (Below.refl _ _) (.cells (madeCells #[.int .i64 0] k) 3))
          obtain ⟨gN, hgN⟩ : ∃ gN, wr.heap.size = gN := ⟨_, rfl⟩
          have hne : gO ≠ gN := by have := hown.rng.2; omega
          have hgl2 : wa.heap.size ≤ gN := by have := BW.size; omega
          rw [hgN] at hN
          go_upto_region 18 with fail
          generalize wr.alloc _ = wn at hN BN hO2 ⊢
          clear hmk k0 hown BW hgN hO hgk
          go_wp2
          go_loopg [10, 12] (k + 1) (fun q y z wr => ∃ j : Nat, z = .int .i64 j ∧ Bx (y = .int .i64 (if j = 0 then 0 else 1)) ∧ q = k + 1 - j ∧ j ≤ k ∧ OwnN wr wa.heap.size gO k k (List.replicate k 0) ∧ OwnN wr gN gN k k (List.replicate k 0) ∧ Below wa.heap.size wa wr)
          case atStart => exact ⟨0, rfl, ⟨rfl⟩, by omega, by omega, hO2, hN, BN⟩
          case round =>
            clear hO2 hN BN
            obtain ⟨j, rfl, HY, hq, hj, hO2, hN, BN⟩ := hrel
            obtain ⟨k0, k1, k2, k3⟩ := HK.out _ BN
            by_cases hjk : j < k
            · have hJ : (j : Int) < k := by omega
              have c1 := hO2.cell j (by omega) hJ
              have c2 := hN.cell 0 (by omega) (by omega)
              have c3 := hN.cell j (by omega) hJ
              have f3 := hN.fz j
              have h3' := hN.set j 0
              have hO3 := hO2.far (p := ⟨gN, (j : Int).toNat, none⟩) (fun e => hne e.symm) (.int .i64 0)
              have BN2 := below_set BN (p := ⟨gN, (j : Int).toNat, none⟩) hgl2 (.int .i64 0)
              rw [rd_zeros, Int.toNat_natCast] at c1 c3
              rw [rd_zeros, show (0 : Int).toNat = 0 from rfl] at c2
              rw [Int.toNat_natCast] at f3 h3' hO3 BN2
              rw [st_zeros] at h3'
              clear hO2 hN BN
              by_cases h0 : j = 0
              · subst h0
                obtain rfl := HY.out
                have e0 : ((0 : Int) == 0) = true := rfl
                go_wp2
                go_roundg (k + 1 - (0 + 1))
                case rel => exact ⟨1, rfl, ⟨rfl⟩, by omega, by omega, hO3, h3', BN2⟩
                case measure => omega
              · have e0 : ((0 : Int) == (j : Int)) = false := beq_false_of_ne (by omega)
                have hy := HY.out
                rw [if_neg h0] at hy
                subst hy
                go_wp2
                go_roundg (k + 1 - (j + 1))
                case rel => exact ⟨j + 1, rfl, ⟨by rw [if_neg (by omega)]⟩, by omega, by omega, hO3, h3', BN2⟩
                case measure => omega
            · have hJ : ¬ (j : Int) < k := by omega
              have hy := HY.out
              rw [if_neg (by omega)] at hy
              subst hy
              have BF := Bx.mk (HBW.out _ BN)
              go_wp2
              go_ret2
              exact ⟨⟨_, rfl⟩, BF.out⟩
end Go.Proofs.Ytjeddcijefnbfaa
