/- The walk of TreeLeft. -/
import Derived.Test.YtjeddcijefnbfaaMk
import Derived.Test.YtjeddcijefnbfaaTj
set_option linter.unusedVariables false
set_option linter.unusedSimpArgs false
namespace Go.Proofs.Ytjeddcijefnbfaa
open Go.RowKit

theorem left_all {P : PNet} {m : Nat} {r : Int} {up : List Int} (G : Grown P m) (hM : P.T.length = 0 ∨ Map P) (Y : IsTree P.T up m r) :
    ∃ k : Nat, max (faceN P.X) 1 = k ∧ k ≤ 48 ∧ (leftL P.T up).length + 1 = k ∧ (∀ i : Nat, i < (leftL P.T up).length → rd (uf (facesOf P.X) (leftL P.T up) k i) (rd (facesOf P.X) (rd (leftL P.T up) i)) ≠ rd (uf (facesOf P.X) (leftL P.T up) k i) (rd (facesOf P.X) (rd (leftL P.T up) i + 1))) ∧ (∀ z : Int, 0 ≤ z → z < P.T.length → 0 ≤ rd (facesOf P.X) z ∧ rd (facesOf P.X) z < k) := by
  have hlx := G.F.lx
  have F := faces_all G.F.px (by rw [hlx]; exact G.he)
  have k0 := F.k0
  by_cases h0 : P.T.length = 0
  · have e : faceN P.X = 0 := by
      unfold faceN
      rw [hlx, h0]
      rfl
    have el : leftL P.T up = [] := by
      unfold leftL
      rw [h0]
      rfl
    refine ⟨1, by omega, by omega, by rw [el]; rfl, fun i hi => by rw [el] at hi; simp at hi, fun z z0 z1 => by omega⟩
  · have hM : Map P := by
      rcases hM with h | h
      · exact absurd h h0
      · exact h
    have LC := left_count Y G.he G.ht
    have hl48 := G.l48
    have hk1 : 1 ≤ faceN P.X := by
      have a := F.don 0 (by omega) (by omega) (by omega)
      rcases F.rng 0 (by omega) (by omega) with h | h <;> omega
    obtain ⟨a, b⟩ := left_tree G.F hM G.hN (by omega) Y (k := (faceN P.X).toNat) (by omega)
    refine ⟨(faceN P.X).toNat, by omega, by omega, a, b, fun z z0 z1 => ?_⟩
    have c := F.don z z0 (by omega) (by omega)
    rcases F.rng z z0 (by omega) with h | h <;> omega

set_option maxHeartbeats 6400000 in
set_option maxRecDepth 100000 in
theorem left_walk (a : Option Addr) (cap : Nat) (zs : List Int) (root : Int) (w : World) (hz : RowOf w a zs) :
    Calls Try.prog 5 #[.slice a zs.length cap, .int .i64 root] w fun e w' => e = .returned (.bool true) ∧ Below w.heap.size w w' := by
  go_enter Try.func5, Try.ntmps5
  go_wp2_with fail
  refine (known_any _).mono ?_
  rintro e w1 ⟨rfl, hB1⟩
  go_wp2_with fail
  refine (plane_net3 a cap zs w1 (hz.keep hB1)).mono ?_
  rintro e w2 ⟨m, aT, aX, aC, cT, cX, cC, hm, rfl, rT, rX, oC, hB2⟩
  have hB12 := below_below hB1 hB2
  have G := grown_plane hm
  have MP := map_plane zs
  obtain ⟨P, hP⟩ : ∃ P, P = planeOf zs := ⟨_, rfl⟩
  rw [← hP] at G rT rX oC MP ⊢
  have MB := Bx.mk MP
  clear hP hm hB1 hB2 MP
  have hm0 := G.m0
  have hm25 := G.m25
  have hl48 := G.l48
  have hb := box_new w2 #[.int .i64 m, .slice aT P.T.length cT, .slice aX P.X.length cX, .slice aC P.C.length cC] 25
  have hB3 := below_alloc hB12 (.cells #[.int .i64 m, .slice aT P.T.length cT, .slice aX P.X.length cX, .slice aC P.C.length cC] 25)
  have hk := below_alloc (Below.refl w2.heap.size w2) (.cells #[.int .i64 m, .slice aT P.T.length cT, .slice aX P.X.length cX, .slice aC P.C.length cC] 25)
  have rT3 := rT.keep hk
  have rX3 := rX.keep hk
  have oC3 := oC.keep hk
  go_upto_region 4 with fail
  generalize w2.alloc _ = w3 at hb hB3 rT3 rX3 oC3 ⊢
  generalize w2.heap.size = b at hb ⊢
  clear rT rX oC hk hB12
  have hr := wi_rng root m (by omega)
  have WI : ∀ w : World, Calls Try.prog 14 #[.int .i64 root, .int .i64 m] w fun e w' => e = .returned (.int .i64 (wi root m)) ∧ w = w' := fun w => within4_any root m (by omega) (by omega) w
  generalize wi root m = r at hr WI
  have YT := span_tree G.he G.ht hr.1 hr.2 G.C
  have SP := fun (W : World) (hT : RowOf W aT P.T) => span_any (aX := aX) (aC := aC) (cT := cT) (cX := cX) (cC := cC) (X := P.X) (C := P.C) hT G.he (by omega) (by omega) G.ht hr.1 hr.2
  obtain ⟨U, hU⟩ : ∃ U, spanL P.T m r = U := ⟨_, rfl⟩
  rw [hU] at YT SP
  have hUl := YT.len
  have UL := Bx.mk hUl
  have hUle : U.length ≤ 60 := by omega
  have YTB := Bx.mk YT
  clear hU hUl YT
  have HK := net_held hb
  go_region_held3 (fun W => Below w3.heap.size w3 W ∧ W.cell? ⟨b, 0, none⟩ = some (.int .i64 m) ∧ W.cell? ⟨b, 1, none⟩ = some (.slice aT P.T.length cT) ∧ W.cell? ⟨b, 2, none⟩ = some (.slice aX P.X.length cX) ∧ W.cell? ⟨b, 3, none⟩ = some (.slice aC P.C.length cC))
    (first | assumption | exact HK.out _ (below_below (And.left ‹_ ∧ _›) hB1) | exact HK.out _ (Below.drew (Below.refl _ _)))
    (first
      | (go_at_call 14; (with_reducible refine (WI _).mono ?_); rintro e w' ⟨rfl, rfl⟩)
      | (go_at_call 15; (with_reducible refine (SP _ (rT3.keep (And.left ‹_ ∧ _›))).mono ?_); rintro e W5 ⟨v5, rfl, o5, hB1⟩; obtain ⟨aU, cU, rfl, rU⟩ := o5.row))
  have BW := And.left ‹Below w3.heap.size w3 W5 ∧ _›
  have hb5 := hb.keep BW
  have rT5 := rT3.keep BW
  have rX5 := rX3.keep BW
  have oC5 := oC3.keep BW
  have hB5 := below_below hB3 BW
  clear HK SP WI o5 hB1 BW hb rT3 rX3 oC3 hB3 hr
  obtain ⟨K, hK, hK48, hKl, hne, hfr⟩ := left_all G MB.out YTB.out
  have lrng : ∀ j : Nat, j < (leftL P.T U).length → 0 ≤ rd (leftL P.T U) j ∧ rd (leftL P.T U) j + 1 < P.T.length := fun j hj => by
    have := left_rng (rd_mem (xs := leftL P.T U) (i := j) (by omega) (by omega))
    omega
  have lsrt : ∀ j : Nat, 0 < j → j < (leftL P.T U).length → rd (leftL P.T U) ((j : Int) - 1) < rd (leftL P.T U) j := fun j h0 hj => left_lt (by omega) (by omega)
  have LF := left_any (N := m) (aT := aT) (aX := aX) (aC := aC) (cT := cT) (cX := cX) (cC := cC) (cU := cU) (T := P.T) (X := P.X) (C := P.C) rU G.he (by omega) (by omega)
  obtain ⟨L, hL⟩ : ∃ L, leftL P.T U = L := ⟨_, rfl⟩
  rw [hL] at LF hKl hne lrng lsrt
  have HNE := Bx.mk hne
  have HFR := Bx.mk hfr
  have HLR := Bx.mk lrng
  have HLS := Bx.mk lsrt
  clear hL hne hfr lrng lsrt
  have k0 := hb5.cell 0
  have k1 := hb5.cell 1
  have k2 := hb5.cell 2
  have k3 := hb5.cell 3
  go_wp2_with fail
  refine LF.mono ?_
  rintro e w6 ⟨v6, rfl, o6, hB1⟩
  obtain ⟨aL, cL, rfl, rL⟩ := o6.row
  have hb6 := hb5.keep hB1
  have rT6 := rT5.keep hB1
  have rX6 := rX5.keep hB1
  have oC6 := oC5.keep hB1
  have hB6 := below_below hB5 hB1
  clear LF k0 k1 k2 k3 hb5 rT5 rX5 oC5 hB5 hB1 o6 rU
  have lX := G.F.lx
  have hXe : (P.X.length : Int) % 2 = 0 := by rw [lX]; exact G.he
  have hX240 : P.X.length ≤ 240 := by omega
  have hC240 : P.C.length ≤ 240 := by rw [G.F.lc]; omega
  have RG := rings_of G.F.px hXe hX240
  have hfl : (facesOf P.X).length = P.X.length := (faces_all G.F.px hXe).len
  have hf0 : 0 ≤ faceN P.X := (faces_all G.F.px hXe).k0
  have FA := faces_any (w := w6) (N := m) (aT := aT) (aX := aX) (aC := aC) (cT := cT) (cX := cX) (cC := cC) (T := P.T) (X := P.X) (C := P.C) rX6 lX.symm hXe hX240 RG
  rw [hK] at FA
  obtain ⟨fs, hfs⟩ : ∃ fs, facesOf P.X = fs := ⟨_, rfl⟩
  rw [hfs] at FA hfl HNE HFR
  have HFL := Bx.mk (show fs.length = P.T.length by rw [hfl, lX])
  have HLX := Bx.mk lX
  have HKK := Bx.mk hK
  clear hfs hfl hK lX
  have k0 := hb6.cell 0
  have k1 := hb6.cell 1
  have k2 := hb6.cell 2
  have k3 := hb6.cell 3
  go_wp2_with fail
  refine FA.mono ?_
  rintro e w7 ⟨v7, rfl, o7, hB1⟩
  obtain ⟨aF, cF, rfl, rF⟩ := o7.row
  have hb7 := hb6.keep hB1
  have rT7 := rT6.keep hB1
  have rX7 := rX6.keep hB1
  have oC7 := oC6.keep hB1
  have rL7 := rL.keep hB1
  have hB7 := below_below hB6 hB1
  clear FA k0 k1 k2 k3 hb6 rT6 rX6 oC6 hB6 hB1 o7 rL
  have MK := make_any (m := m) (cT := cT) (cX := cX) rT7 rX7 oC7 HLX.out.symm hXe hX240 hC240 RG hf0
  rw [HKK.out] at MK
  have k0 := hb7.cell 0
  have k1 := hb7.cell 1
  have k2 := hb7.cell 2
  have k3 := hb7.cell 3
  go_wp2_with fail
  refine MK.mono ?_
  rintro e w8 ⟨dT, dX, dC, lT, eT, lX, eX, lC, eC, rfl, hB1⟩
  have rF8 := rF.keep hB1
  have rL8 := rL7.keep hB1
  have hB8 := below_below hB7 hB1
  clear MK k0 k1 k2 k3 hb7 rT7 rX7 oC7 hB7 hB1 rL7 rF
  have hbm := box_new w8 #[.int .i64 K, .slice dT lT eT, .slice dX lX eX, .slice dC lC eC] 25
  have hk9 := below_alloc (Below.refl w8.heap.size w8) (.cells #[.int .i64 K, .slice dT lT eT, .slice dX lX eX, .slice dC lC eC] 25)
  have rF9 := rF8.keep hk9
  have rL9 := rL8.keep hk9
  have hB9 := below_below hB8 hk9
  go_upto_region 8 with fail
  generalize w8.alloc _ = w9 at hbm rF9 rL9 hB9 ⊢
  generalize w8.heap.size = bm at hbm ⊢
  clear hk9 rF8 rL8 hB8
  have k0 := hbm.cell 0
  have n1 : ((K : Int) != K) = false := by simp
  have n2 : ((L.length : Int) != (K : Int) - 1) = false := by simp; omega
  have hmk : ∀ w : World, (Instr.makeSlice 22 (.int .i64 K) (.int .i64 K)).run Try.prog w = .ok (.slice (some ⟨w.heap.size, 0, none⟩) K K) (w.alloc (.cells (madeCells #[.int .i64 0] K) 3)) :=
    run_make_row' (P := Try.prog) 22 3 (.int .i64 0) 8 Try.underlying22 info3 rfl .i64 .i64 K (by omega) (by omega)
  have hown := own_made w9 w9.heap.size K (Nat.le_refl _) (by omega)
  have BW := below_alloc (Below.refl w9.heap.size w9) (.cells (madeCells #[.int .i64 0] K) 3)
  obtain ⟨gO, hgO⟩ : ∃ gO, w9.heap.size = gO := ⟨_, rfl⟩
  have hgl : w9.heap.size ≤ gO := by omega
  rw [show OwnN (w9.alloc (.cells (madeCells #[.int .i64 0] K) 3)) w9.heap.size w9.heap.size K K (List.replicate K 0) = OwnN (w9.alloc (.cells (madeCells #[.int .i64 0] K) 3)) w9.heap.size gO K K (List.replicate K 0) from by rw [hgO]] at hown
  go_upto_region 11 with fail
  generalize w9.alloc _ = w10 at hown BW ⊢
  clear hmk k0 n1 n2 hgO
  have hTF : (P.T.length : Int) ≤ fs.length := by have := HFL.out; omega
  have hFT : (fs.length : Int) ≤ P.T.length := by have := HFL.out; omega
  go_wp2
  go_loopg [12] (K + 1) (fun q y wr => ∃ j : Nat, y = .int .i64 j ∧ q = K + 1 - j ∧ j ≤ K ∧ (∃ D, OwnN wr w9.heap.size gO K K D ∧ Bx (∀ z : Int, 0 ≤ z → z < j → rd D z = z)) ∧ Below w9.heap.size w9 wr)
  case atStart => exact ⟨0, rfl, by omega, by omega, ⟨_, hown, ⟨fun z h0 h1 => by omega⟩⟩, BW⟩
  case round =>
    clear hown BW
    obtain ⟨j, rfl, hq, hj, ⟨D, hown, HD⟩, BW⟩ := hrel
    by_cases hjm : j < K
    · have hjI : (j : Int) < K := by omega
      have c1 := hown.cell j (by omega) hjI
      have f1 := hown.fz j
      rw [Int.toNat_natCast] at c1 f1
      have h2 := hown.set j j
      rw [Int.toNat_natCast] at h2
      have BW2 := below_set BW (p := ⟨gO, j, none⟩) hgl (.int .i64 (j : Int))
      have HDl := Bx.mk hown.1
      clear hown BW
      go_wp2
      go_roundg (K + 1 - (j + 1))
      case rel => exact ⟨j + 1, rfl, rfl, by omega, ⟨_, h2, ⟨fun z h0 h1 => (by
        rw [rd_st _ _ _ _ (by omega) (by rw [HDl.out]; exact hjI) h0]
        by_cases e : z = j
        · rw [if_pos e, e]
        · rw [if_neg e, HD.out z h0 (by omega)])⟩⟩, BW2⟩
      case measure => omega
    · have hjI : ¬ (j : Int) < K := by omega
      obtain rfl : K = j := by omega
      have hD : D = ids K := rows_ext (by rw [hown.1, ids_length]) (fun z h0 h1 => by rw [hown.1] at h1; rw [HD.out z h0 h1, rd_ids h0 h1])
      rw [hD] at hown
      clear hD HD hq hj hjm
      go_wp2
      go_loopg [13] (L.length + 1) (fun q y wr => ∃ i : Nat, y = .int .i64 i ∧ q = L.length + 1 - i ∧ i ≤ L.length ∧ OwnN wr w9.heap.size gO K K (uf fs L K i) ∧ Below w9.heap.size w9 wr)
      case atStart => exact ⟨0, rfl, by omega, by omega, hown, BW⟩
      case round =>
        clear hown BW
        obtain ⟨i, rfl, hq, hi, hown, BW⟩ := hrel
        by_cases hil : i < L.length
        · have hI : (i : Int) < L.length := by omega
          have l1 := HLR.out i hil
          have nb := HNE.out i hil
          have hur := uf_rng fs L K i (fun j hj => HFR.out _ (HLR.out j (by omega)).1 (by have := (HLR.out j (by omega)).2; omega))
          have x1 := HFR.out _ l1.1 (by omega)
          have x2 := HFR.out (rd L i + 1) (by omega) l1.2
          have u1 := hur _ x1.1 x1.2
          have u2 := hur _ x2.1 x2.2
          have NX := Bx.mk (show uf fs L K (i + 1) = joinAll (uf fs L K i) (rd (uf fs L K i) (rd fs (rd L i))) (rd (uf fs L K i) (rd fs (rd L i + 1))) from rfl)
          obtain ⟨O, hO⟩ : ∃ O, uf fs L K i = O := ⟨_, rfl⟩
          rw [hO] at hown nb u1 u2 NX
          clear hO hur
          obtain ⟨bL, oL, eL, _, cl⟩ := (rL9.keep BW) i (by omega) hI
          obtain ⟨d, hd⟩ : ∃ d, rd L i = d := ⟨_, rfl⟩
          rw [hd] at l1 nb x1 x2 u1 u2 NX
          rw [hd, Int.toNat_natCast] at cl
          have hd0 := l1.1
          have hd1 := l1.2
          obtain ⟨bF, oF, eF, _, cf1⟩ := (rF9.keep BW) d hd0 (by omega)
          obtain ⟨bF', oF', eF', _, cf2⟩ := (rF9.keep BW) (d + 1) (by omega) (by omega)
          have EL := Bx.mk eL
          subst eF
          obtain ⟨rfl, rfl⟩ : bF = bF' ∧ oF = oF' := by simpa using eF'
          obtain ⟨p1, hp1⟩ : ∃ p1, rd fs d = p1 := ⟨_, rfl⟩
          obtain ⟨p2, hp2⟩ : ∃ p2, rd fs (d + 1) = p2 := ⟨_, rfl⟩
          rw [hp1] at cf1 x1 nb u1 NX
          rw [hp2] at cf2 x2 nb u2 NX
          have x10 := x1.1
          have x11 := x1.2
          have x20 := x2.1
          have x21 := x2.2
          have co1 := hown.cell p1 x10 x11
          have co2 := hown.cell p2 x20 x21
          obtain ⟨A, hA⟩ : ∃ A, rd O p1 = A := ⟨_, rfl⟩
          obtain ⟨B, hBe⟩ : ∃ B, rd O p2 = B := ⟨_, rfl⟩
          rw [hA] at co1 nb NX
          rw [hBe] at co2 nb NX
          have f1 : decide (d < 0) = false := decide_eq_false (by omega)
          have y1 : IntKind.i64.wrap (d + 1) = d + 1 := IntWalk.i64_in _ (by omega)
          have f2 : decide (d + 1 ≥ (fs.length : Int)) = false := decide_eq_false (by omega)
          have f2' : decide ((fs.length : Int) ≤ d + 1) = false := decide_eq_false (by omega)
          have f5 : (A == B) = false := by simpa using nb
          have ez : (d + 1).toNat = d.toNat + 1 := by omega
          have HD1 := Bx.mk hd
          have HP1 := Bx.mk hp1
          have HP2 := Bx.mk hp2
          have HA1 := Bx.mk hA
          have HB1 := Bx.mk hBe
          clear hd hp1 hp2 hA hBe eF' nb x1 x2 u1 u2 l1
          subst eL
          go_upto_region 18 with fail
          go_cut [95] from 65 to 94 (fun s wx => s = .bool false ∧ OwnN wx w9.heap.size gO K K O ∧ Below w9.heap.size w9 wx)
          case first =>
            by_cases h0 : i = 0
            · have g0 : decide ((0 : Int) < i) = false := decide_eq_false (by omega)
              have g1 : decide (0 < i) = false := decide_eq_false (by omega)
              clear h0
              go_quiet (fail)
              go_step
              go_step
              go_meet
              case rel => exact ⟨rfl, hown.keep (below_drewN (Below.refl _ _) _), below_drewN BW _⟩
            · have g0 : decide ((0 : Int) < i) = true := decide_eq_true (by omega)
              have g1 : decide (0 < i) = true := decide_eq_true (by omega)
              have y2 : IntKind.i64.wrap ((i : Int) - 1) = (i : Int) - 1 := IntWalk.i64_in _ (by omega)
              obtain ⟨bL', oL', eL', _, cl2⟩ := (rL9.keep BW) ((i : Int) - 1) (by omega) (by omega)
              obtain ⟨rfl, rfl⟩ : bL = bL' ∧ oL = oL' := by simpa using eL'
              have hs := HLS.out i (by omega) hil
              obtain ⟨d', hd'⟩ : ∃ d', rd L ((i : Int) - 1) = d' := ⟨_, rfl⟩
              have hdd : d' < d := by
                have h1 : rd L i = d := by
                  obtain ⟨b', o', e', _, c'⟩ := (rL9.keep BW) i (by omega) hI
                  obtain ⟨rfl, rfl⟩ : bL = b' ∧ oL = o' := by simpa using e'
                  rw [Int.toNat_natCast, cl] at c'
                  injection c' with c'
                  injection c' with _ c'
                  exact c'.symm
                rw [h1, hd'] at hs
                exact hs
              rw [hd'] at cl2
              have g2 : decide (d' ≥ d) = false := decide_eq_false (by omega)
              have g3 : decide (d ≤ d') = false := decide_eq_false (by omega)
              have z0 : (0 : Int) ≤ (i : Int) - 1 := by omega
              have z1 : (i : Int) - 1 < L.length := by omega
              have z0' : (1 : Int) ≤ (i : Int) := by omega
              have z0'' : 1 ≤ i := by omega
              have z1' : i - 1 < L.length := by omega
              have zt : ((i : Int) - 1).toNat = i - 1 := by omega
              have cl2' := cl2
              rw [zt] at cl2'
              clear h0 eL' hs hd'
              go_quiet (fail)
              go_step
              go_step
              go_meet
              case rel => exact ⟨rfl, hown.keep (below_drewN (Below.refl _ _) _), below_drewN BW _⟩
          case rest =>
            obtain ⟨rfl, hown, BW⟩ := hcut
            clear cl cf1 cf2 co1 co2
            obtain ⟨b1, o1, e1, _, cl⟩ := (rL9.keep BW) i (by omega) hI
            obtain ⟨rfl, rfl⟩ : bL = b1 ∧ oL = o1 := by simpa using e1
            rw [HD1.out, Int.toNat_natCast] at cl
            obtain ⟨b2, o2, e2, _, cf1⟩ := (rF9.keep BW) d hd0 (by omega)
            obtain ⟨rfl, rfl⟩ : bF = b2 ∧ oF = o2 := by simpa using e2
            obtain ⟨b3, o3, e3, _, cf2⟩ := (rF9.keep BW) (d + 1) (by omega) (by omega)
            obtain ⟨rfl, rfl⟩ : bF = b3 ∧ oF = o3 := by simpa using e3
            rw [HP1.out] at cf1
            rw [HP2.out] at cf2
            have cf2' := cf2
            rw [ez] at cf2'
            have co1 := hown.cell p1 x10 x11
            have co2 := hown.cell p2 x20 x21
            rw [HA1.out] at co1
            rw [HB1.out] at co2
            have dF0 : d < fs.length := by omega
            have dF1 : d + 1 < fs.length := by omega
            have dF2 : (0 : Int) ≤ d + 1 := by omega
            clear e1 e2 e3
            go_upto_region 20 with fail
            go_cut [14, 15] from 96 to 116 (fun s t wx => s = .int .i64 A ∧ t = .int .i64 B ∧ OwnN wx w9.heap.size gO K K O ∧ Below w9.heap.size w9 wx)
            case first =>
              go_quiet (fail)
              go_step
              go_step
              go_meet
              case rel => exact ⟨rfl, rfl, hown.keep (below_drewN (Below.refl _ _) _), below_drewN BW _⟩
            case rest =>
              obtain ⟨rfl, rfl, hown, BW⟩ := hcut
              clear cl cf1 cf2 cf2' co1 co2 HD1 HP1 HP2 HA1 HB1 ez
              go_wp2
              go_loopg [16] (K + 1) (fun q y wr => ∃ j : Nat, y = .int .i64 j ∧ q = K + 1 - j ∧ j ≤ K ∧ (∃ D, OwnN wr w9.heap.size gO K K D ∧ Bx (∀ z : Int, 0 ≤ z → z < j → rd D z = rd (joinAll O A B) z) ∧ Bx (∀ z : Int, j ≤ z → z < K → rd D z = rd O z)) ∧ Below w9.heap.size w9 wr)
              case atStart => exact ⟨0, rfl, by omega, by omega, ⟨_, hown, ⟨fun z h0 h1 => by omega⟩, ⟨fun z h0 h1 => rfl⟩⟩, BW⟩
              case round =>
                have HOl := Bx.mk hown.1
                clear hown BW
                obtain ⟨j, rfl, hq, hj, ⟨D, hown, HD, HE⟩, BW⟩ := hrel
                by_cases hjm : j < K
                · have hjI : (j : Int) < K := by omega
                  have c1 := hown.cell j (by omega) hjI
                  have f1 := hown.fz j
                  rw [Int.toNat_natCast] at c1 f1
                  have h2 := hown.set j A
                  rw [Int.toNat_natCast] at h2
                  have BW2 := below_set BW (p := ⟨gO, j, none⟩) hgl (.int .i64 A)
                  have HDl := Bx.mk hown.1
                  have e0 := HE.out j (by omega) hjI
                  have HJ := Bx.mk (rd_joinAll (of := O) (a := A) (b := B) (i := (j : Int)) (by omega) (by rw [HOl.out]; exact hjI))
                  rw [e0] at c1
                  obtain ⟨v, hv⟩ : ∃ v, rd O j = v := ⟨_, rfl⟩
                  have e0 := Bx.mk e0
                  rw [hv] at c1 HJ e0
                  clear hv
                  by_cases hvB : v = B
                  · have HJ2 := Bx.mk (show rd (joinAll O A B) j = A from by rw [HJ.out, if_pos hvB])
                    subst hvB
                    clear hown BW HJ e0
                    go_wp2
                    go_roundg (K + 1 - (j + 1))
                    case rel => exact ⟨j + 1, rfl, rfl, by omega, ⟨_, h2, ⟨fun z h0 h1 => (by
                      rw [rd_st _ _ _ _ (by omega) (by rw [HDl.out]; exact hjI) h0]
                      by_cases e : z = j
                      · rw [if_pos e, e, HJ2.out]
                      · rw [if_neg e, HD.out z h0 (by omega)])⟩, ⟨fun z h0 h1 => (by
                      rw [rd_st _ _ _ _ (by omega) (by rw [HDl.out]; exact hjI) (by omega), if_neg (by omega)]
                      exact HE.out z (by omega) h1)⟩⟩, BW2⟩
                    case measure => omega
                  · have HJ2 := Bx.mk (show rd (joinAll O A B) j = v from by rw [HJ.out, if_neg hvB])
                    have f6 : (v == B) = false := by simpa using hvB
                    clear hvB h2 BW2 HJ
                    go_wp2
                    go_roundg (K + 1 - (j + 1))
                    case rel => exact ⟨j + 1, rfl, rfl, by omega, ⟨_, hown, ⟨fun z h0 h1 => (by
                      by_cases e : z = j
                      · rw [e, HJ2.out, e0.out]
                      · exact HD.out z h0 (by omega))⟩, ⟨fun z h0 h1 => HE.out z (by omega) h1⟩⟩, BW⟩
                    case measure => omega
                · have hjI : ¬ (j : Int) < K := by omega
                  obtain rfl : K = j := by omega
                  have hD : D = joinAll O A B := rows_ext (by rw [hown.1, joinAll_length, HOl.out]) (fun z h0 h1 => by rw [hown.1] at h1; exact HD.out z h0 h1)
                  rw [hD, ← NX.out] at hown
                  clear hD HD HE hj hjm NX f5
                  go_wp2
                  go_roundg (L.length + 1 - (i + 1))
                  case rel => exact ⟨i + 1, rfl, rfl, by omega, hown, BW⟩
                  case measure => omega
        · have hI : ¬ (i : Int) < L.length := by omega
          go_wp2
          go_ret
          exact ⟨rfl, below_below hB9 BW⟩
end Go.Proofs.Ytjeddcijefnbfaa
