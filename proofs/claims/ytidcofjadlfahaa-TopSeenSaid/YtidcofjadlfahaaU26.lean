/- The walk of TopSeen. -/
import Derived.Test.YtidcofjadlfahaaU25
import Derived.Test.YtidcofjadlfahaaU20
import Derived.Test.YtidcofjadlfahaaPl
set_option linter.unusedVariables false
set_option linter.unusedSimpArgs false
namespace Go.Proofs.Ytidcofjadlfahaa
open Go.RowKit

theorem plane_top (a : Option Addr) (cap : Nat) (zs : List Int) (w : World) (hz : RowOf w a zs) :
    Calls Try.prog 7 #[.slice a zs.length cap] w fun r w' => ∃ (m : Nat) (aT aX aC : Option Addr) (cT cX cC : Nat), (planeOf zs).N = m ∧ r = .returned (.agg #[.int .i64 m, .slice aT (planeOf zs).T.length cT, .slice aX (planeOf zs).X.length cX, .slice aC (planeOf zs).C.length cC]) ∧ RowOf w' aT (planeOf zs).T ∧ RowOf w' aX (planeOf zs).X ∧ RowOf w' aC (planeOf zs).C ∧ Below w.heap.size w w' := by
  refine (plane_any a cap zs w hz).mono ?_
  rintro e w' ⟨vT, vX, vC, rfl, hT, hX, hC, hB⟩
  obtain ⟨aT, cT, rfl, rT⟩ := hT.row
  obtain ⟨aX, cX, rfl, rX⟩ := hX.row
  obtain ⟨aC, cC, rfl, rC⟩ := hC.row
  obtain ⟨F, l48, n25, CN⟩ := plane_facts zs
  have h0 : (0 : Int) ≤ (planeOf zs).N := by have := F.n1; omega
  exact ⟨(planeOf zs).N.toNat, aT, aX, aC, cT, cX, cC, by omega, by rw [Int.toNat_of_nonneg h0], rT, rX, rC, hB⟩
theorem cut_len (T X C : List Int) (I : List Bool) (m n : Nat) : (cutOf T X C I m n).length = if cycB T I m n = true then (outL T I n).length else 0 := by
  unfold cutOf
  split
  · rw [cycL_length]
  · rfl
set_option maxHeartbeats 6400000 in
set_option maxRecDepth 100000 in
theorem seen_walk (a : Option Addr) (cap : Nat) (zs : List Int) (s t : Int) (w : World) (hz : RowOf w a zs) :
    Calls Try.prog 5 #[.slice a zs.length cap, .int .i64 s, .int .i64 t] w fun e w' => e = .returned (.bool true) ∧ Below w.heap.size w w' := by
  go_enter Try.func5, Try.ntmps5
  go_wp2_with fail
  refine (known_any _).mono ?_
  rintro e w1 ⟨rfl, hB1⟩
  go_wp2_with fail
  refine (plane_top a cap zs w1 (hz.keep hB1)).mono ?_
  rintro e w2 ⟨m, aT, aX, aC, cT, cX, cC, hm, rfl, rT, rX, rC, hB2⟩
  have hB12 := below_below hB1 hB2
  have GP := Bx.mk (fun h2 : 2 ≤ m => good_plane zs hm h2)
  obtain ⟨P, hP⟩ : ∃ P, P = planeOf zs := ⟨_, rfl⟩
  rw [← hP] at rT rX rC GP ⊢
  clear hP hm hB1 hB2 hz
  obtain ⟨lT, hT⟩ : ∃ l, P.T.length = l := ⟨_, rfl⟩
  obtain ⟨lX, hX⟩ : ∃ l, P.X.length = l := ⟨_, rfl⟩
  obtain ⟨lC, hC⟩ : ∃ l, P.C.length = l := ⟨_, rfl⟩
  have HL := Bx.mk (And.intro hT (And.intro hX hC))
  rw [hT, hX, hC]
  clear hT hX hC
  have hb := box_new w2 #[.int .i64 m, .slice aT lT cT, .slice aX lX cX, .slice aC lC cC] 25
  have hB3 := below_alloc hB12 (.cells #[.int .i64 m, .slice aT lT cT, .slice aX lX cX, .slice aC lC cC] 25)
  have hk := below_alloc (Below.refl w2.heap.size w2) (.cells #[.int .i64 m, .slice aT lT cT, .slice aX lX cX, .slice aC lC cC] 25)
  have rT3 := rT.keep hk
  have rX3 := rX.keep hk
  have rC3 := rC.keep hk
  go_upto_region 4 with fail
  generalize w2.alloc _ = wa at hb hB3 rT3 rX3 rC3 ⊢
  generalize w2.heap.size = b at hb ⊢
  clear rT rX rC hk hB12
  by_cases h2 : (m : Int) < 2
  · have k0 := hb.cell 0
    have k1 := hb.cell 1
    have k2 := hb.cell 2
    have k3 := hb.cell 3
    simp only [List.getElem?_toArray, List.getElem?_cons_zero, List.getElem?_cons_succ] at k0 k1 k2 k3
    have S1 := fun W => two_no (w := W) (aT := aT) (aX := aX) (aC := aC) (lT := lT) (lX := lX) (lC := lC) (kT := cT) (kX := cX) (kC := cC) (m : Int) s t h2
    go_wp2_with fail
    refine (S1 _).mono ?_
    rintro e w4 ⟨rfl, B4⟩
    clear k0 k1 k2 k3
    go_wp2
    go_ret
    exact ⟨rfl, below_below hB3 B4⟩
  obtain ⟨G, l48, m25⟩ := GP.out (by omega)
  obtain ⟨q1, q2, q3⟩ := HL.out
  obtain rfl : lX = lT := by have := G.lX; omega
  obtain rfl : lC = lX := by have := G.lC; omega
  rw [q1] at G l48
  have n2 := G.n2
  obtain ⟨bT, oT, rfl, RT⟩ := rT3.at' q1 (by omega)
  obtain ⟨bX, oX, rfl, RX⟩ := rX3.at' q2 (by omega)
  obtain ⟨bC, oC, rfl, RC⟩ := rC3.at' q3 (by omega)
  have HR := Bx.mk (fun W (h : Below wa.heap.size wa W) => (⟨RT.keep h, RX.keep h, RC.keep h⟩ : Rows3 W lC bT oT bX oX bC oC P.T P.X P.C))
  have HB := Bx.mk hB3
  have HK := Bx.mk (fun W (h : Below wa.heap.size wa W) => (⟨(hb.keep h).cell 0, (hb.keep h).cell 1, (hb.keep h).cell 2, (hb.keep h).cell 3⟩ : W.cell? ⟨b, 0, none⟩ = some (.int .i64 m) ∧ W.cell? ⟨b, 1, none⟩ = some (.slice (some ⟨bT, oT, none⟩) lC cT) ∧ W.cell? ⟨b, 2, none⟩ = some (.slice (some ⟨bX, oX, none⟩) lC cX) ∧ W.cell? ⟨b, 3, none⟩ = some (.slice (some ⟨bC, oC, none⟩) lC cC)))
  have GG := Bx.mk G
  clear HL GP rT3 rX3 rC3 RT RX RC hb hB3 q1 q2 q3 G
  generalize P.T = T at HR GG
  generalize P.X = X at HR GG
  generalize P.C = C at HR GG
  clear P
  generalize lC = n at HR HK GG n2 l48 ⊢
  obtain ⟨x0, x1, y0, y1, hxy⟩ := two_rng (N := (m : Int)) (s := s) (t := t) (by omega)
  have S1 := fun W => two_yes (w := W) (aT := some ⟨bT, oT, none⟩) (aX := some ⟨bX, oX, none⟩) (aC := some ⟨bC, oC, none⟩) (lT := n) (lX := n) (lC := n) (kT := cT) (kX := cX) (kC := cC) (m : Int) s t (by omega) (by omega)
  obtain ⟨x, hx⟩ : ∃ x, wi s (m : Int) = x := ⟨_, rfl⟩
  obtain ⟨y, hy⟩ : ∃ y, twoB (m : Int) s t = y := ⟨_, rfl⟩
  rw [hx] at S1 x0 x1 hxy
  rw [hy] at S1 y0 y1 hxy
  clear hx hy
  obtain ⟨k0, k1, k2, k3⟩ := HK.out _ (Below.refl _ _)
  go_wp2_with fail
  refine (S1 _).mono ?_
  rintro e w4 ⟨rfl, B4⟩
  clear k0 k1 k2 k3 S1
  have BF := Bx.mk B4
  obtain ⟨k0, k1, k2, k3⟩ := HK.out _ B4
  have S1 := least_any (kT := cT) (kX := cX) (kC := cC) GG.out (HR.out _ B4) x y x0 x1 y0 y1 hxy
  go_wp2_with fail
  refine S1.mono ?_
  rintro e w5 ⟨f, g1, v1, rfl, MI, p1, o1, B5⟩
  clear S1 k0 k1 k2 k3
  have MB := Bx.mk MI
  obtain ⟨I, hI⟩ : ∃ I, inOf T C f m n x y = I := ⟨_, rfl⟩
  rw [hI] at p1 o1 ⊢
  have IB := Bx.mk hI
  clear hI MI
  obtain ⟨S, hS⟩ : ∃ S, cutSum T C I n = S := ⟨_, rfl⟩
  rw [hS]
  have SB := Bx.mk hS
  clear hS
  obtain ⟨a1, c1, rfl, _⟩ := o1.row
  clear o1
  have HL1 := cut_len T X C I m n
  obtain ⟨L1, hL1⟩ : ∃ L1, (cutOf T X C I m n).length = L1 := ⟨_, rfl⟩
  rw [hL1] at HL1 ⊢
  have LB1 := Bx.mk HL1
  clear hL1 HL1
  have B6 := below_alloc (below_below B4 B5) (.cells #[.slice (some ⟨g1, 0, none⟩) m m, .int .i64 S, .slice a1 L1 c1] 42)
  have HZ := Bx.mk (box_new w5 #[.slice (some ⟨g1, 0, none⟩) m m, .int .i64 S, .slice a1 L1 c1] 42)
  have P1 := Bx.mk (p1.keep (below_alloc (Below.refl _ _) (.cells #[.slice (some ⟨g1, 0, none⟩) m m, .int .i64 S, .slice a1 L1 c1] 42)))
  clear p1 B4 B5
  go_upto_region 8 with fail
  go_simp
  go_upto_region 8 with fail
  generalize w5.alloc _ = w6 at B6 HZ P1 ⊢
  generalize w5.heap.size = z1 at HZ ⊢
  obtain ⟨k0, k1, k2, k3⟩ := HK.out _ B6
  have S1 := turn_any (kT := cT) (kX := cX) (kC := cC) GG.out (HR.out _ B6)
  go_wp2_with fail
  refine S1.mono ?_
  rintro e w7 ⟨gT, gX, gC, kT, kX, kC, Y, rfl, lY, hY, R7, B7⟩
  clear S1 k0 k1 k2 k3
  have G2 := GG.out.turn lY hY
  have S1 := least_any (kT := kT) (kX := kX) (kC := kC) G2 R7 x y x0 x1 y0 y1 hxy
  clear hY lY R7 G2
  go_wp2_with fail
  refine S1.mono ?_
  rintro e w8 ⟨f2, g2, v2, rfl, MI, p2, o2, B8⟩
  clear S1
  obtain rfl := MI.det MB.out
  rw [IB.out] at p2 o2 ⊢
  rw [SB.out]
  obtain ⟨a2, c2, rfl, _⟩ := o2.row
  rw [cut_len, ← LB1.out]
  clear o2 MI
  have B9 := below_alloc (below_below (below_below B6 B7) B8) (.cells #[.slice (some ⟨g2, 0, none⟩) m m, .int .i64 S, .slice a2 L1 c2] 42)
  have HZ2 := Bx.mk (box_new w8 #[.slice (some ⟨g2, 0, none⟩) m m, .int .i64 S, .slice a2 L1 c2] 42)
  have kk := below_alloc (Below.refl w8.heap.size w8) (.cells #[.slice (some ⟨g2, 0, none⟩) m m, .int .i64 S, .slice a2 L1 c2] 42)
  have P2 := Bx.mk (p2.keep kk)
  have P3 := Bx.mk (((P1.out.keep B7).keep B8).keep kk)
  have HZ1 := Bx.mk (((HZ.out.keep B7).keep B8).keep kk)
  clear p2 P1 HZ B6 B7 B8 kk
  go_upto_region 9 with fail
  go_simp
  go_upto_region 9 with fail
  generalize w8.alloc _ = w9 at B9 HZ1 HZ2 P2 P3 ⊢
  generalize w8.heap.size = z2 at HZ2 ⊢
  have HD := Bx.mk (fun W (h : Below w9.heap.size w9 W) => (⟨(HZ1.out.keep h).cell 0, (HZ1.out.keep h).cell 1, (HZ1.out.keep h).cell 2, (HZ2.out.keep h).cell 0, (HZ2.out.keep h).cell 1, (HZ2.out.keep h).cell 2⟩ : W.cell? ⟨z1, 0, none⟩ = some (.slice (some ⟨g1, 0, none⟩) m m) ∧ W.cell? ⟨z1, 1, none⟩ = some (.int .i64 S) ∧ W.cell? ⟨z1, 2, none⟩ = some (.slice a1 L1 c1) ∧ W.cell? ⟨z2, 0, none⟩ = some (.slice (some ⟨g2, 0, none⟩) m m) ∧ W.cell? ⟨z2, 1, none⟩ = some (.int .i64 S) ∧ W.cell? ⟨z2, 2, none⟩ = some (.slice a2 L1 c2)))
  obtain ⟨d0, d1, d2, e0, e1, e2⟩ := HD.out w9 (Below.refl _ _)
  go_wp2
  go_loopg [15] (m + 1) (fun q y wr => ∃ j : Nat, y = .int .i64 j ∧ q = m + 1 - j ∧ j ≤ m ∧ Below w9.heap.size w9 wr)
  case atStart => exact ⟨0, rfl, by omega, by omega, Below.refl _ _⟩
  case round =>
    clear d0 d1 d2 e0 e1 e2
    obtain ⟨j, rfl, hq, hj, BW⟩ := hrel
    obtain ⟨d0, d1, d2, e0, e1, e2⟩ := HD.out _ BW
    by_cases hjm : j < m
    · have hjI : (j : Int) < m := by omega
      have f1 := (P3.out.keep BW).cell j (by omega) hjI
      have f2 := (P2.out.keep BW).cell j (by omega) hjI
      rw [Int.toNat_natCast] at f1 f2
      obtain ⟨v, hv⟩ : ∃ v, rb I j = v := ⟨_, rfl⟩
      rw [hv] at f1 f2
      clear hv
      go_upto_region 14 with fail
      go_quiet (fail)
      go_wp2
      go_roundg (m + 1 - (j + 1))
      case rel => exact ⟨j + 1, rfl, rfl, by omega, below_drewN BW _⟩
      case measure => omega
    · have hjI : ¬ (j : Int) < m := by omega
      obtain rfl : m = j := by omega
      go_wp2
      go_ret
      exact ⟨rfl, below_below (HB.out) (below_below B9 BW)⟩
end Go.Proofs.Ytidcofjadlfahaa
