/- The walk of TreeWays. -/
import Derived.Test.YtjeddcijefnbfaaT0
import Derived.Test.YtjeddcijefnbfaaTw
import Derived.Test.YtjeddcijefnbfaaHeld
set_option linter.unusedVariables false
set_option linter.unusedSimpArgs false
namespace Go.Proofs.Ytjeddcijefnbfaa
open Go.RowKit

set_option maxHeartbeats 6400000 in
set_option maxRecDepth 100000 in
theorem ways_walk (a : Option Addr) (cap : Nat) (zs : List Int) (root v : Int) (w : World) (hz : RowOf w a zs) :
    Calls Try.prog 6 #[.slice a zs.length cap, .int .i64 root, .int .i64 v] w fun e w' => e = .returned (.bool true) ∧ Below w.heap.size w w' := by
  go_enter Try.func6, Try.ntmps6
  go_wp2_with fail
  refine (known_any _).mono ?_
  rintro e w1 ⟨rfl, hB1⟩
  go_wp2_with fail
  refine (plane_net a cap zs w1 (hz.keep hB1)).mono ?_
  rintro e w2 ⟨m, aT, aX, aC, cT, cX, cC, hm, rfl, rT, rX, rC, hB2⟩
  have hB12 := below_below hB1 hB2
  have G := grown_plane hm
  have PL : Bx (planeOf zs = planeOf zs) := ⟨rfl⟩
  obtain ⟨P, hP⟩ : ∃ P, P = planeOf zs := ⟨_, rfl⟩
  rw [← hP] at G rT rX rC ⊢
  have PZ := Bx.mk hP
  clear hP hm hB1 hB2 PL
  have hm0 := G.m0
  have hm25 := G.m25
  have hl48 := G.l48
  have hb := box_new w2 #[.int .i64 m, .slice aT P.T.length cT, .slice aX P.X.length cX, .slice aC P.C.length cC] 25
  have hB3 := below_alloc hB12 (.cells #[.int .i64 m, .slice aT P.T.length cT, .slice aX P.X.length cX, .slice aC P.C.length cC] 25)
  have hk := below_alloc (Below.refl w2.heap.size w2) (.cells #[.int .i64 m, .slice aT P.T.length cT, .slice aX P.X.length cX, .slice aC P.C.length cC] 25)
  have rT3 := rT.keep hk
  have rX3 := rX.keep hk
  have rC3 := rC.keep hk
  go_upto_region 4 with fail
  generalize w2.alloc _ = w3 at hb hB3 rT3 rX3 rC3 ⊢
  generalize w2.heap.size = b at hb ⊢
  clear rT rX rC hk hB12
  have k0 := hb.cell 0
  go_quiet ((go_at_call 14; refine (within4_any _ m (by omega) (by omega) _).mono ?_; rintro e w' ⟨rfl, rfl⟩; first | exact ⟨rfl, _, rfl⟩ | exact ⟨rfl, 0, rfl⟩))
  generalize hw4 : w3.drewN _ = w4
  have hk4 : Below w3.heap.size w3 w4 := hw4 ▸ below_drewN (Below.refl _ _) _
  have hB4 := below_below hB3 hk4
  have hb4 := hb.keep hk4
  have rT4 := rT3.keep hk4
  clear hw4 hk4 hb hB3 rT3 rX3 rC3 k0
  have hr := wi_rng root m (by omega)
  have hx := wi_rng v m (by omega)
  have W4 : ∀ w : World, Calls Try.prog 14 #[.int .i64 v, .int .i64 m] w fun e w' => e = .returned (.int .i64 (wi v m)) ∧ w = w' := fun w => within4_any v m (by omega) (by omega) w
  generalize wi root m = r at hr ⊢
  generalize wi v m = x at hx W4 ⊢
  have YT := span_tree G.he G.ht hr.1 hr.2 G.C
  have ED := Bx.mk (fun (d : Int) (d0 : 0 ≤ d) (d1 : d < P.T.length) => span_edge G.he G.ht hr.1 hr.2 G.C d0 d1)
  have SP := fun (W : World) (hT : RowOf W aT P.T) => span_any (aX := aX) (aC := aC) (cT := cT) (cX := cX) (cC := cC) (X := P.X) (C := P.C) hT G.he (by omega) (by omega) G.ht hr.1 hr.2
  obtain ⟨U, hU⟩ : ∃ U, spanL P.T m r = U := ⟨_, rfl⟩
  rw [hU] at YT SP ED
  have hUl := YT.len
  have UL := Bx.mk hUl
  clear hU
  have hr0 := hr.1
  have hr1 := hr.2
  have hx0 := hx.1
  have hx1 := hx.2
  have UP := Bx.mk YT.upOk
  have YTB := Bx.mk YT
  have hUle : U.length ≤ 60 := by rw [UL.out]; omega
  clear YT hr hx hUl
  have WY : ∀ (W : World) (hT : RowOf W aT P.T) (aU : Option Addr) (cU : Nat) (hU : RowOf W aU U), Calls Try.prog 21 #[.agg #[.int .i64 m, .slice aT P.T.length cT, .slice aX P.X.length cX, .slice aC P.C.length cC], .slice aU U.length cU, .int .i64 x] W fun e w' => ∃ v', e = .returned v' ∧ Own w' W.heap.size v' (wayL P.T U m x) ∧ Below W.heap.size W w' := fun W hT aU cU hU => by
    have k := way_any (N := m) (cT := cT) (cX := cX) (cC := cC) (X := P.X) (C := P.C) (aX := aX) (aC := aC) (cU := cU) x hT hU G.he (by omega) (by omega) (by rw [UL.out]; exact G.ht) (by rw [UL.out]; exact UP.out) hx0 (by rw [UL.out]; exact hx1)
    rwa [show wayL P.T U U.length x = wayL P.T U m x from by rw [UL.out]] at k
  have HK := net_held hb4
  go_upto_region 5 with fail
  go_region_held3 (fun W => Below w4.heap.size w4 W ∧ W.cell? ⟨b, 0, none⟩ = some (.int .i64 m) ∧ W.cell? ⟨b, 1, none⟩ = some (.slice aT P.T.length cT) ∧ W.cell? ⟨b, 2, none⟩ = some (.slice aX P.X.length cX) ∧ W.cell? ⟨b, 3, none⟩ = some (.slice aC P.C.length cC))
    (first | exact HK.out _ (below_below (And.left ‹_ ∧ _›) hB1) | exact HK.out _ (Below.drew (Below.refl _ _)))
    (first
      | (go_at_call 15; (with_reducible refine (SP _ (rT4.keep (And.left ‹_ ∧ _›))).mono ?_); rintro e W5 ⟨v5, rfl, o5, hB1⟩; obtain ⟨aU, cU, rfl, rU⟩ := o5.row)
      | (go_at_call 21; (with_reducible refine (WY _ (rT4.keep (And.left ‹_ ∧ _›)) _ _ rU).mono ?_); rintro e W6 ⟨v6, rfl, o6, hB1⟩; obtain ⟨aL, cL, rfl, rL⟩ := o6.row; replace rU := rU.keep hB1))
  have BW := And.left ‹Below w4.heap.size w4 W6 ∧ _›
  have hb6 := hb4.keep BW
  have rT6 := rT4.keep BW
  have hB6 := below_below hB4 BW
  clear HK SP WY o5 o6 hB1 BW hb4 rT4 hB4
  obtain ⟨L, hL⟩ : ∃ L, wayL P.T U m x = L := ⟨_, rfl⟩
  have LL := wayL_le P.T U m x
  rw [hL] at rL LL ⊢
  have LB := Bx.mk hL
  clear hL
  go_wp2
  go_loopg [9, 11] (L.length + 1) (fun q y9 y11 wr => ∃ i : Nat, y11 = .int .i64 i ∧ y9 = .int .i64 (itr (climb P.T U r) x i) ∧ q = L.length + 1 - i ∧ i ≤ L.length ∧ Below W6.heap.size W6 wr)
  case atStart => exact ⟨0, rfl, rfl, by omega, by omega, Below.refl _ _⟩
  case round =>
    obtain ⟨i, rfl, rfl, hq, hi, BW⟩ := hrel
    have hcr := climbs_rng G.he G.ht ⟨hr0, hr1⟩ YTB.out.ok hx0 hx1 i
    obtain ⟨y, hy⟩ : ∃ y, itr (climb P.T U r) x i = y := ⟨_, rfl⟩
    have HY := Bx.mk hy
    rw [hy] at hcr ⊢
    clear hy
    have b0 := (hb6.keep BW).cell 0
    have b1 := (hb6.keep BW).cell 1
    have b2 := (hb6.keep BW).cell 2
    have b3 := (hb6.keep BW).cell 3
    by_cases hil : i < L.length
    · have hI : (i : Int) < L.length := by omega
      obtain ⟨e1, e2⟩ := YTB.out.way_at G.he G.ht hx0 hx1 (i := i) (by rw [LB.out]; exact hil)
      rw [HY.out] at e1 e2
      rw [LB.out] at e2
      obtain ⟨p1, p2, p3⟩ := (YTB.out.ok y hcr.1 hcr.2).2 e1
      obtain ⟨bL, oL, rfl, _, cl⟩ := (rL.keep BW) i (by omega) hI
      obtain ⟨d, hd⟩ : ∃ d, rd U y = d := ⟨_, rfl⟩
      rw [e2, hd, Int.toNat_natCast] at cl
      rw [hd] at p1 p2 p3
      obtain ⟨bT, oT, rfl, _, ct⟩ := (rT6.keep BW) d p1 p2
      rw [p3] at ct
      have f1 : decide (d < 0) = false := decide_eq_false (by omega)
      have f2 : decide (d ≥ (P.T.length : Int)) = false := decide_eq_false (by omega)
      have f3 : (y != y) = false := by simp
      have f4 : (y == r) = false := by simpa using e1
      have HD := Bx.mk hd
      have E1 := Bx.mk e1
      clear e1 e2 p3 hd
      go_wp2
      go_quiet (fail)
      generalize hw7 : wr.drewN _ = w7
      have hk7 : Below wr.heap.size wr w7 := hw7 ▸ below_drewN (Below.refl _ _) _
      have BW7 := below_below BW hk7
      clear hw7 hk7 b0 b1 b2 b3 cl ct f1 f2 f3 f4 BW
      have b0 := (hb6.keep BW7).cell 0
      have b1 := (hb6.keep BW7).cell 1
      have b2 := (hb6.keep BW7).cell 2
      have b3 := (hb6.keep BW7).cell 3
      obtain ⟨bL', oL', eL, _, cl⟩ := (rL.keep BW7) i (by omega) hI
      obtain ⟨rfl, rfl⟩ : bL = bL' ∧ oL = oL' := by simpa using eL
      clear eL
      have e2 := (YTB.out.way_at G.he G.ht hx0 hx1 (i := i) (by rw [LB.out]; exact hil)).2
      rw [HY.out, LB.out, HD.out] at e2
      rw [e2, Int.toNat_natCast] at cl
      clear e2
      have RH := rhead_any (w := w7.drew) (N := m) (aT := some ⟨bT, oT, none⟩) (aX := aX) (aC := aC) (cT := cT) (cX := cX) (cC := cC) (T := P.T) (X := P.X) (C := P.C) d ((rT6.keep BW7).keep (Below.drew (Below.refl _ _))) p1 p2 G.he (by omega)
      go_wp2
      go_still_tail 5, (by kernel_rfl)
      change wpList _ _ _ _ _ w7.drew
      have bD := Bx.mk (Below.drew (Below.refl w7.heap.size w7))
      generalize w7.drew = wd at RH bD ⊢
      go_wp2_with fail
      refine RH.mono ?_
      rintro e w8 ⟨rfl, hB1⟩
      have BW8 := below_below BW7 (below_below bD.out hB1)
      clear RH bD hB1 BW7 b0 b1 b2 b3 cl
      go_wp2
      go_roundg (L.length + 1 - (i + 1))
      case rel => exact ⟨i + 1, rfl, by rw [show itr (climb P.T U r) x (i + 1) = climb P.T U r y from by rw [itr, HY.out], climb, if_neg E1.out, HD.out], rfl, by omega, BW8⟩
      case measure => omega
    · have hI : ¬ (i : Int) < L.length := by omega
      obtain rfl : i = L.length := by omega
      have hend := YTB.out.way_end G.he G.ht hx0 hx1
      rw [LB.out, HY.out] at hend
      have hmk : ∀ w : World, (Instr.makeSlice 22 (.int .i64 m) (.int .i64 m)).run Try.prog w = .ok (.slice (some ⟨w.heap.size, 0, none⟩) m m) (w.alloc (.cells (madeCells #[.int .i64 0] m) 3)) :=
        run_make_row' (P := Try.prog) 22 3 (.int .i64 0) 8 Try.underlying22 info3 rfl .i64 .i64 m (by omega) (by omega)
      have hown := own_made wr W6.heap.size m BW.size (by omega)
      have BW2 := below_alloc BW (.cells (madeCells #[.int .i64 0] m) 3)
      obtain ⟨gD, hgD⟩ : ∃ gD, wr.heap.size = gD := ⟨_, rfl⟩
      go_upto_region 13 with fail
      rw [hgD] at hown
      generalize wr.alloc _ = w9 at hown BW2 ⊢
      have HE := Bx.mk hend
      clear hmk b0 b1 b2 b3 BW hend hgD hq hi hil
      go_wp2
      go_loopg [13] (m + 1) (fun q y wr => ∃ j : Nat, y = .int .i64 j ∧ q = m + 1 - j ∧ j ≤ m ∧ OwnN wr W6.heap.size gD m m (part m j 1000 0) ∧ Below W6.heap.size W6 wr)
      case atStart => exact ⟨0, rfl, by omega, by omega, hown, BW2⟩
      case round =>
        clear hown BW2
        obtain ⟨j, rfl, hq, hj, hown, BW⟩ := hrel
        have b0 := (hb6.keep BW).cell 0
        by_cases hjm : j < m
        · have hjI : (j : Int) < m := by omega
          have c1 := hown.cell j (by omega) hjI
          have f1 := hown.fz j
          rw [Int.toNat_natCast] at c1 f1
          have h2 := hown.set j 1000
          rw [st_part m j 1000 0 hjm, Int.toNat_natCast] at h2
          have BW2 := below_set BW (p := ⟨gD, j, none⟩) hown.rng.1 (.int .i64 1000)
          go_wp2
          go_roundg (m + 1 - (j + 1))
          case rel => exact ⟨j + 1, rfl, rfl, by omega, h2, BW2⟩
          case measure => omega
        · have hjI : ¬ (j : Int) < m := by omega
          obtain rfl : m = j := by omega
          have c1 := hown.cell r hr0 hr1
          have f1 := hown.fz r
          have h2 := hown.set r 0
          rw [show part m m 1000 0 = List.replicate m 1000 from by simp [part]] at h2
          have BW2 := below_set BW (p := ⟨gD, r.toNat, none⟩) hown.rng.1 (.int .i64 0)
          have DS := Bx.mk (Dist.start YTB.out (by omega))
          clear hown BW hq hj hjm
          go_wp2
          go_loopg [14] (m + 1) (fun q y wr => ∃ k : Nat, y = .int .i64 k ∧ q = m + 1 - k ∧ k ≤ m ∧ (∃ D, OwnN wr W6.heap.size gD m m D ∧ Dist P.T U m r k 0 D) ∧ Below W6.heap.size W6 wr)
          case atStart => exact ⟨0, rfl, by omega, by omega, ⟨_, h2, DS.out⟩, BW2⟩
          case round =>
            clear h2 BW2 DS
            obtain ⟨k, rfl, hq, hk, ⟨D, hown, hDS⟩, BW⟩ := hrel
            have b0 := (hb6.keep BW).cell 0
            by_cases hkm : k < m
            · have hkI : (k : Int) < m := by omega
              have DS := Bx.mk hDS
              clear hDS
              go_wp2
              clear b0
              go_loopg [15] (P.T.length + 1) (fun q y wr => ∃ j : Nat, y = .int .i64 j ∧ q = P.T.length + 1 - j ∧ j ≤ P.T.length ∧ (∃ D, OwnN wr W6.heap.size gD m m D ∧ Bx (Dist P.T U m r k j D)) ∧ Below W6.heap.size W6 wr)
              case atStart => exact ⟨0, rfl, by omega, by omega, ⟨_, hown, DS⟩, BW⟩
              case round =>
                clear hown BW DS
                obtain ⟨j, rfl, hq2, hj, ⟨D, hown, DS⟩, BW⟩ := hrel
                have b1 := (hb6.keep BW).cell 1
                by_cases hjx : j < P.T.length
                · have hjI : (j : Int) < P.T.length := by omega
                  have ho := ot_rng j P.T.length (by omega) hjI G.he
                  have htj := G.ht j (by omega) hjI
                  have hhj := G.ht _ ho.1 ho.2
                  have hlo1 := DS.out.lo _ htj.1 htj.2
                  have hhi1 := DS.out.hi _ htj.1 htj.2
                  have hlo2 := DS.out.lo _ hhj.1 hhj.2
                  have hhi2 := DS.out.hi _ hhj.1 hhj.2
                  have hdl1 := (dep_le (T := P.T) (up := U) (m := m) (rd P.T j)).1
                  have hdl2 := (dep_le (T := P.T) (up := U) (m := m) (rd P.T (ot j))).1
                  have NX := Bx.mk (DS.out.step YTB.out G.he G.ht ED.out hjx)
                  have c1 := hown.cell _ htj.1 htj.2
                  have f1 := hown.fz (rd P.T j)
                  have c2 := hown.cell _ hhj.1 hhj.2
                  obtain ⟨bT, oT, rfl, _, ct⟩ := (rT6.keep BW) j (by omega) hjI
                  rw [Int.toNat_natCast] at ct
                  obtain ⟨t, ht⟩ : ∃ t, rd P.T j = t := ⟨_, rfl⟩
                  obtain ⟨h, hh⟩ : ∃ h, rd P.T (ot j) = h := ⟨_, rfl⟩
                  have NX2 := Bx.mk (show relax P.T D j = st D t (min (rd D t) (rd D h + 1)) by rw [relax, ht, hh])
                  rw [ht] at c1 f1 htj hlo1 hhi1 hdl1 ct
                  rw [hh] at c2 hhj hlo2 hhi2 hdl2
                  obtain ⟨z1, hz1⟩ : ∃ z1, rd D t = z1 := ⟨_, rfl⟩
                  obtain ⟨z2, hz2⟩ : ∃ z2, rd D h = z2 := ⟨_, rfl⟩
                  rw [hz1] at c1 hlo1 hhi1
                  rw [hz2] at c2 hlo2 hhi2
                  rw [hz1, hz2] at NX2
                  have y5 : IntKind.i64.wrap (z2 + 1) = z2 + 1 := IntWalk.i64_in _ (by omega)
                  have HC : Bx (∀ W, Below wr.heap.size wr W → Below wr.heap.size wr W ∧ W.cell? ⟨b, 0, none⟩ = some (.int .i64 m) ∧ W.cell? ⟨b, 1, none⟩ = some (.slice (some ⟨bT, oT, none⟩) P.T.length cT) ∧ W.cell? ⟨b, 2, none⟩ = some (.slice aX P.X.length cX) ∧ W.cell? ⟨b, 3, none⟩ = some (.slice aC P.C.length cC) ∧ W.cell? ⟨bT, oT + j, none⟩ = some (.int .i64 t) ∧ W.cell? ⟨gD, t.toNat, none⟩ = some (.int .i64 z1) ∧ W.cell? ⟨gD, h.toNat, none⟩ = some (.int .i64 z2) ∧ W.frozen? ⟨gD, t.toNat, none⟩ = false) :=
                    ⟨fun W k => ⟨k, ((hb6.keep BW).keep k).cell 0, ((hb6.keep BW).keep k).cell 1, ((hb6.keep BW).keep k).cell 2, ((hb6.keep BW).keep k).cell 3, (by
                      obtain ⟨b', o', e', _, c'⟩ := ((rT6.keep BW).keep k) j (by omega) hjI
                      obtain ⟨rfl, rfl⟩ : bT = b' ∧ oT = o' := by simpa using e'
                      rw [ht, Int.toNat_natCast] at c'
                      exact c'), (by rw [← hz1]; exact (hown.keep k).cell t htj.1 htj.2), (by rw [← hz2]; exact (hown.keep k).cell h hhj.1 hhj.2), (hown.keep k).fz t⟩⟩
                  have RH : ∀ W, Below wr.heap.size wr W → Calls Try.prog 26 #[.agg #[.int .i64 m, .slice (some ⟨bT, oT, none⟩) P.T.length cT, .slice aX P.X.length cX, .slice aC P.C.length cC], .int .i64 j] W fun e w' => e = .returned (.int .i64 h) ∧ Below W.heap.size W w' := fun W k => by
                    rw [← hh]
                    exact rhead_any (aX := aX) (aC := aC) (cX := cX) (cC := cC) (X := P.X) (C := P.C) j ((rT6.keep BW).keep k) (by omega) hjI G.he (by omega)
                  have ht0 := htj.1
                  have ht1 := htj.2
                  have hh0 := hhj.1
                  have hh1 := hhj.2
                  clear ht hh hz1 hz2 c1 f1 c2 ct htj hhj ho
                  rcases Int.lt_or_le (z2 + 1) z1 with hmin | hmin
                  all_goals
                    go_upto_region 24 with fail
                    clear b1
                    refine wp_region_L (C := fun W => Below wr.heap.size wr W ∧ W.cell? ⟨b, 0, none⟩ = some (.int .i64 m) ∧ W.cell? ⟨b, 1, none⟩ = some (.slice (some ⟨bT, oT, none⟩) P.T.length cT) ∧ W.cell? ⟨b, 2, none⟩ = some (.slice aX P.X.length cX) ∧ W.cell? ⟨b, 3, none⟩ = some (.slice aC P.C.length cC) ∧ W.cell? ⟨bT, oT + j, none⟩ = some (.int .i64 t) ∧ W.cell? ⟨gD, t.toNat, none⟩ = some (.int .i64 z1) ∧ W.cell? ⟨gD, h.toNat, none⟩ = some (.int .i64 z2) ∧ W.frozen? ⟨gD, t.toNat, none⟩ = false) (s := 23) (by kernel_rfl) (HC.out _ (Below.drew (Below.refl _ _))) (fun hHeld => ?_)
                    refine L_take' (i := 0) (v := ?_) rfl (by kernel_rfl) (by kernel_rfl) (by kernel_rfl) (by kernel_rfl) (fun _ _ _ h => h) (Or.inl ⟨by rfl, ?_⟩) (fun _ => hHeld) ?_
                    rotate_left
                    · intro w hSw
                      (try dsimp only at hSw)
                      go_simp
                      all_goals with_reducible rfl
                    try simp only [Act.put, List.setIfInBounds_toArray, List.set_cons_zero, List.set_cons_succ]
                    refine L_take' (i := 1) (v := ?_) rfl (by kernel_rfl) (by kernel_rfl) (by kernel_rfl) (by kernel_rfl) (fun _ _ _ h => h) (Or.inl ⟨by rfl, ?_⟩) (fun _ => hHeld) ?_
                    rotate_left
                    · intro w hSw
                      (try dsimp only at hSw)
                      go_simp
                      all_goals with_reducible rfl
                    try simp only [Act.put, List.setIfInBounds_toArray, List.set_cons_zero, List.set_cons_succ]
                    refine L_take (i := 2) (v := ?_) rfl (by kernel_rfl) (by kernel_rfl) (by kernel_rfl) (by kernel_rfl) (by kernel_rfl) (by kernel_rfl) (fun _ _ _ h => h) (Or.inl ⟨by rfl, ?_⟩) hHeld ?_
                    rotate_left
                    · intro w hSw
                      (try dsimp only at hSw)
                      go_simp
                      all_goals with_reducible rfl
                    try simp only [Act.put, List.setIfInBounds_toArray, List.set_cons_zero, List.set_cons_succ]
                    refine L_take' (i := 3) (v := ?_) rfl (by kernel_rfl) (by kernel_rfl) (by kernel_rfl) (by kernel_rfl) (fun _ _ _ h => h) (Or.inl ⟨by rfl, ?_⟩) (fun _ => hHeld) ?_
                    rotate_left
                    · intro w hSw
                      (try dsimp only at hSw)
                      go_simp
                      all_goals with_reducible rfl
                    try simp only [Act.put, List.setIfInBounds_toArray, List.set_cons_zero, List.set_cons_succ]
                    refine L_take' (i := 4) (v := ?_) rfl (by kernel_rfl) (by kernel_rfl) (by kernel_rfl) (by kernel_rfl) (fun _ _ _ h => h) (Or.inl ⟨by rfl, ?_⟩) (fun _ => hHeld) ?_
                    rotate_left
                    · intro w hSw
                      (try dsimp only at hSw)
                      go_simp
                      all_goals with_reducible rfl
                    try simp only [Act.put, List.setIfInBounds_toArray, List.set_cons_zero, List.set_cons_succ]
                    refine L_take (i := 5) (v := ?_) rfl (by kernel_rfl) (by kernel_rfl) (by kernel_rfl) (by kernel_rfl) (by kernel_rfl) (by kernel_rfl) (fun _ _ _ h => h) (Or.inl ⟨by rfl, ?_⟩) hHeld ?_
                    rotate_left
                    · intro w hSw
                      (try dsimp only at hSw)
                      go_simp
                      all_goals with_reducible rfl
                    try simp only [Act.put, List.setIfInBounds_toArray, List.set_cons_zero, List.set_cons_succ]
                    refine L_take' (i := 6) (v := ?_) rfl (by kernel_rfl) (by kernel_rfl) (by kernel_rfl) (by kernel_rfl) (fun _ _ _ h => h) (Or.inl ⟨by rfl, ?_⟩) (fun _ => hHeld) ?_
                    rotate_left
                    · intro w hSw
                      (try dsimp only at hSw)
                      go_simp
                      all_goals with_reducible rfl
                    try simp only [Act.put, List.setIfInBounds_toArray, List.set_cons_zero, List.set_cons_succ]
                    refine L_take' (i := 7) (v := ?_) rfl (by kernel_rfl) (by kernel_rfl) (by kernel_rfl) (by kernel_rfl) (fun _ _ _ h => h) (Or.inl ⟨by rfl, ?_⟩) (fun _ => hHeld) ?_
                    rotate_left
                    · intro w hSw
                      (try dsimp only at hSw)
                      go_simp
                      all_goals with_reducible rfl
                    try simp only [Act.put, List.setIfInBounds_toArray, List.set_cons_zero, List.set_cons_succ]
                    refine L_take (i := 8) (v := ?_) rfl (by kernel_rfl) (by kernel_rfl) (by kernel_rfl) (by kernel_rfl) (by kernel_rfl) (by kernel_rfl) (fun _ _ _ h => h) (Or.inl ⟨by rfl, ?_⟩) hHeld ?_
                    rotate_left
                    · intro w hSw
                      (try dsimp only at hSw)
                      go_simp
                      all_goals with_reducible rfl
                    try simp only [Act.put, List.setIfInBounds_toArray, List.set_cons_zero, List.set_cons_succ]
                    refine L_take' (i := 9) (v := ?_) rfl (by kernel_rfl) (by kernel_rfl) (by kernel_rfl) (by kernel_rfl) (fun _ _ _ h => h) (Or.inl ⟨by rfl, ?_⟩) (fun _ => hHeld) ?_
                    rotate_left
                    · intro w hSw
                      (try dsimp only at hSw)
                      go_simp
                      all_goals with_reducible rfl
                    try simp only [Act.put, List.setIfInBounds_toArray, List.set_cons_zero, List.set_cons_succ]
                    refine L_take' (i := 10) (v := ?_) rfl (by kernel_rfl) (by kernel_rfl) (by kernel_rfl) (by kernel_rfl) (fun _ _ _ h => h) (Or.inl ⟨by rfl, ?_⟩) (fun _ => hHeld) ?_
                    rotate_left
                    · intro w hSw
                      (try dsimp only at hSw)
                      go_simp
                      all_goals with_reducible rfl
                    try simp only [Act.put, List.setIfInBounds_toArray, List.set_cons_zero, List.set_cons_succ]
                    refine L_take (i := 11) (v := ?_) rfl (by kernel_rfl) (by kernel_rfl) (by kernel_rfl) (by kernel_rfl) (by kernel_rfl) (by kernel_rfl) (fun _ _ _ h => h) (Or.inl ⟨by rfl, ?_⟩) hHeld ?_
                    rotate_left
                    · intro w hSw
                      (try dsimp only at hSw)
                      go_simp
                      all_goals with_reducible rfl
                    try simp only [Act.put, List.setIfInBounds_toArray, List.set_cons_zero, List.set_cons_succ]
                    refine L_take' (i := 12) (v := ?_) rfl (by kernel_rfl) (by kernel_rfl) (by kernel_rfl) (by kernel_rfl) (fun _ _ _ h => h) (Or.inl ⟨by rfl, ?_⟩) (fun _ => hHeld) ?_
                    rotate_left
                    · intro w hSw
                      (try dsimp only at hSw)
                      go_simp
                      all_goals with_reducible rfl
                    try simp only [Act.put, List.setIfInBounds_toArray, List.set_cons_zero, List.set_cons_succ]
                    refine L_take (i := 13) (v := ?_) rfl (by kernel_rfl) (by kernel_rfl) (by kernel_rfl) (by kernel_rfl) (by kernel_rfl) (by kernel_rfl) (fun _ _ _ h => h) (Or.inl ⟨by rfl, ?_⟩) hHeld ?_
                    rotate_left
                    · intro w hSw
                      (try dsimp only at hSw)
                      go_simp
                      all_goals with_reducible rfl
                    try simp only [Act.put, List.setIfInBounds_toArray, List.set_cons_zero, List.set_cons_succ]
                    refine L_take' (i := 14) (v := ?_) rfl (by kernel_rfl) (by kernel_rfl) (by kernel_rfl) (by kernel_rfl) (fun _ _ _ h => h) (Or.inl ⟨by rfl, ?_⟩) (fun _ => hHeld) ?_
                    rotate_left
                    · intro w hSw
                      (try dsimp only at hSw)
                      go_simp
                      all_goals with_reducible rfl
                    try simp only [Act.put, List.setIfInBounds_toArray, List.set_cons_zero, List.set_cons_succ]
                    refine L_take (i := 15) (v := ?_) rfl (by kernel_rfl) (by kernel_rfl) (by kernel_rfl) (by kernel_rfl) (by kernel_rfl) (by kernel_rfl) (fun _ _ _ h => h) (Or.inl ⟨by rfl, ?_⟩) hHeld ?_
                    rotate_left
                    · intro w hSw
                      (try dsimp only at hSw)
                      go_simp
                      all_goals with_reducible rfl
                    try simp only [Act.put, List.setIfInBounds_toArray, List.set_cons_zero, List.set_cons_succ]
                    refine L_take' (i := 16) (v := ?_) rfl (by kernel_rfl) (by kernel_rfl) (by kernel_rfl) (by kernel_rfl) (fun _ _ _ h => h) (Or.inl ⟨by rfl, ?_⟩) (fun _ => hHeld) ?_
                    rotate_left
                    · intro w hSw
                      (try dsimp only at hSw)
                      go_simp
                      all_goals with_reducible rfl
                    try simp only [Act.put, List.setIfInBounds_toArray, List.set_cons_zero, List.set_cons_succ]
                    refine L_ready (rs := [17]) (by kernel_rfl) (by simp) ?_
                    refine ReadyL.cons rfl (fun K hK => ?_) ReadyL.nil
                    go_simp
                    refine (RH _ hHeld.1).mono ?_
                    rintro e W9 ⟨rfl, hB1⟩
                    go_simp
                    refine hK.out _ _ (HC.out _ (below_below hHeld.1 hB1)) (fun hHeld => ?_)
                    clear hK K
                    try simp only [Act.put, List.setIfInBounds_toArray, List.set_cons_zero, List.set_cons_succ]
                    refine L_take' (i := 18) (v := ?_) rfl (by kernel_rfl) (by kernel_rfl) (by kernel_rfl) (by kernel_rfl) (fun _ _ _ h => h) (Or.inl ⟨by rfl, ?_⟩) (fun _ => hHeld) ?_
                    rotate_left
                    · intro w hSw
                      (try dsimp only at hSw)
                      go_simp
                      all_goals with_reducible rfl
                    try simp only [Act.put, List.setIfInBounds_toArray, List.set_cons_zero, List.set_cons_succ]
                    refine L_take (i := 19) (v := ?_) rfl (by kernel_rfl) (by kernel_rfl) (by kernel_rfl) (by kernel_rfl) (by kernel_rfl) (by kernel_rfl) (fun _ _ _ h => h) (Or.inl ⟨by rfl, ?_⟩) hHeld ?_
                    rotate_left
                    · intro w hSw
                      (try dsimp only at hSw)
                      go_simp
                      all_goals with_reducible rfl
                    try simp only [Act.put, List.setIfInBounds_toArray, List.set_cons_zero, List.set_cons_succ]
                    refine L_take' (i := 20) (v := ?_) rfl (by kernel_rfl) (by kernel_rfl) (by kernel_rfl) (by kernel_rfl) (fun _ _ _ h => h) (Or.inl ⟨by rfl, ?_⟩) (fun _ => hHeld) ?_
                    rotate_left
                    · intro w hSw
                      (try dsimp only at hSw)
                      go_simp
                      all_goals with_reducible rfl
                    try simp only [Act.put, List.setIfInBounds_toArray, List.set_cons_zero, List.set_cons_succ]
                    refine L_take' (i := 21) (v := ?_) rfl (by kernel_rfl) (by kernel_rfl) (by kernel_rfl) (by kernel_rfl) (fun _ _ _ h => h) (Or.inl ⟨by rfl, ?_⟩) (fun _ => hHeld) ?_
                    rotate_left
                    · intro w hSw
                      (try dsimp only at hSw)
                      go_simp
                      all_goals with_reducible rfl
                    try simp only [Act.put, List.setIfInBounds_toArray, List.set_cons_zero, List.set_cons_succ]
                    refine L_take' (i := 22) (v := ?_) rfl (by kernel_rfl) (by kernel_rfl) (by kernel_rfl) (by kernel_rfl) (fun _ _ _ h => h) (Or.inl ⟨by rfl, ?_⟩) (fun _ => hHeld) ?_
                    rotate_left
                    · intro w hSw
                      (try dsimp only at hSw)
                      go_simp
                      all_goals with_reducible rfl
                    try simp only [Act.put, List.setIfInBounds_toArray, List.set_cons_zero, List.set_cons_succ]
                    have BH := hHeld.1
                    obtain ⟨_, _, _, _, _, _, cD, _, fD⟩ := hHeld
                    refine L_ready (rs := [23]) (by kernel_rfl) (by simp) ?_
                    refine ReadyL.cons' rfl (by kernel_rfl) (fun K hK => ?_) ReadyL.nil
                    go_simp
                    refine hK.out _ _ ?_
                    clear hK K
                    try simp only [Act.put, List.setIfInBounds_toArray, List.set_cons_zero, List.set_cons_succ]
                    refine L_done (by kernel_rfl) ?_ _
                    clear cD fD
                    go_wp2_with fail
                    go_roundg (P.T.length + 1 - (j + 1))
                    case rel => first
                      | exact ⟨j + 1, rfl, rfl, by omega, ⟨_, (hown.keep BH).set t (z2 + 1), ⟨by have e := NX2.out; rw [show min z1 (z2 + 1) = z2 + 1 from by omega] at e; rw [← e]; exact NX.out⟩⟩, below_set (below_below BW BH) (p := ⟨gD, t.toNat, none⟩) hown.rng.1 (.int .i64 (z2 + 1))⟩
                      | exact ⟨j + 1, rfl, rfl, by omega, ⟨_, (hown.keep BH).set t (z1), ⟨by have e := NX2.out; rw [show min z1 (z2 + 1) = z1 from by omega] at e; rw [← e]; exact NX.out⟩⟩, below_set (below_below BW BH) (p := ⟨gD, t.toNat, none⟩) hown.rng.1 (.int .i64 (z1))⟩
                    case measure => omega
                · have hjI : ¬ (j : Int) < P.T.length := by omega
                  obtain rfl : j = P.T.length := by omega
                  have DN := Bx.mk (DS.out.next YTB.out)
                  clear DS
                  go_wp2
                  go_roundg (m + 1 - (k + 1))
                  case rel => exact ⟨k + 1, rfl, rfl, by omega, ⟨D, hown, DN.out⟩, BW⟩
                  case measure => omega
            · have hkI : ¬ (k : Int) < m := by omega
              obtain rfl : m = k := by omega
              have hend := hDS.end hx0 hx1
              have hdl : dep P.T U m x = (L.length : Int) := by rw [dep, LB.out]
              have c1 := hown.cell x hx0 hx1
              rw [hend, hdl] at c1
              have f1 : (y == r) = true := by rw [HE.out]; simp
              clear hend hdl hDS
              go_wp2_with ((with_reducible refine (W4 _).mono ?_); rintro e w' ⟨rfl, rfl⟩)
              go_ret
              exact ⟨rfl, below_below hB6 BW⟩
end Go.Proofs.Ytjeddcijefnbfaa
