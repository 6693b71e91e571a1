/- The walk of TreeFirst. -/
import Derived.Test.YtjeddcijefnbfaaT0
set_option linter.unusedVariables false
set_option linter.unusedSimpArgs false
namespace Go.Proofs.Ytjeddcijefnbfaa
open Go.RowKit

theorem span_first {T : List Int} {m : Nat} {r : Int} (he : (T.length : Int) % 2 = 0) (ht : ∀ d : Int, 0 ≤ d → d < T.length → 0 ≤ rd T d ∧ rd T d < m) (hr0 : 0 ≤ r) (hr1 : r < m) (hc : Conn T m) {x : Int} (x0 : 0 ≤ x) (x1 : x < m) (hx : x ≠ r) :
    ∀ d' : Int, 0 ≤ d' → d' < ot (rd (spanL T m r) x) → ¬ (rd T d' = rd T (ot (rd (spanL T m r) x)) ∧ rd T (ot d') = x) := by
  have I := span_end he ht hr0 hr1
  obtain ⟨k, k0, k1, rfl⟩ := mem_rd (span_all he ht hr0 hr1 hc x x0 x1)
  have kp : 0 < k := by
    rcases (by omega : k = 0 ∨ 0 < k) with rfl | h
    · exact absurd I.qr hx
    · exact h
  obtain ⟨d, a1, a2, a3, a4, a5, a6, a7, a8⟩ := I.tr k kp k1
  unfold spanL
  rw [a3, ot_ot]
  intro d' d0 d1 ⟨h1, h2⟩
  exact a8 d' d0 d1 ⟨h1, h2.trans a5.symm⟩

set_option maxHeartbeats 6400000 in
theorem first_walk (a : Option Addr) (cap : Nat) (zs : List Int) (root v : Int) (w : World) (hz : RowOf w a zs) :
    Calls Try.prog 9 #[.slice a zs.length cap, .int .i64 root, .int .i64 v] w fun e w' => e = .returned (.bool true) ∧ Below w.heap.size w w' := by
  go_enter Try.func9, Try.ntmps9
  go_wp2_with fail
  refine (known_any _).mono ?_
  rintro e w1 ⟨rfl, hB1⟩
  go_wp2_with fail
  refine (plane_net a cap zs w1 (hz.keep hB1)).mono ?_
  rintro e w2 ⟨m, aT, aX, aC, cT, cX, cC, hm, rfl, rT, rX, rC, hB2⟩
  have hB12 := below_below hB1 hB2
  have G := grown_plane hm
  have PL : Bx (planeOf zs = planeOf zs) := ⟨rfl⟩
  obtain ⟨P, hP⟩ : ∃ P, P = planeOf zs := ⟨_, rfl⟩
  rw [← hP] at G rT rX rC ⊢
  have PZ := Bx.mk hP
  clear hP hm hB1 hB2 PL
  have hm0 := G.m0
  have hm25 := G.m25
  have hl48 := G.l48
  have hb := box_new w2 #[.int .i64 m, .slice aT P.T.length cT, .slice aX P.X.length cX, .slice aC P.C.length cC] 25
  have hB3 := below_alloc hB12 (.cells #[.int .i64 m, .slice aT P.T.length cT, .slice aX P.X.length cX, .slice aC P.C.length cC] 25)
  have hk := below_alloc (Below.refl w2.heap.size w2) (.cells #[.int .i64 m, .slice aT P.T.length cT, .slice aX P.X.length cX, .slice aC P.C.length cC] 25)
  have rT3 := rT.keep hk
  have rX3 := rX.keep hk
  have rC3 := rC.keep hk
  go_upto_region 4 with fail
  generalize w2.alloc _ = w3 at hb hB3 rT3 rX3 rC3 ⊢
  generalize w2.heap.size = b at hb ⊢
  clear rT rX rC hk hB12
  have k0 := hb.cell 0
  go_wp2_with fail
  refine (within4_any root m (by omega) (by omega) _).mono ?_
  rintro e w' ⟨rfl, rfl⟩
  have hr := wi_rng root m (by omega)
  generalize wi root m = r at hr ⊢
  have YT := span_tree G.he G.ht hr.1 hr.2 G.C
  have UB := Bx.mk (Eq.refl (spanL P.T m r))
  have SP := span_any (aT := aT) (aX := aX) (aC := aC) (cT := cT) (cX := cX) (cC := cC) (T := P.T) (X := P.X) (C := P.C) (m := m) (r := r) rT3 G.he (by omega) (by omega) G.ht hr.1 hr.2
  obtain ⟨U, hU⟩ : ∃ U, spanL P.T m r = U := ⟨_, rfl⟩
  rw [hU] at YT SP
  have hUl := YT.len
  replace UB := Bx.mk hU
  have UL := Bx.mk hUl
  have k1 := hb.cell 1
  have k2 := hb.cell 2
  have k3 := hb.cell 3
  clear hU hUl
  go_wp2_with fail
  refine SP.mono ?_
  rintro e w5 ⟨v5, rfl, o5, hB5⟩
  have hB6 := below_below hB3 hB5
  have hb5 := hb.keep hB5
  have rT5 := rT3.keep hB5
  have rX5 := rX3.keep hB5
  have rC5 := rC3.keep hB5
  obtain ⟨aU, cU, rfl, rU⟩ := o5.row
  clear SP k0 k1 k2 k3 hB3 hB5 hb rT3 rX3 rC3 o5
  have HK := net_held hb5
  have hr0 := hr.1
  have hr1 := hr.2
  have UP := Bx.mk YT.upOk
  have YTB := Bx.mk YT
  clear YT hr
  have hUle : U.length ≤ 60 := by rw [UL.out]; omega
  have hUm : (m : Int) ≤ U.length := by rw [UL.out]; exact Int.le_refl _
  have hmU : (U.length : Int) ≤ m := by rw [UL.out]; exact Int.le_refl _
  have hne : ((U.length : Int) != m) = false := by rw [UL.out]; simp
  have SP := rspan_any (aT := aT) (aX := aX) (aC := aC) (cT := cT) (cX := cX) (cC := cC) (T := P.T) (X := P.X) (C := P.C) (m := m) (r := r) rT5 G.he (by omega) (by omega) G.ht hr0 hr1
  rw [UB.out] at SP
  have k0 := hb5.cell 0
  have k1 := hb5.cell 1
  have k2 := hb5.cell 2
  have k3 := hb5.cell 3
  go_wp2_with fail
  refine SP.mono ?_
  rintro e w6 ⟨v6, rfl, o6, hB7⟩
  have hB8 := below_below hB6 hB7
  have hb6 := hb5.keep hB7
  have rT6 := rT5.keep hB7
  have rU6 := rU.keep hB7
  obtain ⟨aV, cV, rfl, rV⟩ := o6.row
  clear SP k0 k1 k2 k3 hB6 hB7 hb5 rT5 o6 rU HK
  have k0 := hb6.cell 0
  go_wp2_with fail
  refine (within4_any v m (by omega) (by omega) _).mono ?_
  rintro e w' ⟨rfl, rfl⟩
  have hx := wi_rng v m (by omega)
  generalize wi v m = x at hx ⊢
  have hx0 := hx.1
  have hx1 := hx.2
  have hx2 : x < U.length := by omega
  obtain ⟨bU, oU, rfl, _, cu⟩ := rU6 x hx0 hx2
  obtain ⟨bV, oV, rfl, _, cv⟩ := rV x hx0 hx2
  have FST := Bx.mk (fun e => span_first G.he G.ht hr0 hr1 G.C hx0 hx1 (e : x ≠ r))
  rw [UB.out] at FST
  obtain ⟨p, q⟩ := YTB.out.ok x hx0 hx1
  obtain ⟨d, hd⟩ : ∃ d, rd U x = d := ⟨_, rfl⟩
  rw [hd] at cu cv p q FST
  have hdd : (d != d) = false := by simp
  have PB := Bx.mk p
  have QB := Bx.mk q
  have HD := Bx.mk hd
  clear hd hx p q
  go_upto_region 8 with fail
  go_quiet (fail)
  have hbk : ∀ n, BoxN (w6.drewN n) b #[.int .i64 m, .slice aT P.T.length cT, .slice aX P.X.length cX, .slice aC P.C.length cC] 25 := fun n => hb6.keep (below_drewN (Below.refl _ _) n)
  have hBk : ∀ n, Below w.heap.size w (w6.drewN n) ∧ RowOf (w6.drewN n) aT P.T ∧ RowOf (w6.drewN n) (some ⟨bU, oU, none⟩) U := fun n => ⟨below_drewN hB8 n, rT6.keep (below_drewN (Below.refl _ _) n), rU6.keep (below_drewN (Below.refl _ _) n)⟩
  generalize hw7 : w6.drewN _ = w7
  obtain ⟨n7, hn7⟩ : ∃ n, w6.drewN n = w7 := ⟨_, hw7⟩
  have hb7 := hbk n7
  obtain ⟨hB9, rT7, rU7⟩ := hBk n7
  rw [hn7] at hb7 hB9 rT7 rU7
  clear hw7 hn7 hbk hBk hb6 rT6 rU6 rV hB8 cu cv k0 hdd hne
  by_cases e : x = r
  · have f1 : (x == r) = true := by simpa using e
    clear e
    go_wp2
    go_ret
    exact ⟨rfl, hB9⟩
  · have f1 : (x == r) = false := by simpa using e
    obtain ⟨d0, d1, d2⟩ := QB.out e
    have FB := Bx.mk (FST.out e)
    clear e FST PB
    obtain ⟨bU', oU', eU, _, cu⟩ := rU7 x hx0 hx2
    obtain ⟨rfl, rfl⟩ : bU = bU' ∧ oU = oU' := by simpa using eU
    rw [HD.out] at cu
    clear eU
    have k0 := hb7.cell 0
    have k1 := hb7.cell 1
    have k2 := hb7.cell 2
    have k3 := hb7.cell 3
    have RH := rhead_any (w := w7.drew) (N := m) (aT := aT) (aX := aX) (aC := aC) (cT := cT) (cX := cX) (cC := cC) (T := P.T) (X := P.X) (C := P.C) d (rT7.keep (Below.drew (Below.refl _ _))) d0 d1 G.he (by omega)
    go_wp2
    go_still_tail 5, (by kernel_rfl)
    change wpList _ _ _ _ _ w7.drew
    have bD := Bx.mk (Below.drew (Below.refl w7.heap.size w7))
    generalize w7.drew = wd at RH bD ⊢
    go_wp2_with fail
    refine RH.mono ?_
    rintro e w8 ⟨rfl, hB1⟩
    have hBB := below_below bD.out hB1
    have hb8 := hb7.keep hBB
    have hB10 := below_below hB9 hBB
    have rT8 := rT7.keep hBB
    have rU8 := rU7.keep hBB
    clear RH bD hB1 hBB hb7 hB9 rT7 rU7 k0 k1 k2 k3 cu
    have hor := ot_rng d P.T.length d0 d1 G.he
    obtain ⟨pp, hpp⟩ : ∃ pp, rd P.T (ot d) = pp := ⟨_, rfl⟩
    rw [hpp] at FB ⊢
    have HPP := Bx.mk hpp
    have hxx := xor_one d d0 (by omega)
    obtain ⟨od, hod⟩ : ∃ od, ot d = od := ⟨_, rfl⟩
    rw [hod] at FB hor hxx
    have HOD := Bx.mk hod
    clear hpp hod
    go_wp2
    go_loopg [13] (P.T.length + 1) (fun q y wr => ∃ j : Nat, y = .int .i64 j ∧ q = P.T.length + 1 - j ∧ (j : Int) ≤ od ∧ BoxN wr b #[.int .i64 m, .slice aT P.T.length cT, .slice aX P.X.length cX, .slice aC P.C.length cC] 25 ∧ RowOf wr aT P.T ∧ RowOf wr (some ⟨bU, oU, none⟩) U ∧ Below w.heap.size w wr)
    case atStart => exact ⟨0, rfl, by omega, by omega, hb8, rT8, rU8, hB10⟩
    case round =>
      clear hb8 rT8 rU8 hB10
      obtain ⟨j, rfl, hq, hj, hb8, rT8, rU8, hB10⟩ := hrel
      obtain ⟨bU', oU', eU, _, cu⟩ := rU8 x hx0 hx2
      obtain ⟨rfl, rfl⟩ : bU = bU' ∧ oU = oU' := by simpa using eU
      rw [HD.out] at cu
      clear eU
      have k0 := hb8.cell 0
      have k1 := hb8.cell 1
      have k2 := hb8.cell 2
      have k3 := hb8.cell 3
      by_cases hjo : (j : Int) < od
      · have hjT : (j : Int) < P.T.length := by omega
        have NB := FB.out j (by omega) hjo
        obtain ⟨bT, oT, rfl, _, ct⟩ := rT8 j (by omega) hjT
        rw [Int.toNat_natCast] at ct
        obtain ⟨t, ht⟩ : ∃ t, rd P.T j = t := ⟨_, rfl⟩
        rw [ht] at ct NB
        clear ht
        by_cases e : t = pp
        · have f2 : (t == pp) = true := by simpa using e
          have RH := rhead_any (w := wr) (N := m) (aT := some ⟨bT, oT, none⟩) (aX := aX) (aC := aC) (cT := cT) (cX := cX) (cC := cC) (T := P.T) (X := P.X) (C := P.C) j rT8 (by omega) hjT G.he (by omega)
          have hhx : ¬ rd P.T (ot j) = x := fun h => NB ⟨e, h⟩
          obtain ⟨h, hh⟩ : ∃ h, rd P.T (ot j) = h := ⟨_, rfl⟩
          rw [hh] at RH hhx
          have f3 : (h == x) = false := by simpa using hhx
          clear e NB hh hhx
          go_wp2_with fail
          refine RH.mono ?_
          rintro e w9 ⟨rfl, hB1⟩
          have hb9 := hb8.keep hB1
          have rT9 := rT8.keep hB1
          have rU9 := rU8.keep hB1
          have hB11 := below_below hB10 hB1
          clear RH hb8 rT8 rU8 hB10 hB1 k0 k1 k2 k3 cu ct
          go_wp2
          go_roundg (P.T.length + 1 - (j + 1))
          case rel => exact ⟨j + 1, rfl, rfl, by omega, hb9, rT9, rU9, hB11⟩
          case measure => omega
        · have f2 : (t == pp) = false := by simpa using e
          clear e NB
          go_wp2
          go_roundg (P.T.length + 1 - (j + 1))
          case rel => exact ⟨j + 1, rfl, rfl, by omega, hb8, rT8, rU8, hB10⟩
          case measure => omega
      · go_wp2
        go_ret
        exact ⟨rfl, hB10⟩
end Go.Proofs.Ytjeddcijefnbfaa
