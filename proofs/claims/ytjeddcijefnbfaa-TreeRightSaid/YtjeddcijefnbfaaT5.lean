/- The walk of TreeRight. -/
import Derived.Test.YtjeddcijefnbfaaTb
set_option linter.unusedVariables false
set_option linter.unusedSimpArgs false
namespace Go.Proofs.Ytjeddcijefnbfaa
open Go.RowKit

set_option maxHeartbeats 6400000 in
theorem right_walk (a : Option Addr) (cap : Nat) (zs : List Int) (root at' v : Int) (a2 : Option Addr) (cap2 : Nat) (ys : List Int) (other : Int) (w : World) (hz : RowOf w a zs) (hy : RowOf w a2 ys) (hyl : ys.length ≤ maxLen) :
    Calls Try.prog 4 #[.slice a zs.length cap, .int .i64 root, .int .i64 at', .int .i64 v, .slice a2 ys.length cap2, .int .i64 other] w fun e w' => e = .returned (.bool true) ∧ Below w.heap.size w w' := by
  by_cases hlong : (100 : Int) < ys.length
  · have hd : decide ((100 : Int) < ys.length) = true := decide_eq_true hlong
    unfold maxLen at hyl
    go_enter Try.func4, Try.ntmps4
    go_wp2_with fail
    refine (known_any _).mono ?_
    rintro e w1 ⟨rfl, hB1⟩
    go_wp2
    go_ret
    exact ⟨rfl, hB1⟩
  have hd : decide ((100 : Int) < ys.length) = false := decide_eq_false hlong
  have hy100 : ys.length ≤ 100 := by omega
  clear hyl
  go_enter Try.func4, Try.ntmps4
  go_wp2_with fail
  refine (known_any _).mono ?_
  rintro e w1 ⟨rfl, hB1⟩
  go_wp2_with fail
  refine (plane_net a cap zs w1 (hz.keep hB1)).mono ?_
  rintro e w2 ⟨m, aT, aX, aC, cT, cX, cC, hm, rfl, rT, rX, rC, hB2⟩
  have hB12 := below_below hB1 hB2
  have G := grown_plane hm
  have PL : Bx (planeOf zs = planeOf zs) := ⟨rfl⟩
  obtain ⟨P, hP⟩ : ∃ P, P = planeOf zs := ⟨_, rfl⟩
  rw [← hP] at G rT rX rC ⊢
  have PZ := Bx.mk hP
  clear hP hm hB1 hB2 PL
  have hm0 := G.m0
  have hm25 := G.m25
  have hl48 := G.l48
  have hb := box_new w2 #[.int .i64 m, .slice aT P.T.length cT, .slice aX P.X.length cX, .slice aC P.C.length cC] 25
  have hB3 := below_alloc hB12 (.cells #[.int .i64 m, .slice aT P.T.length cT, .slice aX P.X.length cX, .slice aC P.C.length cC] 25)
  have hk := below_alloc (Below.refl w2.heap.size w2) (.cells #[.int .i64 m, .slice aT P.T.length cT, .slice aX P.X.length cX, .slice aC P.C.length cC] 25)
  have rT3 := rT.keep hk
  have rX3 := rX.keep hk
  have rC3 := rC.keep hk
  go_upto_region 6 with fail
  generalize w2.alloc _ = w3 at hb hB3 rT3 rX3 rC3 ⊢
  generalize w2.heap.size = b at hb ⊢
  clear rT rX rC hk hB12
  clear hd hlong
  have rY3 := hy.keep hB3
  have k0 := hb.cell 0
  go_wp2_with fail
  refine (within4_any root m (by omega) (by omega) _).mono ?_
  rintro e w' ⟨rfl, rfl⟩
  have hr := wi_rng root m (by omega)
  generalize wi root m = r at hr ⊢
  have YT := span_tree G.he G.ht hr.1 hr.2 G.C
  have SP := rspan_full (aT := aT) (aX := aX) (aC := aC) (cT := cT) (cX := cX) (cC := cC) (T := P.T) (X := P.X) (C := P.C) (m := m) (r := r) rT3 G.he (by omega) (by omega) G.ht hr.1 hr.2
  obtain ⟨U, hU⟩ : ∃ U, spanL P.T m r = U := ⟨_, rfl⟩
  rw [hU] at YT SP
  have hUl := YT.len
  have UL := Bx.mk hUl
  have k1 := hb.cell 1
  have k2 := hb.cell 2
  have k3 := hb.cell 3
  clear hU hUl YT
  go_wp2_with fail
  refine SP.mono ?_
  rintro e w5 ⟨gU, rfl, oU, hB5⟩
  have hB6 := below_below hB3 hB5
  have hb5 := hb.keep hB5
  have rT5 := rT3.keep hB5
  have rY5 := rY3.keep hB5
  have rU := oU.row
  clear SP k0 k1 k2 k3 hB3 hB5 hb rT3 rX3 rC3 rY3 oU
  have hr0 := hr.1
  have hr1 := hr.2
  clear hr
  have hUle : U.length ≤ 60 := by rw [UL.out]; omega
  have hUp : 0 < U.length := by rw [UL.out]; omega
  have q0 := (own_lit w5 w5.heap.size [] (Nat.le_refl _) (by simp)).own
  have kk := below_alloc (Below.refl w5.heap.size w5) (.cells #[] 3)
  have rU6 := rU.keep kk
  go_upto_region 9 with (at_builtin; refine app_any rfl (.tmp 31) (.tmp 32) rfl w5.heap.size _ [] U rfl q0 (some ⟨gU, 0, none⟩) m m UL.out rfl rU6 (by omega) (by simp; omega) (by simp) m (by simp) ?_; intro g capx w6 q6 gr6 _; have hk6 := below_app kk q0 (Nat.le_refl _) gr6; have oX := q6; clear q6 gr6 q0 kk rU6)
  have hB7 := below_below hB6 hk6
  have hb6 := hb5.keep hk6
  have rT6 := rT5.keep hk6
  have rY6 := rY5.keep hk6
  have rU6 := rU.keep hk6
  have oX' : OwnN w6 w5.heap.size g capx m U := oX
  have hg5 := oX'.rng.1
  have hg6 := oX'.rng.2
  clear oX rT6 rY6 rU6
  have hi := wi_rng at' m (by omega)
  have hi0 := hi.1
  have hi1 := hi.2
  have h3 := wi_rng v 3 (by omega)
  have h30 := h3.1
  have h31 := h3.2
  clear hi h3
  obtain ⟨x, hx⟩ : ∃ x, P.T.length = x := ⟨_, rfl⟩
  have y4 : IntKind.i64.wrap ((P.T.length : Int) + 1) = (P.T.length : Int) + 1 := IntWalk.i64_in _ (by omega)
  obtain ⟨u, hu⟩ : ∃ u, wi v ((P.T.length : Int) + 1) = u := ⟨_, rfl⟩
  have W1 : ∀ w : World, Calls Try.prog 14 #[.int .i64 v, .int .i64 ((P.T.length : Int) + 1)] w fun e w' => e = .returned (.int .i64 u) ∧ w = w' := fun w => by rw [← hu]; exact within4_any v _ (by omega) (by omega) w
  have W2 : ∀ w : World, Calls Try.prog 14 #[.int .i64 at', .int .i64 m] w fun e w' => e = .returned (.int .i64 (wi at' m)) ∧ w = w' := fun w => within4_any at' m (by omega) (by omega) w
  have W3 : ∀ w : World, Calls Try.prog 14 #[.int .i64 v, .int .i64 3] w fun e w' => e = .returned (.int .i64 (wi v 3)) ∧ w = w' := fun w => within4_any v 3 (by omega) (by omega) w
  generalize wi at' m = i at hi0 hi1 W2 ⊢
  generalize wi v 3 = k3 at h30 h31 W3 ⊢
  have k1 := hb6.cell 1
  have xc := oX'.cell i hi0 hi1
  have xf := oX'.fz i
  obtain ⟨_, _, en, _, nc⟩ := row_new w6 [-1, v, u] k3 h30 h31
  obtain ⟨rfl, rfl⟩ := (by simpa using en : w6.heap.size = _ ∧ 0 = _)
  obtain ⟨y, hy⟩ : ∃ y, rd [-1, v, u] k3 = y := ⟨_, rfl⟩
  have nc' : (w6.alloc (.cells #[.int .i64 (-1), .int .i64 v, .int .i64 u] 3)).cell? ⟨w6.heap.size, k3.toNat, none⟩ = some (.int .i64 y) := by rw [Nat.zero_add, hy] at nc; exact nc
  clear en nc hu hy hx
  have oX9 := oX'.keep (below_alloc (Below.refl w6.heap.size w6) (.cells #[.int .i64 (-1), .int .i64 v, .int .i64 u] 3))
  have xc9 := oX9.cell i hi0 hi1
  have xf9 := oX9.fz i
  have OXF := Bx.mk (show (∃ V, OwnN ((w6.setCell ⟨g, i.toNat, none⟩ (.int .i64 y)).alloc (.cells #[.int .i64 (-1), .int .i64 v, .int .i64 u] 3)).drew w5.heap.size g capx m V) ∧ Below w5.heap.size w5 ((w6.setCell ⟨g, i.toNat, none⟩ (.int .i64 y)).alloc (.cells #[.int .i64 (-1), .int .i64 v, .int .i64 u] 3)).drew from
    ⟨⟨_, ((oX'.set i y).keep (below_alloc (Below.refl _ _) _)).keep (Below.drew (Below.refl _ _))⟩, (below_below (below_set hk6 (p := ⟨g, i.toNat, none⟩) hg5 (.int .i64 y)) (below_alloc (Below.refl _ _) _)).drew⟩)
  go_cut [] from 34 to 51 (fun wx => (∃ V, OwnN wx w5.heap.size g capx m V) ∧ Below w5.heap.size w5 wx)
  case first =>
    go_region_with ((first
      | (go_at_call 14; (with_reducible refine (W1 _).mono ?_); rintro e w' ⟨rfl, rfl⟩)
      | (go_at_call 14; (with_reducible refine (W2 _).mono ?_); rintro e w' ⟨rfl, rfl⟩)
      | (go_at_call 14; (with_reducible refine (W3 _).mono ?_); rintro e w' ⟨rfl, rfl⟩)))
    all_goals
      go_step
      go_step
      go_meet
      case rel => exact OXF.out
  case rest =>
    obtain ⟨⟨V, oV⟩, hBc⟩ := hcut
    have hB8 := below_below hB6 hBc
    have hb8 := hb5.keep hBc
    have rT8 := rT5.keep hBc
    have rY8 := rY5.keep hBc
    have rU8 := rU.keep hBc
    have rV := oV.row
    have hVl := oV.1
    have HK := net_held hb8
    have RV1 : ∀ W, Below wc.heap.size wc W → Calls Try.prog 18 #[.agg #[.int .i64 m, .slice aT P.T.length cT, .slice aX P.X.length cX, .slice aC P.C.length cC], .slice (some ⟨g, 0, none⟩) m capx, .int .i64 r] W fun e w' => e = .returned (.bool (treeB P.T V m r)) ∧ Below W.heap.size W w' := fun W h => by
      have k := right_b (cT := cT) (cX := cX) (cC := cC) (X := P.X) (C := P.C) (aX := aX) (aC := aC) (cU := capx) (r := r) (rT8.keep h) (rV.keep h) G.he (by omega) hm0 (by omega) (by omega) G.ht
      rwa [hVl] at k
    have RV2 : ∀ W, Below wc.heap.size wc W → Calls Try.prog 23 #[.agg #[.int .i64 m, .slice aT P.T.length cT, .slice aX P.X.length cX, .slice aC P.C.length cC], .slice (some ⟨g, 0, none⟩) m capx, .int .i64 r] W fun e w' => e = .returned (.bool (treeB P.T V m r)) ∧ Below W.heap.size W w' := fun W h => by
      have k := rright_b (cT := cT) (cX := cX) (cC := cC) (X := P.X) (C := P.C) (aX := aX) (aC := aC) (cU := capx) (r := r) (rT8.keep h) (rV.keep h) G.he (by omega) hm0 (by omega) (by omega) G.ht
      rwa [hVl] at k
    have RU1 : ∀ W, Below wc.heap.size wc W → Calls Try.prog 18 #[.agg #[.int .i64 m, .slice aT P.T.length cT, .slice aX P.X.length cX, .slice aC P.C.length cC], .slice (some ⟨gU, 0, none⟩) m m, .int .i64 other] W fun e w' => e = .returned (.bool (treeB P.T U m other)) ∧ Below W.heap.size W w' := fun W h => by
      have k := right_b (cT := cT) (cX := cX) (cC := cC) (X := P.X) (C := P.C) (aX := aX) (aC := aC) (cU := m) (r := other) (rT8.keep h) (rU8.keep h) G.he (by omega) hm0 (by omega) (by omega) G.ht
      rwa [UL.out] at k
    have RU2 : ∀ W, Below wc.heap.size wc W → Calls Try.prog 23 #[.agg #[.int .i64 m, .slice aT P.T.length cT, .slice aX P.X.length cX, .slice aC P.C.length cC], .slice (some ⟨gU, 0, none⟩) m m, .int .i64 other] W fun e w' => e = .returned (.bool (treeB P.T U m other)) ∧ Below W.heap.size W w' := fun W h => by
      have k := rright_b (cT := cT) (cX := cX) (cC := cC) (X := P.X) (C := P.C) (aX := aX) (aC := aC) (cU := m) (r := other) (rT8.keep h) (rU8.keep h) G.he (by omega) hm0 (by omega) (by omega) G.ht
      rwa [UL.out] at k
    have RA : ∀ W g' cap', Below wc.heap.size wc W → RowOf W (some ⟨g', 0, none⟩) (U ++ [-1]) → Calls Try.prog 18 #[.agg #[.int .i64 m, .slice aT P.T.length cT, .slice aX P.X.length cX, .slice aC P.C.length cC], .slice (some ⟨g', 0, none⟩) (m + 1) cap', .int .i64 r] W fun e w' => e = .returned (.bool false) ∧ Below W.heap.size W w' := fun W g' cap' h hr => by
      have hl : (U ++ [-1]).length = m + 1 := by simp [UL.out]
      have k := right_b (cT := cT) (cX := cX) (cC := cC) (X := P.X) (C := P.C) (aX := aX) (aC := aC) (cU := cap') (r := r) (rT8.keep h) hr G.he (by omega) hm0 (by omega) (by omega) G.ht
      rw [hl, treeB_len (by omega)] at k
      exact k
    clear hb8 hb5 rT5 rY5 rU hB6 hb6 hk6 hBc oX' oV W1 W2 W3
    go_upto_region 10 with fail
    go_region_held3 (fun W => Below wc.heap.size wc W ∧ W.cell? ⟨b, 0, none⟩ = some (.int .i64 m) ∧ W.cell? ⟨b, 1, none⟩ = some (.slice aT P.T.length cT) ∧ W.cell? ⟨b, 2, none⟩ = some (.slice aX P.X.length cX) ∧ W.cell? ⟨b, 3, none⟩ = some (.slice aC P.C.length cC))
      (first | exact HK.out _ (below_below (And.left ‹_ ∧ _›) hB1) | exact HK.out _ (Below.drew (Below.refl _ _)) | exact HK.out _ (below_below (And.left ‹_ ∧ _›) (below_alloc (Below.refl _ _) _)))
      (first
        | (go_at_call 18; (with_reducible refine (RV1 _ (And.left ‹_ ∧ _›)).mono ?_); rintro e W1 ⟨rfl, hB1⟩)
        | (go_at_call 23; (with_reducible refine (RV2 _ (And.left ‹_ ∧ _›)).mono ?_); rintro e W2 ⟨rfl, hB1⟩)
        | (go_at_call 18; (with_reducible refine (RU1 _ (And.left ‹_ ∧ _›)).mono ?_); rintro e W1 ⟨rfl, hB1⟩)
        | (go_at_call 23; (with_reducible refine (RU2 _ (And.left ‹_ ∧ _›)).mono ?_); rintro e W2 ⟨rfl, hB1⟩)
        | (go_at_call 18; (with_reducible refine (right_b (rT8.keep (And.left ‹_ ∧ _›)) (rY8.keep (And.left ‹_ ∧ _›)) G.he (by omega) hm0 (by omega) (by omega) G.ht).mono ?_); rintro e W3 ⟨rfl, hB1⟩)
        | (go_at_call 23; (with_reducible refine (rright_b (rT8.keep (And.left ‹_ ∧ _›)) (rY8.keep (And.left ‹_ ∧ _›)) G.he (by omega) hm0 (by omega) (by omega) G.ht).mono ?_); rintro e W4 ⟨rfl, hB1⟩)
        | (refine step_grow (by rfl) (.tmp 85) (.tmp 86) (by rfl) gU m m U (by rfl) UL.out (rU8.keep (And.left ‹_ ∧ _›)) (by omega) (by omega) rfl _ 1 (-1) (by rfl) (row_new _ [-1]) ?_; intro g9 cap9 W9 o9 hB1; have r9 := o9.row)
        | (go_at_call 18; have RAA := RA _ _ cap9 (And.left ‹_ ∧ _›) r9; (with_reducible refine RAA.mono ?_); rintro e W8 ⟨rfl, hB1⟩))
    have BW := And.left ‹Below wc.heap.size wc W8 ∧ _›
    go_wp2
    go_ret
    exact ⟨rfl, below_below hB8 BW⟩
end Go.Proofs.Ytjeddcijefnbfaa
