/- The walk of TreeSpans. -/
import Derived.Test.YtjeddcijefnbfaaT0
set_option linter.unusedVariables false
set_option linter.unusedSimpArgs false
namespace Go.Proofs.Ytjeddcijefnbfaa
open Go.RowKit

set_option maxHeartbeats 6400000 in
theorem spans_walk (a : Option Addr) (cap : Nat) (zs : List Int) (root v : Int) (w : World) (hz : RowOf w a zs) :
    Calls Try.prog 3 #[.slice a zs.length cap, .int .i64 root, .int .i64 v] w fun e w' => e = .returned (.bool true) ∧ Below w.heap.size w w' := by
  go_enter Try.func3, Try.ntmps3
  go_wp2_with fail
  refine (known_any _).mono ?_
  rintro e w1 ⟨rfl, hB1⟩
  go_wp2_with fail
  refine (plane_net a cap zs w1 (hz.keep hB1)).mono ?_
  rintro e w2 ⟨m, aT, aX, aC, cT, cX, cC, hm, rfl, rT, rX, rC, hB2⟩
  have hB12 := below_below hB1 hB2
  have G := grown_plane hm
  have hP : ∃ P, P = planeOf zs := ⟨_, rfl⟩
  obtain ⟨P, hP⟩ := hP
  rw [← hP] at G rT rX rC ⊢
  clear hP hm hB1 hB2
  have hm0 := G.m0
  have hm25 := G.m25
  have hl48 := G.l48
  have hb := box_new w2 #[.int .i64 m, .slice aT P.T.length cT, .slice aX P.X.length cX, .slice aC P.C.length cC] 25
  have hB3 := below_alloc hB12 (.cells #[.int .i64 m, .slice aT P.T.length cT, .slice aX P.X.length cX, .slice aC P.C.length cC] 25)
  have hk := below_alloc (Below.refl w2.heap.size w2) (.cells #[.int .i64 m, .slice aT P.T.length cT, .slice aX P.X.length cX, .slice aC P.C.length cC] 25)
  have rT3 := rT.keep hk
  go_upto_region 4 with fail
  generalize w2.alloc _ = w3 at hb hB3 rT3 ⊢
  generalize w2.heap.size = b at hb ⊢
  clear rT rX rC hk hB12
  have k0 := hb.cell 0
  go_quiet ((go_at_call 14; refine (within4_any _ m (by omega) (by omega) _).mono ?_; rintro e w' ⟨rfl, rfl⟩; first | exact ⟨rfl, _, rfl⟩ | exact ⟨rfl, 0, rfl⟩))
  generalize hw4 : w3.drewN _ = w4
  have hk4 : Below w3.heap.size w3 w4 := hw4 ▸ below_drewN (Below.refl _ _) _
  have hB4 := below_below hB3 hk4
  have hb4 := hb.keep hk4
  have rT4 := rT3.keep hk4
  clear hw4 hk4 hb hB3 rT3 k0
  have hr := wi_rng root m (by omega)
  have hv := wi_rng v m (by omega)
  generalize wi root m = r at hr ⊢
  generalize wi v m = x at hv ⊢
  have YT := span_tree G.he G.ht hr.1 hr.2 G.C
  obtain ⟨U, hU⟩ : ∃ U, spanL P.T m r = U := ⟨_, rfl⟩
  have SP := span_any (aT := aT) (aX := aX) (aC := aC) (cT := cT) (cX := cX) (cC := cC) (T := P.T) (X := P.X) (C := P.C) (m := m) (r := r) rT4 G.he (by omega) (by omega) G.ht hr.1 hr.2
  rw [hU] at YT SP
  have hUl := YT.len
  have UB := Bx.mk hU
  have UL := Bx.mk hUl
  have k0 := hb4.cell 0
  have k1 := hb4.cell 1
  have k2 := hb4.cell 2
  have k3 := hb4.cell 3
  clear hU hUl
  go_wp2_with fail
  refine SP.mono ?_
  rintro e w5 ⟨v5, rfl, o5, hB5⟩
  have hB6 := below_below hB4 hB5
  have hb5 := hb4.keep hB5
  have rT5 := rT4.keep hB5
  obtain ⟨aU, cU, rfl, rU⟩ := o5.row
  clear SP k0 k1 k2 k3 hB4 hB5 hb4 rT4 o5
  have HK := net_held hb5
  have hr0 := hr.1
  have hr1 := hr.2
  have hx0 := hv.1
  have hx1 := hv.2
  clear hb5 hr hv
  have EN := Bx.mk (YT.ends G.he G.ht m x hx0 hx1 (YT.cl x hx0 hx1))
  have UP := Bx.mk YT.upOk
  have YTB := Bx.mk YT
  clear YT
  have hUle : U.length ≤ 60 := by rw [UL.out]; omega
  have hLl : (leftL P.T U).length ≤ 1000 := by
    have := leftTo_le U (P.T.length / 2)
    unfold leftL
    omega
  have hWl : (wayL P.T U U.length x).length ≤ 1000 := by
    have := wayL_le P.T U U.length x
    omega
  go_upto_region 6 with fail
  go_region_held3 (fun W => Below w5.heap.size w5 W ∧ W.cell? ⟨b, 0, none⟩ = some (.int .i64 m) ∧ W.cell? ⟨b, 1, none⟩ = some (.slice aT P.T.length cT) ∧ W.cell? ⟨b, 2, none⟩ = some (.slice aX P.X.length cX) ∧ W.cell? ⟨b, 3, none⟩ = some (.slice aC P.C.length cC))
    (first | exact HK.out _ (below_below (And.left ‹_ ∧ _›) hB1) | exact HK.out _ (Below.drew (Below.refl _ _)))
    (first
      | (go_at_call 17; (with_reducible refine (rspan_any (rT5.keep (And.left ‹_ ∧ _›)) G.he (by omega) (by omega) G.ht hr0 hr1).mono ?_); rintro e W1 ⟨v1, rfl, o1, hB1⟩; rw [UB.out] at o1; obtain ⟨a1, c1, rfl, r1⟩ := o1.row)
      | (go_at_call 16; (with_reducible refine (ints_yes (xs := U) (rU.keep (And.left ‹_ ∧ _›)) r1 (by omega)).mono ?_); rintro e W2 ⟨rfl, hB1⟩; clear r1 o1)
      | (go_at_call 18; (with_reducible refine (right_yes (rT5.keep (And.left ‹_ ∧ _›)) (rU.keep (And.left ‹_ ∧ _›)) G.he (by omega) hm0 (by omega) (by omega) G.ht YTB.out).mono ?_); rintro e W3 ⟨rfl, hB1⟩)
      | (go_at_call 19; (with_reducible refine (left_any (rU.keep (And.left ‹_ ∧ _›)) G.he (by omega) (by omega)).mono ?_); rintro e W4 ⟨v3, rfl, o3, hB1⟩; obtain ⟨a3, c3, rfl, r3⟩ := o3.row)
      | (go_at_call 20; (with_reducible refine (rleft_any (rU.keep (And.left ‹_ ∧ _›)) G.he (by omega) (by omega)).mono ?_); rintro e W5 ⟨v4, rfl, o4, hB1⟩; obtain ⟨a4, c4, rfl, r4⟩ := o4.row; replace r3 := r3.keep hB1)
      | (go_at_call 16; (with_reducible refine (ints_yes (xs := leftL P.T U) r3 r4 hLl).mono ?_); rintro e W6 ⟨rfl, hB1⟩; clear r3 r4 o3 o4)
      | (go_at_call 21; (with_reducible refine (way_any x (rT5.keep (And.left ‹_ ∧ _›)) (rU.keep (And.left ‹_ ∧ _›)) G.he (by omega) (by omega) (by rw [UL.out]; exact G.ht) (by rw [UL.out]; exact UP.out) hx0 (by rw [UL.out]; exact hx1)).mono ?_); rintro e W7 ⟨v5, rfl, o5, hB1⟩; obtain ⟨a5, c5, rfl, r5⟩ := o5.row)
      | (go_at_call 22; (with_reducible refine (rway_any x (rT5.keep (And.left ‹_ ∧ _›)) (rU.keep (And.left ‹_ ∧ _›)) G.he (by omega) (by omega) (by rw [UL.out]; exact G.ht) (by rw [UL.out]; exact UP.out) hx0 (by rw [UL.out]; exact hx1) (by rw [UL.out]; exact EN.out)).mono ?_); rintro e W8 ⟨v6, rfl, o6, hB1⟩; obtain ⟨a6, c6, rfl, r6⟩ := o6.row; replace r5 := r5.keep hB1)
      | (go_at_call 16; (with_reducible refine (ints_yes (xs := wayL P.T U U.length x) r5 r6 hWl).mono ?_); rintro e W9 ⟨rfl, hB1⟩; clear r5 r6 o5 o6))
  have BW := And.left ‹Below w5.heap.size w5 _ ∧ _›
  go_wp2
  go_ret
  exact ⟨rfl, below_below hB6 BW⟩
end Go.Proofs.Ytjeddcijefnbfaa
