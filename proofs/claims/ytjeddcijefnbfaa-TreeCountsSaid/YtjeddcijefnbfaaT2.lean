/- The walk of TreeCounts. -/
import Derived.Test.YtjeddcijefnbfaaT0
import Derived.Test.YtjeddcijefnbfaaTc
set_option linter.unusedVariables false
set_option linter.unusedSimpArgs false
namespace Go.Proofs.Ytjeddcijefnbfaa
open Go.RowKit

set_option maxHeartbeats 6400000 in
theorem counts_walk (a : Option Addr) (cap : Nat) (zs : List Int) (root : Int) (w : World) (hz : RowOf w a zs) :
    Calls Try.prog 8 #[.slice a zs.length cap, .int .i64 root] w fun e w' => e = .returned (.bool true) ∧ Below w.heap.size w w' := by
  go_enter Try.func8, Try.ntmps8
  go_wp2_with fail
  refine (known_any _).mono ?_
  rintro e w1 ⟨rfl, hB1⟩
  go_wp2_with fail
  refine (plane_net a cap zs w1 (hz.keep hB1)).mono ?_
  rintro e w2 ⟨m, aT, aX, aC, cT, cX, cC, hm, rfl, rT, rX, rC, hB2⟩
  have hB12 := below_below hB1 hB2
  have G := grown_plane hm
  have PL : Bx (planeOf zs = planeOf zs) := ⟨rfl⟩
  obtain ⟨P, hP⟩ : ∃ P, P = planeOf zs := ⟨_, rfl⟩
  rw [← hP] at G rT rX rC ⊢
  have PZ := Bx.mk hP
  clear hP hm hB1 hB2 PL
  have hm0 := G.m0
  have hm25 := G.m25
  have hl48 := G.l48
  have hb := box_new w2 #[.int .i64 m, .slice aT P.T.length cT, .slice aX P.X.length cX, .slice aC P.C.length cC] 25
  have hB3 := below_alloc hB12 (.cells #[.int .i64 m, .slice aT P.T.length cT, .slice aX P.X.length cX, .slice aC P.C.length cC] 25)
  have hk := below_alloc (Below.refl w2.heap.size w2) (.cells #[.int .i64 m, .slice aT P.T.length cT, .slice aX P.X.length cX, .slice aC P.C.length cC] 25)
  have rT3 := rT.keep hk
  have rX3 := rX.keep hk
  have rC3 := rC.keep hk
  go_upto_region 4 with fail
  generalize w2.alloc _ = w3 at hb hB3 rT3 rX3 rC3 ⊢
  generalize w2.heap.size = b at hb ⊢
  clear rT rX rC hk hB12
  have k0 := hb.cell 0
  go_wp2_with fail
  refine (within4_any root m (by omega) (by omega) _).mono ?_
  rintro e w' ⟨rfl, rfl⟩
  have hr := wi_rng root m (by omega)
  generalize wi root m = r at hr ⊢
  have YT := span_tree G.he G.ht hr.1 hr.2 G.C
  have UB := Bx.mk (Eq.refl (spanL P.T m r))
  have SP := span_any (aT := aT) (aX := aX) (aC := aC) (cT := cT) (cX := cX) (cC := cC) (T := P.T) (X := P.X) (C := P.C) (m := m) (r := r) rT3 G.he (by omega) (by omega) G.ht hr.1 hr.2
  obtain ⟨U, hU⟩ : ∃ U, spanL P.T m r = U := ⟨_, rfl⟩
  rw [hU] at YT SP
  have hUl := YT.len
  replace UB := Bx.mk hU
  have UL := Bx.mk hUl
  have k1 := hb.cell 1
  have k2 := hb.cell 2
  have k3 := hb.cell 3
  clear hU hUl
  go_wp2_with fail
  refine SP.mono ?_
  rintro e w5 ⟨v5, rfl, o5, hB5⟩
  have hB6 := below_below hB3 hB5
  have hb5 := hb.keep hB5
  have rT5 := rT3.keep hB5
  have rX5 := rX3.keep hB5
  have rC5 := rC3.keep hB5
  obtain ⟨aU, cU, rfl, rU⟩ := o5.row
  clear SP k0 k1 k2 k3 hB3 hB5 hb rT3 rX3 rC3 o5
  have HK := net_held hb5
  have hr0 := hr.1
  have hr1 := hr.2
  have UP := Bx.mk YT.upOk
  have YTB := Bx.mk YT
  clear YT hr
  have hUle : U.length ≤ 60 := by rw [UL.out]; omega
  have hUm : (m : Int) ≤ U.length := by rw [UL.out]; exact Int.le_refl _
  have hmU : (U.length : Int) ≤ m := by rw [UL.out]; exact Int.le_refl _
  have LC := Bx.mk (left_count YTB.out G.he G.ht)
  have hne : ((U.length : Int) != m) = false := by rw [UL.out]; simp
  have k0 := hb5.cell 0
  go_wp2
  clear hne
  go_loopg [8, 9] (m + 1) (fun q y8 y9 wr => ∃ (v : Nat) (c : Int), y9 = .int .i64 v ∧ y8 = .int .i64 c ∧ (c = if r < v then (v : Int) - 1 else v) ∧ q = m + 1 - v ∧ v ≤ m ∧ wr = w5)
  case atStart => exact ⟨0, 0, rfl, rfl, by rw [if_neg (by omega)]; rfl, by omega, by omega, rfl⟩
  case round =>
    obtain ⟨v, c, rfl, rfl, hc, hq, hv, rfl⟩ := hrel
    have hcr : 0 ≤ c ∧ c ≤ v := by rw [hc]; split <;> omega
    have HC := Bx.mk hc
    clear hc
    by_cases hvm : v < m
    · have hvI : (v : Int) < m := by omega
      obtain ⟨bU, oU, rfl, _, cu⟩ := rU v (by omega) (by rw [UL.out]; exact hvI)
      rw [Int.toNat_natCast] at cu
      obtain ⟨p, q2⟩ := YTB.out.ok v (by omega) hvI
      by_cases e : (v : Int) = r
      · rw [p e] at cu
        have f1 : ((v : Int) == r) = true := by simpa using e
        have E := Bx.mk e
        clear e p q2
        go_wp2
        go_roundg (m + 1 - (v + 1))
        case rel => exact ⟨v + 1, c, rfl, rfl, by have := E.out; rw [HC.out, if_neg (by omega), if_pos (by omega)]; omega, rfl, by omega, rfl⟩
        case measure => omega
      · obtain ⟨d0, d1, _⟩ := q2 e
        obtain ⟨d, hd⟩ : ∃ d, rd U v = d := ⟨_, rfl⟩
        rw [hd] at cu d0 d1
        have f1 : ((v : Int) == r) = false := by simpa using e
        have f2 : (d == -1) = false := by simp; omega
        have E := Bx.mk e
        clear e p q2 hd
        go_wp2
        go_roundg (m + 1 - (v + 1))
        case rel => exact ⟨v + 1, c + 1, rfl, rfl, (by
          have := E.out
          rw [HC.out]
          by_cases h : r < v
          · rw [if_pos h, if_pos (by omega)]; omega
          · rw [if_neg h, if_neg (by omega)]; omega), rfl, by omega, rfl⟩
        case measure => omega
    · have hvI : ¬ (v : Int) < m := by omega
      obtain rfl : m = v := by omega
      have hc2 : c = (m : Int) - 1 := by rw [HC.out, if_pos hr1]
      subst hc2
      have y1 : IntKind.i64.wrap ((m : Int) - 1) = (m : Int) - 1 := IntWalk.i64_in _ (by omega)
      have FIN := Bx.mk (show (((leftL P.T U).length : Int) == IntKind.i64.wrap (IntKind.i64.wrap ((P.T.length : Int) / 2) - ((m : Int) - 1))) = true by
        have := LC.out
        rw [IntWalk.i64_in ((P.T.length : Int) / 2) (by omega), IntWalk.i64_in _ (by omega)]
        simp
        omega)
      go_upto_region 16 with fail
      go_region_held3 (fun W => Below wr.heap.size wr W ∧ W.cell? ⟨b, 0, none⟩ = some (.int .i64 m) ∧ W.cell? ⟨b, 1, none⟩ = some (.slice aT P.T.length cT) ∧ W.cell? ⟨b, 2, none⟩ = some (.slice aX P.X.length cX) ∧ W.cell? ⟨b, 3, none⟩ = some (.slice aC P.C.length cC))
        (first | exact HK.out _ (below_below (And.left ‹_ ∧ _›) hB1) | exact HK.out _ (Below.drew (Below.refl _ _)))
        (first
          | (go_at_call 19; (with_reducible refine (left_any (rU.keep (And.left ‹_ ∧ _›)) G.he (by omega) (by omega)).mono ?_); rintro e W4 ⟨v3, rfl, o3, hB1⟩; obtain ⟨a3, c3, rfl, r3⟩ := o3.row))
      have BW := And.left ‹Below wr.heap.size wr _ ∧ _›
      go_wp2
      go_ret
      exact ⟨congrArg (fun z => Ending.returned (Value.bool z)) FIN.out, below_below hB6 BW⟩
end Go.Proofs.Ytjeddcijefnbfaa
