/- The walk of TreeOwn. -/
import Derived.Test.YtjeddcijefnbfaaT0
set_option linter.unusedVariables false
set_option linter.unusedSimpArgs false
namespace Go.Proofs.Ytjeddcijefnbfaa
open Go.RowKit

/-- A row whose n cells may be written, in a block from B on, below E. -/
def WrOf (w : World) (B E : Nat) (a : Option Addr) (n : Nat) : Prop := n = 0 ∨ ∃ g c xs, a = some ⟨g, 0, none⟩ ∧ g < E ∧ OwnN w B g c n xs
theorem OwnK.wr {w : World} {B : Nat} {v : Value} {xs : List Int} (h : OwnK w B v xs) : ∃ a c, v = .slice a xs.length c ∧ WrOf w B w.heap.size a xs.length := by
  rcases h with ⟨rfl, rfl⟩ | ⟨g, c, cap, rfl, k⟩
  · exact ⟨none, 0, rfl, .inl rfl⟩
  · exact ⟨_, _, rfl, .inr ⟨g, c, xs, rfl, k.rng.2, k⟩⟩
theorem WrOf.keep {w w' : World} {B E : Nat} {a : Option Addr} {n : Nat} (h : WrOf w B E a n) (hb : Below w.heap.size w w') : WrOf w' B E a n := by
  rcases h with h | ⟨g, c, xs, e, l, k⟩
  · exact .inl h
  · exact .inr ⟨g, c, xs, e, l, k.keep hb⟩
theorem WrOf.far {w : World} {B E : Nat} {a : Option Addr} {n : Nat} (h : WrOf w B E a n) {p : Addr} (hp : p.block < B) (u : Value) : WrOf (w.setCell p u) B E a n := by
  rcases h with h | ⟨g, c, xs, e, l, k⟩
  · exact .inl h
  · exact .inr ⟨g, c, xs, e, l, k.far (by have := k.rng.1; omega) u⟩
theorem WrOf.at {w : World} {B E : Nat} {a : Option Addr} {n : Nat} (h : WrOf w B E a n) {i : Nat} (hi : i < n) : ∃ g z, a = some ⟨g, 0, none⟩ ∧ B ≤ g ∧ g < E ∧ w.cell? ⟨g, i, none⟩ = some (.int .i64 z) ∧ w.frozen? ⟨g, i, none⟩ = false ∧ ∀ x, WrOf (w.setCell ⟨g, i, none⟩ (.int .i64 x)) B E a n := by
  rcases h with h | ⟨g, c, xs, e, l, k⟩
  · omega
  · have c1 := k.cell i (by omega) (by omega)
    have f1 := k.fz i
    rw [Int.toNat_natCast] at c1 f1
    refine ⟨g, _, e, k.rng.1, l, c1, f1, fun x => .inr ⟨g, c, st xs i x, e, l, ?_⟩⟩
    have := k.set i x
    rwa [Int.toNat_natCast] at this
section
variable {w : World} {N : Int} {aT aX aC bT bX bC : Option Addr} {cT cX cC dT dX dC : Nat} {T X C : List Int}
theorem same_yes (hT : RowOf w aT T) (hX : RowOf w aX X) (hC : RowOf w aC C) (gT : RowOf w bT T) (gX : RowOf w bX X) (gC : RowOf w bC C) (lT : T.length ≤ 240) (lX : X.length ≤ 240) (lC : C.length ≤ 240) :
    Calls Try.prog 27 #[.agg #[.int .i64 N, .slice aT T.length cT, .slice aX X.length cX, .slice aC C.length cC], .agg #[.int .i64 N, .slice bT T.length dT, .slice bX X.length dX, .slice bC C.length dC]] w fun e w' => e = .returned (.bool true) ∧ Below w.heap.size w w' := by
  have h1 := box_new w #[.int .i64 N, .slice aT T.length cT, .slice aX X.length cX, .slice aC C.length cC] 25
  have h2 := box_new (w.alloc (.cells #[.int .i64 N, .slice aT T.length cT, .slice aX X.length cX, .slice aC C.length cC] 25)) #[.int .i64 N, .slice bT T.length dT, .slice bX X.length dX, .slice bC C.length dC] 25
  have h1' := h1.keep (below_alloc (Below.refl _ _) (.cells #[.int .i64 N, .slice bT T.length dT, .slice bX X.length dX, .slice bC C.length dC] 25))
  have hs : (w.alloc (.cells #[.int .i64 N, .slice aT T.length cT, .slice aX X.length cX, .slice aC C.length cC] 25)).heap.size = w.heap.size + 1 := by simp
  rw [hs] at h2
  have hB := below_alloc (below_alloc (Below.refl w.heap.size w) (.cells #[.int .i64 N, .slice aT T.length cT, .slice aX X.length cX, .slice aC C.length cC] 25)) (.cells #[.int .i64 N, .slice bT T.length dT, .slice bX X.length dX, .slice bC C.length dC] 25)
  clear hs h1
  go_enter Try.func27, Try.ntmps27
  go_upto_region 1 with fail
  generalize (w.alloc _).alloc _ = w1 at h1' h2 hB ⊢
  have k0 := h1'.cell 0
  have k1 := h1'.cell 1
  have m0 := h2.cell 0
  have m1 := h2.cell 1
  have I1 := ints_yes (c1 := cT) (c2 := dT) (hT.keep hB) (gT.keep hB) (by omega)
  go_wp2_with fail
  refine I1.mono ?_
  rintro e w2 ⟨rfl, hB1⟩
  have hB2 := below_below hB hB1
  have j1 := h1'.keep hB1
  have j2 := h2.keep hB1
  clear I1 k0 k1 m0 m1 h1' h2 hB hB1
  have k2 := j1.cell 2
  have m2 := j2.cell 2
  have I2 := ints_yes (c1 := cX) (c2 := dX) (hX.keep hB2) (gX.keep hB2) (by omega)
  go_wp2_with fail
  refine I2.mono ?_
  rintro e w3 ⟨rfl, hB1⟩
  have hB3 := below_below hB2 hB1
  have i1 := j1.keep hB1
  have i2 := j2.keep hB1
  clear I2 k2 m2 j1 j2 hB2 hB1
  have k3 := i1.cell 3
  have m3 := i2.cell 3
  have I3 := ints_yes (c1 := cC) (c2 := dC) (hC.keep hB3) (gC.keep hB3) (by omega)
  go_wp2_with fail
  refine I3.mono ?_
  rintro e w4 ⟨rfl, hB1⟩
  have hB4 := below_below hB3 hB1
  clear I3 k3 m3 i1 i2 hB3 hB1
  go_wp2
  go_ret
  exact ⟨rfl, hB4⟩
end

set_option maxHeartbeats 6400000 in
theorem own_walk (a : Option Addr) (cap : Nat) (zs : List Int) (root v : Int) (w : World) (hz : RowOf w a zs) :
    Calls Try.prog 7 #[.slice a zs.length cap, .int .i64 root, .int .i64 v] w fun e w' => e = .returned (.bool true) ∧ Below w.heap.size w w' := by
  go_enter Try.func7, Try.ntmps7
  go_wp2_with fail
  refine (known_any _).mono ?_
  rintro e w1 ⟨rfl, hB1⟩
  go_wp2_with fail
  refine (plane_net a cap zs w1 (hz.keep hB1)).mono ?_
  rintro e w2 ⟨m, aT, aX, aC, cT, cX, cC, hm, rfl, rT, rX, rC, hB2⟩
  have hB12 := below_below hB1 hB2
  clear hB1 hB2
  go_wp2_with fail
  refine (plane_net a cap zs w2 (hz.keep hB12)).mono ?_
  rintro e w3 ⟨m', bT, bX, bC, dT, dX, dC, hm', rfl, sT, sX, sC, hB2⟩
  obtain rfl : m = m' := by omega
  have G := grown_plane hm
  obtain ⟨P, hP⟩ : ∃ P, P = planeOf zs := ⟨_, rfl⟩
  rw [← hP] at G rT rX rC sT sX sC ⊢
  have hB3 := below_below hB12 hB2
  have rT3 := rT.keep hB2
  have rX3 := rX.keep hB2
  have rC3 := rC.keep hB2
  clear hP hm hm' hB12 hB2 rT rX rC
  have hm0 := G.m0
  have hm25 := G.m25
  have hl48 := G.l48
  have z1 := (box_new w3 #[.int .i64 0, .slice none 0 0, .slice none 0 0, .slice none 0 0] 25).keep (below_alloc (Below.refl _ _) (.cells #[.int .i64 0, .slice none 0 0, .slice none 0 0, .slice none 0 0] 25))
  have z2 := box_new (w3.alloc (.cells #[.int .i64 0, .slice none 0 0, .slice none 0 0, .slice none 0 0] 25)) #[.int .i64 0, .slice none 0 0, .slice none 0 0, .slice none 0 0] 25
  rw [show (w3.alloc (.cells #[.int .i64 0, .slice none 0 0, .slice none 0 0, .slice none 0 0] 25)).heap.size = w3.heap.size + 1 from by simp] at z2
  have kA : Below w3.heap.size w3 ((w3.alloc (.cells #[.int .i64 0, .slice none 0 0, .slice none 0 0, .slice none 0 0] 25)).alloc (.cells #[.int .i64 0, .slice none 0 0, .slice none 0 0, .slice none 0 0] 25)) := below_alloc (below_alloc (Below.refl _ _) _) _
  go_upto_region 4 with (first
    | (refine store4 (by rfl) (by rfl) (.tmp 7) (.tmp 19) (by rfl) w3.heap.size (by rfl) m aT aX aC P.T.length cT P.X.length cX P.C.length cC (by rfl) _ _ _ _ 25 z1 ?_; intro w4 hb1 hg1)
    | (refine store4 (by rfl) (by rfl) (.tmp 8) (.tmp 21) (by rfl) (w3.heap.size + 1) (by rfl) m bT bX bC P.T.length dT P.X.length dX P.C.length dC (by rfl) _ _ _ _ 25 (z2.grown hg1 (by simp)) ?_; intro w5 hb2 hg2))
  have kB := below_grown (below_grown kA hg1 (fun k hk => by injection hk with hk; omega)) hg2 (fun k hk => by injection hk with hk; omega)
  have hb := hb1.grown hg2 (by simp)
  have hB4 := below_below hB3 kB
  have rT5 := rT3.keep kB
  have rX5 := rX3.keep kB
  have rC5 := rC3.keep kB
  have sT5 := sT.keep kB
  have sX5 := sX.keep kB
  have sC5 := sC.keep kB
  generalize w3.heap.size + 1 = b2 at hb2 ⊢
  generalize w3.heap.size = b at hb ⊢
  clear z1 z2 kA kB hb1 hg1 hg2 hB3 rT3 rX3 rC3 sT sX sC
  have k0 := hb.cell 0
  go_wp2_with fail
  refine (within4_any root m (by omega) (by omega) _).mono ?_
  rintro e w' ⟨rfl, rfl⟩
  have hr := wi_rng root m (by omega)
  generalize wi root m = r at hr ⊢
  have SP := span_any (aT := aT) (aX := aX) (aC := aC) (cT := cT) (cX := cX) (cC := cC) (T := P.T) (X := P.X) (C := P.C) (m := m) (r := r) rT5 G.he (by omega) (by omega) G.ht hr.1 hr.2
  have YT := span_tree G.he G.ht hr.1 hr.2 G.C
  obtain ⟨U, hU⟩ : ∃ U, spanL P.T m r = U := ⟨_, rfl⟩
  rw [hU] at YT SP
  have hUl := YT.len
  have UB := Bx.mk hU
  have UL := Bx.mk hUl
  have k1 := hb.cell 1
  have k2 := hb.cell 2
  have k3 := hb.cell 3
  clear hU hUl
  go_wp2_with fail
  refine SP.mono ?_
  rintro e w6 ⟨v6, rfl, o6, hB5⟩
  have hB6 := below_below hB4 hB5
  have hb6 := hb.keep hB5
  have hc6 := hb2.keep hB5
  have rT6 := rT5.keep hB5
  have rX6 := rX5.keep hB5
  have rC6 := rC5.keep hB5
  have sT6 := sT5.keep hB5
  have sX6 := sX5.keep hB5
  have sC6 := sC5.keep hB5
  obtain ⟨aU, cU, rfl, rU⟩ := o6.row
  clear SP k0 k1 k2 k3 hB4 hB5 hb hb2 rT5 rX5 rC5 sT5 sX5 sC5 o6
  have hr0 := hr.1
  have hr1 := hr.2
  have UP := Bx.mk YT.upOk
  have YTB := Bx.mk YT
  clear YT hr
  have hUle : U.length ≤ 60 := by rw [UL.out]; omega
  have hUp : 0 < U.length := by rw [UL.out]; omega
  have q0 := (own_lit w6 w6.heap.size [] (Nat.le_refl _) (by simp)).own
  have kk := below_alloc (Below.refl w6.heap.size w6) (.cells #[] 3)
  have rU7 := rU.keep kk
  go_upto_region 7 with (at_builtin; refine app_any rfl (.tmp 29) (.tmp 30) rfl w6.heap.size _ [] U rfl q0 aU cU U.length rfl rfl rU7 hUp (by simp; omega) (by simp) U.length (by simp) ?_; intro g cap w7 q7 gr7 _; have hk7 := below_app kk q0 (Nat.le_refl _) gr7; have rK := q7.row; clear q7 gr7 q0 kk rU7)
  have hB7 := below_below hB6 hk7
  have hb7 := hb6.keep hk7
  have hc7 := hc6.keep hk7
  have rT7 := rT6.keep hk7
  have rX7 := rX6.keep hk7
  have rC7 := rC6.keep hk7
  have sT7 := sT6.keep hk7
  have sX7 := sX6.keep hk7
  have sC7 := sC6.keep hk7
  have rU7 := rU.keep hk7
  clear hB6 hk7 hb6 hc6 rT6 rX6 rC6 sT6 sX6 sC6 rU
  have HK := net_held hb7
  have hLl : (leftL P.T U).length ≤ 1000 := by
    have := leftTo_le U (P.T.length / 2)
    unfold leftL
    omega
  have hx := wi_rng v m (by omega)
  have hWl : (wayL P.T U U.length (wi v m)).length ≤ 1000 := by
    have := wayL_le P.T U U.length (wi v m)
    omega
  go_region_held3 (fun W => Below w7.heap.size w7 W ∧ W.cell? ⟨b, 0, none⟩ = some (.int .i64 m) ∧ W.cell? ⟨b, 1, none⟩ = some (.slice aT P.T.length cT) ∧ W.cell? ⟨b, 2, none⟩ = some (.slice aX P.X.length cX) ∧ W.cell? ⟨b, 3, none⟩ = some (.slice aC P.C.length cC))
    (first | assumption | exact HK.out _ (below_below (And.left ‹_ ∧ _›) hB1) | exact HK.out _ (Below.drew (Below.refl _ _)))
    (first
      | (go_at_call 19; (with_reducible refine (left_any (rU7.keep (And.left ‹_ ∧ _›)) G.he (by omega) (by omega)).mono ?_); rintro e W4 ⟨v3, rfl, o3, hB1⟩; obtain ⟨a3, c3, rfl, l3⟩ := o3.wr; have s4 := hB1.size)
      | (go_at_call 14; (with_reducible refine (within4_any v m (by omega) (by omega) _).mono ?_); rintro e w' ⟨rfl, rfl⟩)
      | (go_at_call 21; (with_reducible refine (way_any (wi v m) (rT7.keep (And.left ‹_ ∧ _›)) (rU7.keep (And.left ‹_ ∧ _›)) G.he (by omega) (by omega) (by rw [UL.out]; exact G.ht) (by rw [UL.out]; exact UP.out) hx.1 (by rw [UL.out]; exact hx.2)).mono ?_); rintro e W7 ⟨v5, rfl, o5, hB1⟩; obtain ⟨a5, c5, rfl, l5⟩ := o5.k.wr; replace l3 := l3.keep hB1))
  have BW := And.left ‹Below w7.heap.size w7 W7 ∧ _›
  generalize (leftL P.T U).length = n3 at hLl l3 ⊢
  generalize (wayL P.T U U.length (wi v m)).length = n5 at hWl l5 ⊢
  replace l3 : WrOf W7 w7.heap.size W4.heap.size a3 n3 := l3
  replace l5 : WrOf W7 W4.heap.size W7.heap.size a5 n5 := l5
  have hE : w7.heap.size ≤ W4.heap.size := s4
  clear s4 o3 o5 hB1 HK
  go_wp2
  go_loopg [14] (n3 + 1) (fun q y wr => ∃ i : Nat, y = .int .i64 i ∧ q = n3 + 1 - i ∧ i ≤ n3 ∧ WrOf wr w7.heap.size W4.heap.size a3 n3 ∧ WrOf wr W4.heap.size W7.heap.size a5 n5 ∧ Below w7.heap.size w7 wr)
  case atStart => exact ⟨0, rfl, by omega, by omega, l3, l5, BW⟩
  case round =>
    clear l3 l5 BW
    obtain ⟨i, rfl, hq, hi, l3, l5, BW⟩ := hrel
    by_cases hin : i < n3
    · have hI : (i : Int) < n3 := by omega
      obtain ⟨g3, z3, rfl, g3l, g3h, cc, ff, hs⟩ := l3.at hin
      have l3' := hs (-9)
      have l5' := l5.far (p := ⟨g3, i, none⟩) g3h (.int .i64 (-9))
      have BW' := below_set BW (p := ⟨g3, i, none⟩) g3l (.int .i64 (-9))
      clear l3 l5 BW hs
      go_wp2
      go_roundg (n3 + 1 - (i + 1))
      case rel => exact ⟨i + 1, rfl, rfl, by omega, l3', l5', BW'⟩
      case measure => omega
    · have hI : ¬ (i : Int) < n3 := by omega
      go_wp2
      clear hi hq
      go_loopg [15] (n5 + 1) (fun q y wr => ∃ i : Nat, y = .int .i64 i ∧ q = n5 + 1 - i ∧ i ≤ n5 ∧ WrOf wr W4.heap.size W7.heap.size a5 n5 ∧ Below w7.heap.size w7 wr)
      case atStart => exact ⟨0, rfl, by omega, by omega, l5, BW⟩
      case round =>
        clear l3 l5 BW
        obtain ⟨k, rfl, hq, hk, l5, BW⟩ := hrel
        by_cases hkn : k < n5
        · have hK : (k : Int) < n5 := by omega
          obtain ⟨g5, z5, rfl, g5l, g5h, cc, ff, hs⟩ := l5.at hkn
          have l5' := hs (-9)
          have BW' := below_set BW (p := ⟨g5, k, none⟩) (by show w7.heap.size ≤ g5; omega) (.int .i64 (-9))
          clear l5 BW hs
          go_wp2
          go_roundg (n5 + 1 - (k + 1))
          case rel => exact ⟨k + 1, rfl, rfl, by omega, l5', BW'⟩
          case measure => omega
        · have hK : ¬ (k : Int) < n5 := by omega
          have hB8 := below_below hB7 BW
          have hb8 := hb7.keep BW
          have hc8 := hc7.keep BW
          have rT8 := rT7.keep BW
          have rX8 := rX7.keep BW
          have rC8 := rC7.keep BW
          have sT8 := sT7.keep BW
          have sX8 := sX7.keep BW
          have sC8 := sC7.keep BW
          have rU8 := rU7.keep BW
          have rK8 := (rK.keep (Below.refl _ _)).keep BW
          clear l5 BW hB7 hb7 hc7 rT7 rX7 rC7 sT7 sX7 sC7 rU7 rK
          have HK : Bx (∀ W, Below wr.heap.size wr W → Below wr.heap.size wr W ∧ W.cell? ⟨b, 0, none⟩ = some (.int .i64 m) ∧ W.cell? ⟨b, 1, none⟩ = some (.slice aT P.T.length cT) ∧ W.cell? ⟨b, 2, none⟩ = some (.slice aX P.X.length cX) ∧ W.cell? ⟨b, 3, none⟩ = some (.slice aC P.C.length cC) ∧ W.cell? ⟨b2, 0, none⟩ = some (.int .i64 m) ∧ W.cell? ⟨b2, 1, none⟩ = some (.slice bT P.T.length dT) ∧ W.cell? ⟨b2, 2, none⟩ = some (.slice bX P.X.length dX) ∧ W.cell? ⟨b2, 3, none⟩ = some (.slice bC P.C.length dC)) :=
            ⟨fun W k => ⟨k, (hb8.keep k).cell 0, (hb8.keep k).cell 1, (hb8.keep k).cell 2, (hb8.keep k).cell 3, (hc8.keep k).cell 0, (hc8.keep k).cell 1, (hc8.keep k).cell 2, (hc8.keep k).cell 3⟩⟩
          have lX : P.X.length ≤ 240 := by rw [G.F.lx]; omega
          have lC : P.C.length ≤ 240 := by rw [G.F.lc]; omega
          have lU : U.length ≤ 1000 := by omega
          clear hb8 hc8
          go_upto_region 16 with fail
          go_region_held3 (fun W => Below wr.heap.size wr W ∧ W.cell? ⟨b, 0, none⟩ = some (.int .i64 m) ∧ W.cell? ⟨b, 1, none⟩ = some (.slice aT P.T.length cT) ∧ W.cell? ⟨b, 2, none⟩ = some (.slice aX P.X.length cX) ∧ W.cell? ⟨b, 3, none⟩ = some (.slice aC P.C.length cC) ∧ W.cell? ⟨b2, 0, none⟩ = some (.int .i64 m) ∧ W.cell? ⟨b2, 1, none⟩ = some (.slice bT P.T.length dT) ∧ W.cell? ⟨b2, 2, none⟩ = some (.slice bX P.X.length dX) ∧ W.cell? ⟨b2, 3, none⟩ = some (.slice bC P.C.length dC))
            (first | exact HK.out _ (below_below (And.left ‹_ ∧ _›) hB1) | exact HK.out _ (Below.drew (Below.refl _ _)))
            (first
              | (go_at_call 27; (with_reducible refine (same_yes (rT8.keep (And.left ‹_ ∧ _›)) (rX8.keep (And.left ‹_ ∧ _›)) (rC8.keep (And.left ‹_ ∧ _›)) (sT8.keep (And.left ‹_ ∧ _›)) (sX8.keep (And.left ‹_ ∧ _›)) (sC8.keep (And.left ‹_ ∧ _›)) (by omega) lX lC).mono ?_); rintro e W1 ⟨rfl, hB1⟩)
              | (go_at_call 16; (with_reducible refine (ints_yes (xs := U) r5 r6 lU).mono ?_); rintro e W5 ⟨rfl, hB1⟩)
              | (go_at_call 16; (with_reducible refine (ints_yes (xs := U) (rU8.keep (And.left ‹_ ∧ _›)) (rK8.keep (And.left ‹_ ∧ _›)) lU).mono ?_); rintro e W2 ⟨rfl, hB1⟩)
              | (go_at_call 15; (with_reducible refine (span_any (rT8.keep (And.left ‹_ ∧ _›)) G.he (by omega) (by omega) G.ht hr0 hr1).mono ?_); rintro e W3 ⟨v5, rfl, o5, hB1⟩; rw [UB.out] at o5; obtain ⟨a6, c6, rfl, r5⟩ := o5.row)
              | (go_at_call 17; (with_reducible refine (rspan_any (sT8.keep (And.left ‹_ ∧ _›)) G.he (by omega) (by omega) G.ht hr0 hr1).mono ?_); rintro e W4 ⟨v6, rfl, o6, hB1⟩; rw [UB.out] at o6; obtain ⟨a7, c7, rfl, r6⟩ := o6.row; replace r5 := r5.keep hB1))
          have BW := And.left ‹Below wr.heap.size wr W5 ∧ _›
          go_wp2
          go_ret
          exact ⟨rfl, below_below hB8 BW⟩
end Go.Proofs.Ytjeddcijefnbfaa
