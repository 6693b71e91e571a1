/- Nets in memory; the walks of shape, fine, Faces. -/
import Derived.Test.YtidcofjadlfahaaU2
import Derived.Test.YtidcofjadlfahaaTe
import Derived.Deep.RegionHeldLaw
import Derived.Shelf.Abstract
set_option linter.unusedVariables false
set_option linter.unusedSimpArgs false
namespace Go.Proofs.Ytidcofjadlfahaa
open Go.RowKit

/-- A row of n numbers that lies at a place. -/
structure RowAt (w : World) (b o n : Nat) (xs : List Int) : Prop where
  len : xs.length = n
  lt : b < w.heap.size
  get : ∀ i : Int, 0 ≤ i → i < n → w.cell? ⟨b, o + i.toNat, none⟩ = some (.int .i64 (rd xs i))
theorem RowAt.keep {w w' : World} {b o n : Nat} {xs : List Int} (h : RowAt w b o n xs) (hb : Below w.heap.size w w') : RowAt w' b o n xs :=
  ⟨h.len, Nat.lt_of_lt_of_le h.lt hb.size, fun i h0 h1 => by rw [hb.cell (p := ⟨b, o + i.toNat, none⟩) h.lt]; exact h.get i h0 h1⟩
theorem RowAt.far {w : World} {b o n : Nat} {xs : List Int} (h : RowAt w b o n xs) {p : Addr} (hp : p.block ≠ b) (u : Value) : RowAt (w.setCell p u) b o n xs :=
  ⟨h.len, by rw [size_set]; exact h.lt, fun i h0 h1 => by rw [World.cell?_of_block (w := w) (Below.heap_setCell _ _ _ _ (fun e => hp e.symm))]; exact h.get i h0 h1⟩
theorem RowAt.row {w : World} {b o n : Nat} {xs : List Int} (h : RowAt w b o n xs) : RowOf w (some ⟨b, o, none⟩) xs := fun i h0 h1 => ⟨b, o, rfl, h.lt, h.get i h0 (by rw [← h.len]; exact h1)⟩
theorem RowOf.at' {w : World} {a : Option Addr} {xs : List Int} {n : Nat} (h : RowOf w a xs) (hn : xs.length = n) (hp : 0 < n) : ∃ b o, a = some ⟨b, o, none⟩ ∧ RowAt w b o n xs := by
  obtain ⟨b, o, rfl, hb, _⟩ := h 0 (by omega) (by omega)
  refine ⟨b, o, rfl, hn, hb, fun i h0 h1 => ?_⟩
  obtain ⟨b', o', e, _, c⟩ := h i h0 (by omega)
  obtain ⟨rfl, rfl⟩ : b = b' ∧ o = o' := by simpa using e
  exact c
theorem OwnN.at' {w : World} {B g cap n : Nat} {xs : List Int} (h : OwnN w B g cap n xs) : RowAt w g 0 n xs := ⟨h.1, h.rng.2, fun i h0 h1 => by rw [Nat.zero_add]; exact h.cell i h0 h1⟩
/-- A net that is plane, of one piece, its darts about each vertex one round. -/
structure Good (m n : Nat) (T X C : List Int) : Prop where
  m1 : 1 ≤ m
  m60 : m ≤ 60
  n2 : 2 ≤ n
  n240 : n ≤ 240
  ev : (n : Int) % 2 = 0
  lT : T.length = n
  lX : X.length = n
  lC : C.length = n
  t : ∀ d : Int, 0 ≤ d → d < n → 0 ≤ rd T d ∧ rd T d < m
  px : Perm n (rd X)
  c : ∀ d : Int, 0 ≤ d → d < n → 0 ≤ rd C d ∧ rd C d ≤ 2147483648
  tu : ∀ d : Int, 0 ≤ d → d < n → rd T (rd X d) = rd T d
  same : ∀ d e : Int, 0 ≤ d → d < n → 0 ≤ e → e < n → rd T d = rd T e → ∃ i, itr (rd X) d i = e
  conn : Conn T m
  eu : (m : Int) - (n : Int) / 2 + faceN X = 2
  f1 : 1 ≤ faceN X
/-- A net's rows in memory. -/
structure Rows3 (w : World) (n bT oT bX oX bC oC : Nat) (T X C : List Int) : Prop where
  T : RowAt w bT oT n T
  X : RowAt w bX oX n X
  C : RowAt w bC oC n C
theorem Rows3.keep {w w' : World} {n bT oT bX oX bC oC : Nat} {T X C : List Int} (h : Rows3 w n bT oT bX oX bC oC T X C) (hb : Below w.heap.size w w') : Rows3 w' n bT oT bX oX bC oC T X C := ⟨h.T.keep hb, h.X.keep hb, h.C.keep hb⟩
section
variable {m n bT oT bX oX bC oC kT kX kC : Nat} {T X C : List Int} {w : World}
set_option maxHeartbeats 3200000 in
theorem shape_any (G : Good m n T X C) (R : Rows3 w n bT oT bX oX bC oC T X C) : Calls Try.prog 41 #[(.agg #[.int .i64 m, .slice (some ⟨bT, oT, none⟩) n kT, .slice (some ⟨bX, oX, none⟩) n kX, .slice (some ⟨bC, oC, none⟩) n kC])] w fun e w' => e = .returned (.int .i64 0) ∧ Below w.heap.size w w' := by
  have m1 := G.m1
  have m60 := G.m60
  have n2 := G.n2
  have n240 := G.n240
  have ev := G.ev
  have t0 := Bx.mk G.t
  have x0 := Bx.mk G.px.rng
  have RR := Bx.mk R
  have e1 : ((n : Int) != (n : Int)) = false := by simp
  have e2 : ((n : Int) % 2 != 0) = false := by rw [ev]; rfl
  have e3 : ((n : Int).tmod 2 != 0) = false := by rw [Int.tmod_eq_emod_of_nonneg (by omega), ev]; rfl
  clear G R ev
  have hB := below_alloc (Below.refl w.heap.size w) (.cells #[.int .i64 m, .slice (some ⟨bT, oT, none⟩) n kT, .slice (some ⟨bX, oX, none⟩) n kX, .slice (some ⟨bC, oC, none⟩) n kC] 25)
  have hbox := box_new w #[.int .i64 m, .slice (some ⟨bT, oT, none⟩) n kT, .slice (some ⟨bX, oX, none⟩) n kX, .slice (some ⟨bC, oC, none⟩) n kC] 25
  go_enter Try.func41, Try.ntmps41
  go_upto_region 1 with fail
  generalize w.alloc _ = wa at hB hbox ⊢
  generalize w.heap.size = b at hbox ⊢
  have HK := Bx.mk (fun W (h : Below wa.heap.size wa W) => (⟨(hbox.keep h).cell 0, (hbox.keep h).cell 1, (hbox.keep h).cell 2, (hbox.keep h).cell 3⟩ : W.cell? ⟨b, 0, none⟩ = some (.int .i64 m) ∧ W.cell? ⟨b, 1, none⟩ = some (.slice (some ⟨bT, oT, none⟩) n kT) ∧ W.cell? ⟨b, 2, none⟩ = some (.slice (some ⟨bX, oX, none⟩) n kX) ∧ W.cell? ⟨b, 3, none⟩ = some (.slice (some ⟨bC, oC, none⟩) n kC)))
  have HBX := Bx.mk hbox
  have HBW := Bx.mk (fun W (h : Below wa.heap.size wa W) => below_below hB h)
  clear hbox
  have HCT := Bx.mk (fun W (h : Below wa.heap.size wa W) => ((RR.out.keep (HBW.out W h)).T).get)
  have HCX := Bx.mk (fun W (h : Below wa.heap.size wa W) => ((RR.out.keep (HBW.out W h)).X).get)
  obtain ⟨k0, k1, k2, k3⟩ := HK.out wa (Below.refl _ _)
  have g1 : decide ((m : Int) > 60) = false := decide_eq_false (by omega)
  have g2 : decide ((n : Int) > 240) = false := decide_eq_false (by omega)
  go_wp2
  go_loopg [40] (n + 1) (fun q y wr => ∃ d : Nat, y = .int .i64 d ∧ q = n + 1 - d ∧ d ≤ n ∧ wr = wa)
  case atStart => exact ⟨0, rfl, by omega, by omega, rfl⟩
  case round =>
    obtain ⟨d, rfl, hq, hd, rfl⟩ := hrel
    by_cases hdn : d < n
    · have hD : (d : Int) < n := by omega
      have cx := HCX.out _ (Below.refl _ _) d (by omega) hD
      have xx := x0.out d (by omega) hD
      rw [Int.toNat_natCast] at cx
      obtain ⟨x, hx⟩ : ∃ x, rd X d = x := ⟨_, rfl⟩
      rw [hx] at cx xx
      have g3 : decide (x < 0) = false := decide_eq_false (by omega)
      have g4 : decide (x ≥ (n : Int)) = false := decide_eq_false (by omega)
      clear hx xx
      go_wp2
      go_roundg (n + 1 - (d + 1))
      case rel => exact ⟨d + 1, rfl, by omega, by omega, rfl⟩
      case measure => omega
    · have hD : ¬ (d : Int) < n := by omega
      go_wp2
      go_loopg [58] (n + 1) (fun q y w1 => ∃ d : Nat, y = .int .i64 d ∧ q = n + 1 - d ∧ d ≤ n ∧ w1 = wr)
      case atStart => exact ⟨0, rfl, by omega, by omega, rfl⟩
      case round =>
        clear hq hd hdn hD
        obtain ⟨d, rfl, hq, hd, rfl⟩ := hrel
        by_cases hdn : d < n
        · have hD : (d : Int) < n := by omega
          have cx := HCT.out _ (Below.refl _ _) d (by omega) hD
          have xx := t0.out d (by omega) hD
          rw [Int.toNat_natCast] at cx
          obtain ⟨x, hx⟩ : ∃ x, rd T d = x := ⟨_, rfl⟩
          rw [hx] at cx xx
          have g3 : decide (x < 0) = false := decide_eq_false (by omega)
          have g4 : decide (x ≥ (m : Int)) = false := decide_eq_false (by omega)
          clear hx xx
          go_wp2
          go_roundg (n + 1 - (d + 1))
          case rel => exact ⟨d + 1, rfl, by omega, by omega, rfl⟩
          case measure => omega
        · have hD : ¬ (d : Int) < n := by omega
          have BF := Bx.mk (HBW.out _ (Below.refl _ _))
          go_wp2
          go_ret
          exact ⟨rfl, BF.out⟩
theorem fine_any (G : Good m n T X C) (R : Rows3 w n bT oT bX oX bC oC T X C) : Calls Try.prog 56 #[(.agg #[.int .i64 m, .slice (some ⟨bT, oT, none⟩) n kT, .slice (some ⟨bX, oX, none⟩) n kX, .slice (some ⟨bC, oC, none⟩) n kC])] w fun e w' => e = .returned (.bool true) ∧ Below w.heap.size w w' := by
  have SH := fun W (h : Below w.heap.size w W) => shape_any (kT := kT) (kX := kX) (kC := kC) G (R.keep h)
  have hB := below_alloc (Below.refl w.heap.size w) (.cells #[.int .i64 m, .slice (some ⟨bT, oT, none⟩) n kT, .slice (some ⟨bX, oX, none⟩) n kX, .slice (some ⟨bC, oC, none⟩) n kC] 25)
  have hbox := box_new w #[.int .i64 m, .slice (some ⟨bT, oT, none⟩) n kT, .slice (some ⟨bX, oX, none⟩) n kX, .slice (some ⟨bC, oC, none⟩) n kC] 25
  go_enter Try.func56, Try.ntmps56
  go_upto_region 1 with fail
  generalize w.alloc _ = wa at hB hbox ⊢
  generalize w.heap.size = b at hbox ⊢
  have HK := Bx.mk (fun W (h : Below wa.heap.size wa W) => (⟨(hbox.keep h).cell 0, (hbox.keep h).cell 1, (hbox.keep h).cell 2, (hbox.keep h).cell 3⟩ : W.cell? ⟨b, 0, none⟩ = some (.int .i64 m) ∧ W.cell? ⟨b, 1, none⟩ = some (.slice (some ⟨bT, oT, none⟩) n kT) ∧ W.cell? ⟨b, 2, none⟩ = some (.slice (some ⟨bX, oX, none⟩) n kX) ∧ W.cell? ⟨b, 3, none⟩ = some (.slice (some ⟨bC, oC, none⟩) n kC)))
  have HBX := Bx.mk hbox
  have HBW := Bx.mk (fun W (h : Below wa.heap.size wa W) => below_below hB h)
  clear hbox
  obtain ⟨k0, k1, k2, k3⟩ := HK.out wa (Below.refl _ _)
  have S1 := SH _ hB
  go_wp2_with fail
  refine S1.mono ?_
  rintro e w2 ⟨rfl, B2⟩
  have BF := Bx.mk (HBW.out _ B2)
  clear S1 B2
  go_wp2
  go_ret
  exact ⟨rfl, BF.out⟩
theorem behind_any : Calls Try.prog 58 #[(.agg #[.int .i64 m, .slice (some ⟨bT, oT, none⟩) n kT, .slice (some ⟨bX, oX, none⟩) n kX, .slice (some ⟨bC, oC, none⟩) n kC])] w fun e w' => ∃ b1, e = .returned (.func (.func 63) #[] #[.pointer (some ⟨b1, 0, none⟩)]) ∧ BoxN w' b1 #[.int .i64 m, .slice (some ⟨bT, oT, none⟩) n kT, .slice (some ⟨bX, oX, none⟩) n kX, .slice (some ⟨bC, oC, none⟩) n kC] 25 ∧ Below w.heap.size w w' := by
  have hB := below_alloc (Below.refl w.heap.size w) (.cells #[.int .i64 m, .slice (some ⟨bT, oT, none⟩) n kT, .slice (some ⟨bX, oX, none⟩) n kX, .slice (some ⟨bC, oC, none⟩) n kC] 25)
  have hbox := Bx.mk (box_new w #[.int .i64 m, .slice (some ⟨bT, oT, none⟩) n kT, .slice (some ⟨bX, oX, none⟩) n kX, .slice (some ⟨bC, oC, none⟩) n kC] 25)
  go_enter Try.func58, Try.ntmps58
  go_wp2
  go_ret
  exact ⟨_, rfl, hbox.out, hB⟩
set_option maxHeartbeats 1600000 in
theorem pfaces_any (G : Good m n T X C) (R : Rows3 w n bT oT bX oX bC oC T X C) : Calls Try.prog 39 #[(.agg #[.int .i64 m, .slice (some ⟨bT, oT, none⟩) n kT, .slice (some ⟨bX, oX, none⟩) n kX, .slice (some ⟨bC, oC, none⟩) n kC])] w fun e w' => ∃ v, e = .returned (.tuple #[v, .int .i64 (faceN X)]) ∧ Own w' w.heap.size v (facesOf X) ∧ Below w.heap.size w w' := by
  have SH := fun W (h : Below w.heap.size w W) => fine_any (kT := kT) (kX := kX) (kC := kC) G (R.keep h)
  have RR := Bx.mk R
  have GG := Bx.mk G
  have hB := below_alloc (Below.refl w.heap.size w) (.cells #[.int .i64 m, .slice (some ⟨bT, oT, none⟩) n kT, .slice (some ⟨bX, oX, none⟩) n kX, .slice (some ⟨bC, oC, none⟩) n kC] 25)
  have hbox := box_new w #[.int .i64 m, .slice (some ⟨bT, oT, none⟩) n kT, .slice (some ⟨bX, oX, none⟩) n kX, .slice (some ⟨bC, oC, none⟩) n kC] 25
  go_enter Try.func39, Try.ntmps39
  go_upto_region 1 with fail
  generalize w.alloc _ = wa at hB hbox ⊢
  generalize w.heap.size = b at hbox ⊢
  have HK := Bx.mk (fun W (h : Below wa.heap.size wa W) => (⟨(hbox.keep h).cell 0, (hbox.keep h).cell 1, (hbox.keep h).cell 2, (hbox.keep h).cell 3⟩ : W.cell? ⟨b, 0, none⟩ = some (.int .i64 m) ∧ W.cell? ⟨b, 1, none⟩ = some (.slice (some ⟨bT, oT, none⟩) n kT) ∧ W.cell? ⟨b, 2, none⟩ = some (.slice (some ⟨bX, oX, none⟩) n kX) ∧ W.cell? ⟨b, 3, none⟩ = some (.slice (some ⟨bC, oC, none⟩) n kC)))
  have HBX := Bx.mk hbox
  have HBW := Bx.mk (fun W (h : Below wa.heap.size wa W) => below_below hB h)
  clear hbox
  obtain ⟨k0, k1, k2, k3⟩ := HK.out wa (Below.refl _ _)
  have S1 := SH _ hB
  go_upto_region 3 with (go_at_call 56; refine S1.mono ?_; rintro e w2 ⟨rfl, B2⟩)
  clear S1
  clear k0 k1 k2 k3
  have bD := Below.drew (Below.refl w2.heap.size w2)
  have BH := fun W => behind_any (w := W) (m := m) (n := n) (bT := bT) (oT := oT) (bX := bX) (oX := oX) (bC := bC) (oC := oC) (kT := kT) (kX := kX) (kC := kC)
  have eg : ∀ args w, (callFunc 63 args).run Try.prog w = .ok (.enter 63 args) w := enters_of Try.func63 (by kernel_rfl) rfl
  have OR := fun W (b1 : Nat) (hW : Below wa.heap.size wa W) (hb : BoxN W b1 #[.int .i64 m, .slice (some ⟨bT, oT, none⟩) n kT, .slice (some ⟨bX, oX, none⟩) n kX, .slice (some ⟨bC, oC, none⟩) n kC] 25) => orbits_any (m := n) (K := 63) (p := some ⟨b1, 0, none⟩) (w := W) (Y := X) (by rw [GG.out.lX]; exact GG.out.px) (by rw [GG.out.lX]; exact GG.out.ev) GG.out.lX GG.out.n240 eg (fun W' hB' d h0 h1 => by
    have := behind1_any (w := W') (N := (m : Int)) (aT := some ⟨bT, oT, none⟩) (aX := some ⟨bX, oX, none⟩) (aC := some ⟨bC, oC, none⟩) (cT := kT) (cX := kX) (cC := kC) (T := T) (X := X) (C := C) b1 d (by rw [GG.out.lT, GG.out.lX, GG.out.lC]; exact hb.keep hB') ((RR.out.keep (below_below (HBW.out _ hW) hB')).X.row) h0 (by rw [GG.out.lX]; exact h1) (by rw [GG.out.lX]; exact GG.out.ev) (by rw [GG.out.lX]; exact GG.out.n240)
    exact this)
  go_region_held_law (fun W => Below wa.heap.size wa W ∧ W.cell? ⟨b, 0, none⟩ = some (.int .i64 m) ∧ W.cell? ⟨b, 1, none⟩ = some (.slice (some ⟨bT, oT, none⟩) n kT) ∧ W.cell? ⟨b, 2, none⟩ = some (.slice (some ⟨bX, oX, none⟩) n kX) ∧ W.cell? ⟨b, 3, none⟩ = some (.slice (some ⟨bC, oC, none⟩) n kC))
    (first | assumption | exact ⟨Below.drew B2, HK.out _ (Below.drew B2)⟩ | exact ⟨B3, HK.out _ B3⟩ | exact ⟨B4, HK.out _ B4⟩)
    (first
      | (go_at_call 58; with_reducible refine (BH _).mono ?_; rintro e W3 ⟨b1, rfl, hb3, B3'⟩; have B3 := below_below (And.left ‹_ ∧ _›) B3')
      | (go_at_call 57; with_reducible refine (OR _ _ B3 hb3).mono ?_; rintro e W4 ⟨v4, rfl, o4, B4'⟩; have B4 := below_below B3 B4'))
  have f1 := GG.out.f1
  have o5 := Bx.mk (o4.low (below_below (HBW.out _ (Below.refl _ _)) B3).size)
  have B5 := Bx.mk (HBW.out _ B4)
  obtain ⟨f, hf⟩ : ∃ f, faceN X = f := ⟨_, rfl⟩
  rw [hf] at f1 ⊢
  have FB := Bx.mk hf
  clear hf
  have y1 : max f 1 = f := by omega
  have y2 : ¬ (1 > f) := by omega
  go_wp2
  all_goals go_ret2
  all_goals
    refine ⟨v4, ?_, o5.out, B5.out⟩
    rw [FB.out]
    rfl
end
end Go.Proofs.Ytidcofjadlfahaa
