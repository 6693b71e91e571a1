/- Whether a row is a tree: the document's test. -/
import Derived.Test.YtjeddcijefnbfaaRt
set_option linter.unusedVariables false
set_option linter.unusedSimpArgs false
namespace Go.Proofs.Ytjeddcijefnbfaa
open Go.RowKit

set_option maxHeartbeats 3200000 in
theorem rright_any {aT aX aC aU : Option Addr} {cT cX cC cU : Nat} {T X C up : List Int} {m : Nat} {r : Int} {w : World} (hT : RowOf w aT T) (hU : RowOf w aU up) (he : (T.length : Int) % 2 = 0) (hl : T.length ≤ 240) (hm0 : 0 < m) (hm : m ≤ 60) (hul : up.length ≤ 1000)
    (ht : ∀ d : Int, 0 ≤ d → d < T.length → 0 ≤ rd T d ∧ rd T d < m) :
    Calls Try.prog 23 #[.agg #[.int .i64 m, .slice aT T.length cT, .slice aX X.length cX, .slice aC C.length cC], .slice aU up.length cU, .int .i64 r] w (TreeB T up m r w) := by
  have hB := below_alloc (Below.refl w.heap.size w) (.cells #[.int .i64 m, .slice aT T.length cT, .slice aX X.length cX, .slice aC C.length cC] 25)
  have hbox := box_new w #[.int .i64 m, .slice aT T.length cT, .slice aX X.length cX, .slice aC C.length cC] 25
  obtain ⟨x, hx⟩ : ∃ x, T.length = x := ⟨_, rfl⟩
  obtain ⟨u, hu⟩ : ∃ u, up.length = u := ⟨_, rfl⟩
  rw [hx] at hB hbox he hl ht ⊢
  have HX := Bx.mk hx
  by_cases g1 : u = m
  rotate_left
  · have d1 : ((u : Int) != m) = true := by simpa using (by omega : ¬ (u : Int) = m)
    have NT := Bx.mk (show ¬ IsTree T up m r from fun h => g1 (by rw [← hu]; exact h.len))
    have HB := Bx.mk hB
    clear hbox hB
    go_enter Try.func23, Try.ntmps23
    rw [hu]
    go_wp2
    go_ret
    exact ⟨false, rfl, by simp [NT.out], HB.out⟩
  subst g1
  by_cases g2 : 0 ≤ r ∧ r < u
  rotate_left
  · have d1 : ((u : Int) != u) = false := by simp
    have NT := Bx.mk (show ¬ IsTree T up u r from fun h => g2 ⟨h.r0, h.r1⟩)
    have HB := Bx.mk hB
    clear hbox hB
    by_cases g3 : 0 ≤ r
    · have d3 : decide ((u : Int) ≤ r) = true := decide_eq_true (by omega)
      clear g2
      go_enter Try.func23, Try.ntmps23
      rw [hu]
      go_wp2
      go_ret
      exact ⟨false, rfl, by simp [NT.out], HB.out⟩
    · have d3 : decide (r < 0) = true := decide_eq_true (by omega)
      clear g2
      go_enter Try.func23, Try.ntmps23
      rw [hu]
      go_wp2
      go_ret
      exact ⟨false, rfl, by simp [NT.out], HB.out⟩
  obtain ⟨g2, g3⟩ := g2
  have d1 : ((u : Int) != u) = false := by simp
  have d2 : decide (r < 0) = false := decide_eq_false (by omega)
  have d3 : decide ((u : Int) ≤ r) = false := decide_eq_false (by omega)
  have HU := Bx.mk hu
  rw [hu] at hul ⊢
  clear hx hu
  obtain ⟨bU, oU, rfl, cu0⟩ := hU.at hB r g2 (by rw [HU.out]; exact g3)
  by_cases hur : rd up r = -1
  rotate_left
  · have f0 : (rd up r != -1) = true := by simpa using hur
    have NT := Bx.mk (show ¬ IsTree T up u r from fun h => hur ((h.ok r g2 g3).1 rfl))
    have HB := Bx.mk hB
    clear hbox hB hur
    go_enter Try.func23, Try.ntmps23
    go_wp2
    go_ret
    exact ⟨false, rfl, by simp [NT.out], HB.out⟩
  rw [hur] at cu0
  have UR := Bx.mk hur
  clear hur
  go_enter Try.func23, Try.ntmps23
  go_wp2
  clear cu0
  go_loopg [7] (u + 1) (fun q y wr => ∃ v : Nat, y = .int .i64 v ∧ q = u + 1 - v ∧ v ≤ u ∧ (∀ z : Int, 0 ≤ z → z < v → okV T up r z) ∧ BoxN wr w.heap.size #[.int .i64 u, .slice aT x cT, .slice aX X.length cX, .slice aC C.length cC] 25 ∧ Below w.heap.size w wr)
  case atStart => exact ⟨0, rfl, by omega, by omega, fun z h0 h1 => by omega, hbox, hB⟩
  case round =>
    clear hbox hB
    obtain ⟨v, rfl, hq, hv, hok, hbox, hB⟩ := hrel
    have OK := Bx.mk hok
    clear hok
    have b0 := hbox.cell 0
    have b1 := hbox.cell 1
    by_cases hvu : v < u
    · have hvI : (v : Int) < u := by omega
      obtain ⟨bU', oU', eU, _, cu⟩ := (hU.keep hB) v (by omega) (by rw [HU.out]; exact hvI)
      obtain ⟨rfl, rfl⟩ : bU = bU' ∧ oU = oU' := by simpa using eU
      clear eU
      obtain ⟨d, hd⟩ : ∃ d, rd up v = d := ⟨_, rfl⟩
      rw [hd, Int.toNat_natCast] at cu
      have HD := Bx.mk hd
      clear hd
      by_cases e1 : (v : Int) = r
      · have f1' : ((v : Int) != r) = false := by simpa using e1
        have E1 := Bx.mk e1
        clear e1
        go_wp2
        go_quiet (fail)
        go_wp2_with fail
        go_roundg (u + 1 - (v + 1))
        case rel => exact ⟨v + 1, rfl, rfl, by omega, fun z h0 h1 => (by
          by_cases hz : z = v
          · rw [hz]
            exact ⟨fun _ => by rw [E1.out, UR.out], fun h => absurd E1.out h⟩
          · exact OK.out z h0 (by omega)), hbox.keep (below_drewN (Below.refl _ _) _), below_drewN hB _⟩
        case measure => omega
      · have f1' : ((v : Int) != r) = true := by simpa using e1
        have E1 := Bx.mk e1
        clear e1
        by_cases e2 : d < 0
        · have f2 : decide (d < 0) = true := decide_eq_true e2
          have NT := Bx.mk (show ¬ IsTree T up u r from fun h => (by have := ((h.ok v (by omega) (by omega)).2 E1.out).1; rw [HD.out] at this; omega))
          go_wp2
          go_quiet (fail)
          go_wp2_with fail
          go_ret
          exact ⟨false, rfl, by simp [NT.out], below_drewN hB _⟩
        · have f2 : decide (d < 0) = false := decide_eq_false e2
          by_cases e3 : d < x
          · have f3 : decide (d ≥ (x : Int)) = false := decide_eq_false (by omega)
            have f3' : decide ((x : Int) ≤ d) = false := decide_eq_false (by omega)
            obtain ⟨bT, oT, rfl, _, ct⟩ := (hT.keep hB) d (by omega) (by rw [HX.out]; exact e3)
            by_cases e4 : rd T d = v
            · rw [e4] at ct
              have E4 := Bx.mk e4
              have f4 : ((v : Int) != v) = false := by simp
              clear e4
              go_wp2
              go_quiet (fail)
              go_wp2_with fail
              go_roundg (u + 1 - (v + 1))
              case rel => exact ⟨v + 1, rfl, rfl, by omega, fun z h0 h1 => (by
                by_cases hz : z = v
                · rw [hz]
                  refine ⟨fun h => absurd h E1.out, fun _ => ?_⟩
                  rw [HD.out]
                  exact ⟨by omega, by rw [HX.out]; exact e3, E4.out⟩
                · exact OK.out z h0 (by omega)), hbox.keep (below_drewN (Below.refl _ _) _), below_drewN hB _⟩
              case measure => omega
            · have f4 : (rd T d != (v : Int)) = true := by simpa using e4
              have NT := Bx.mk (show ¬ IsTree T up u r from fun h => (by have := ((h.ok v (by omega) (by omega)).2 E1.out).2.2; rw [HD.out] at this; exact e4 this))
              clear e4
              go_wp2
              go_quiet (fail)
              go_wp2_with fail
              go_ret
              exact ⟨false, rfl, by simp [NT.out], below_drewN hB _⟩
          · have f3 : decide (d ≥ (x : Int)) = true := decide_eq_true (by omega)
            have f3' : decide ((x : Int) ≤ d) = true := decide_eq_true (by omega)
            have NT := Bx.mk (show ¬ IsTree T up u r from fun h => (by have := ((h.ok v (by omega) (by omega)).2 E1.out).2.1; rw [HD.out, HX.out] at this; omega))
            go_wp2
            go_quiet (fail)
            go_wp2_with fail
            go_ret
            exact ⟨false, rfl, by simp [NT.out], below_drewN hB _⟩
    · have hvI : ¬ (v : Int) < u := by omega
      obtain rfl : u = v := by omega
      go_wp2
      clear b0 b1
      go_loopg [8] (u + 1) (fun q y wr => ∃ v : Nat, y = .int .i64 v ∧ q = u + 1 - v ∧ v ≤ u ∧ (∀ z : Int, 0 ≤ z → z < v → itr (climb T up r) z u = r) ∧ BoxN wr w.heap.size #[.int .i64 u, .slice aT x cT, .slice aX X.length cX, .slice aC C.length cC] 25 ∧ Below w.heap.size w wr)
      case atStart => exact ⟨0, rfl, by omega, by omega, fun z h0 h1 => by omega, hbox, hB⟩
      case round =>
        clear hbox hB hq hv hvu hvI
        obtain ⟨v, rfl, hq, hv, hcl, hbox, hB⟩ := hrel
        have CL := Bx.mk hcl
        clear hcl
        have b0 := hbox.cell 0
        by_cases hvu : v < u
        · have hvI : (v : Int) < u := by omega
          go_wp2
          clear b0
          go_loopg [9, 10] (u + 4) (fun q y10 y60 wr => ∃ k : Nat, y60 = .int .i64 k ∧ y10 = .int .i64 (itr (climb T up r) v k) ∧ q = u + 4 - k ∧ k ≤ u + 2 ∧ BoxN wr w.heap.size #[.int .i64 u, .slice aT x cT, .slice aX X.length cX, .slice aC C.length cC] 25 ∧ Below w.heap.size w wr)
          case atStart => exact ⟨0, rfl, rfl, by omega, by omega, hbox, hB⟩
          case round =>
            clear hbox hB
            obtain ⟨k, rfl, rfl, hq2, hk, hbox, hB⟩ := hrel
            have hr := climbs_rng (N := u) (up := up) (by rw [HX.out]; exact he) (by rw [HX.out]; exact ht) ⟨g2, g3⟩ OK.out (by omega : (0 : Int) ≤ v) hvI k
            obtain ⟨a, ha⟩ : ∃ a, itr (climb T up r) v k = a := ⟨_, rfl⟩
            have HA := Bx.mk ha
            rw [ha] at hr ⊢
            clear ha
            have b0 := hbox.cell 0
            have b1 := hbox.cell 1
            have b2 := hbox.cell 2
            have b3 := hbox.cell 3
            by_cases e1 : a = r
            · have f1 : (a != r) = false := by simpa using e1
              have CF := Bx.mk (climb_few (N := u) (up := up) (by rw [HX.out]; exact he) (by rw [HX.out]; exact ht) ⟨g2, g3⟩ OK.out (by omega : (0 : Int) ≤ v) hvI k (by rw [HA.out, e1]))
              clear e1
              go_wp2
              go_roundg (u + 1 - (v + 1))
              case rel => exact ⟨v + 1, rfl, rfl, by omega, fun z h0 h1 => (by
                by_cases hz : z = v
                · rw [hz, CF.out]
                · exact CL.out z h0 (by omega)), hbox, hB⟩
              case measure => omega
            · have f1 : (a != r) = true := by simpa using e1
              have E1 := Bx.mk e1
              clear e1
              by_cases hku : k ≤ u
              · have hkI : decide ((u : Int) < k) = false := decide_eq_false (by omega)
                obtain ⟨bU', oU', eU, _, cu⟩ := (hU.keep hB) a (by omega) (by rw [HU.out]; omega)
                obtain ⟨rfl, rfl⟩ : bU = bU' ∧ oU = oU' := by simpa using eU
                clear eU
                obtain ⟨p, q, _⟩ := (OK.out a hr.1 hr.2).2 E1.out
                obtain ⟨d, hd⟩ : ∃ d, rd up a = d := ⟨_, rfl⟩
                rw [hd] at cu p q
                have HD := Bx.mk hd
                clear hd
                have hTr := (hT.keep hB).keep (Below.drew (Below.refl wr.heap.size wr))
                have HD2 := rhead_any (w := wr.drew) (N := u) (aT := aT) (aX := aX) (aC := aC) (cT := cT) (cX := cX) (cC := cC) (T := T) (X := X) (C := C) d hTr p q (by rw [HX.out]; exact he) (by rw [HX.out]; exact hl)
                rw [HX.out] at HD2
                go_wp2
                go_still_tail 5, (by kernel_rfl)
                change wpList _ _ _ _ _ wr.drew
                have bD := Bx.mk (Below.drew (Below.refl wr.heap.size wr))
                generalize wr.drew = wd at HD2 bD ⊢
                go_wp2_with fail
                refine HD2.mono ?_
                rintro e w1 ⟨rfl, hB1⟩
                have hBB := below_below bD.out hB1
                have hbox1 := hbox.keep hBB
                have hB2 := below_below hB hBB
                clear HD2 hB1 hbox hB hBB b0 b1 b2 b3 cu hTr
                go_wp2
                go_roundg (u + 4 - (k + 1))
                case rel => exact ⟨k + 1, rfl, by rw [show itr (climb T up r) v (k + 1) = climb T up r a from by rw [itr, HA.out], climb, if_neg E1.out, HD.out], rfl, by omega, hbox1, hB2⟩
                case measure => omega
              · have hkI : decide ((u : Int) < k) = true := decide_eq_true (by omega)
                have NT := Bx.mk (show ¬ IsTree T up u r from fun h => E1.out (by
                  have h1 := climb_root u (h.cl v (by omega) (by omega)) (k - u)
                  rw [show u + (k - u) = k from by omega, HA.out] at h1
                  exact h1))
                go_wp2
                go_ret
                exact ⟨false, rfl, by simp [NT.out], hB⟩
        · have hvI : ¬ (v : Int) < u := by omega
          obtain rfl : u = v := by omega
          have YT := Bx.mk (show IsTree T up u r from ⟨HU.out, g2, g3, OK.out, CL.out⟩)
          go_wp2
          go_ret
          exact ⟨true, rfl, by simp [YT.out], hB⟩
end Go.Proofs.Ytjeddcijefnbfaa
