/- Whether a row is a tree: the program's test, and the document's. -/
import Derived.Test.YtjeddcijefnbfaaTp
import Derived.Test.YtjeddcijefnbfaaHd
set_option linter.unusedVariables false
set_option linter.unusedSimpArgs false
namespace Go.Proofs.Ytjeddcijefnbfaa
open Go.RowKit

/-- A vertex hangs by a dart of its own, the root by none. -/
def okV (T up : List Int) (r v : Int) : Prop := (v = r → rd up v = -1) ∧ (v ≠ r → 0 ≤ rd up v ∧ rd up v < T.length ∧ rd T (rd up v) = v)
/-- One step up. -/
def climb (T up : List Int) (r a : Int) : Int := if a = r then r else rd T (ot (rd up a))
structure IsTree (T up : List Int) (N : Nat) (r : Int) : Prop where
  len : up.length = N
  r0 : 0 ≤ r
  r1 : r < N
  ok : ∀ v : Int, 0 ≤ v → v < N → okV T up r v
  cl : ∀ v : Int, 0 ≤ v → v < N → itr (climb T up r) v N = r
def bgB (T : List Int) (d v : Int) : Bool := decide (0 ≤ d ∧ d < T.length ∧ rd T d = v)

section
variable {T up : List Int} {N : Nat} {r : Int}
theorem climb_rng (he : (T.length : Int) % 2 = 0) (ht : ∀ d : Int, 0 ≤ d → d < T.length → 0 ≤ rd T d ∧ rd T d < N) (hr : 0 ≤ r ∧ r < N) (hok : ∀ v : Int, 0 ≤ v → v < N → okV T up r v) {a : Int} (h0 : 0 ≤ a) (h1 : a < N) : 0 ≤ climb T up r a ∧ climb T up r a < N := by
  unfold climb
  split
  · exact hr
  · rename_i h
    obtain ⟨p, q, _⟩ := (hok a h0 h1).2 h
    have := ot_rng _ T.length p q he
    exact ht _ this.1 this.2
theorem climbs_rng (he : (T.length : Int) % 2 = 0) (ht : ∀ d : Int, 0 ≤ d → d < T.length → 0 ≤ rd T d ∧ rd T d < N) (hr : 0 ≤ r ∧ r < N) (hok : ∀ v : Int, 0 ≤ v → v < N → okV T up r v) {a : Int} (h0 : 0 ≤ a) (h1 : a < N) : ∀ k, 0 ≤ itr (climb T up r) a k ∧ itr (climb T up r) a k < N
  | 0 => ⟨h0, h1⟩
  | k + 1 => climb_rng he ht hr hok (climbs_rng he ht hr hok h0 h1 k).1 (climbs_rng he ht hr hok h0 h1 k).2
theorem climb_root {a : Int} (k : Nat) (h : itr (climb T up r) a k = r) : ∀ j, itr (climb T up r) a (k + j) = r
  | 0 => h
  | j + 1 => by
    show climb T up r (itr (climb T up r) a (k + j)) = r
    rw [climb_root k h j, climb, if_pos rfl]
theorem itr_add (f : Int → Int) (a : Int) (i : Nat) : ∀ j, itr f a (i + j) = itr f (itr f a i) j
  | 0 => rfl
  | j + 1 => by
    show f (itr f a (i + j)) = f _
    rw [itr_add f a i j]
/-- A root that is reached is reached by as many steps as there are vertices. -/
theorem climb_few (he : (T.length : Int) % 2 = 0) (ht : ∀ d : Int, 0 ≤ d → d < T.length → 0 ≤ rd T d ∧ rd T d < N) (hr : 0 ≤ r ∧ r < N) (hok : ∀ v : Int, 0 ≤ v → v < N → okV T up r v) {a : Int} (h0 : 0 ≤ a) (h1 : a < N) (k : Nat) (h : itr (climb T up r) a k = r) : itr (climb T up r) a N = r := by
  obtain ⟨j, hj, hp, hl⟩ := least_of (p := fun k => itr (climb T up r) a k = r) k h
  have hn : ((List.range j).map (itr (climb T up r) a)).Nodup := by
    refine nodup_map _ _ (fun i i' hi hi' e => ?_)
    -- from i and i' on the ways are one: the later reaches the root too early
    have e1 := itr_add (climb T up r) a i' (j - i')
    rw [← e, ← itr_add, show i' + (j - i') = j from by omega, hp] at e1
    exact hl (i + (j - i')) (by omega) e1.symm
  have hf := few N _ hn (fun z hz => by
    obtain ⟨i, _, rfl⟩ := List.mem_map.1 hz
    exact climbs_rng he ht hr hok h0 h1 i)
  simp at hf
  have := climb_root j hp (N - j)
  rwa [show j + (N - j) = N from by omega] at this
end

section
variable {N : Int} {aT aX aC : Option Addr} {cT cX cC : Nat} {T X C : List Int} {w : World}
theorem begins_any (d v : Int) (hT : RowOf w aT T) (hm : T.length ≤ 240) :
    Calls Try.prog 34 #[(.agg #[.int .i64 N, .slice aT T.length cT, .slice aX X.length cX, .slice aC C.length cC]), .int .i64 d, .int .i64 v] w fun e w' => e = .returned (.bool (bgB T d v)) ∧ Below w.heap.size w w' := by
  have hB := below_alloc (Below.refl w.heap.size w) (.cells #[.int .i64 N, .slice aT T.length cT, .slice aX X.length cX, .slice aC C.length cC] 25)
  by_cases h0 : 0 ≤ d
  · by_cases h1 : d < T.length
    · obtain ⟨b, o, rfl, hc⟩ := hT.at hB d h0 h1
      by_cases h2 : rd T d = v
      · have E := Bx.mk (show bgB T d v = true by simp [bgB, h0, h1, h2])
        rw [h2] at hc
        have hb : (v == v) = true := by simp
        clear h2
        go_enter Try.func34, Try.ntmps34
        go_wp2
        go_ret
        exact ⟨by rw [E.out]; rfl, hB⟩
      · have E := Bx.mk (show bgB T d v = false by simp [bgB, h2])
        have hb : (rd T d == v) = false := by simpa using h2
        clear h2
        go_enter Try.func34, Try.ntmps34
        go_wp2
        go_ret
        exact ⟨by rw [E.out]; rfl, hB⟩
    · have E := Bx.mk (show bgB T d v = false by simp [bgB, h1])
      have hd : decide (d < (T.length : Int)) = false := decide_eq_false h1
      go_enter Try.func34, Try.ntmps34
      go_wp2
      go_ret
      exact ⟨by rw [E.out]; rfl, hB⟩
  · have E := Bx.mk (show bgB T d v = false by simp [bgB, h0])
    have hd : decide (0 ≤ d) = false := decide_eq_false h0
    go_enter Try.func34, Try.ntmps34
    go_wp2
    go_ret
    exact ⟨by rw [E.out]; rfl, hB⟩
end
/-- The test is told right. -/
def TreeB (T up : List Int) (N : Nat) (r : Int) (w : World) (e : Ending) (w' : World) : Prop := ∃ b : Bool, e = .returned (.bool b) ∧ (b = true ↔ IsTree T up N r) ∧ Below w.heap.size w w'

set_option maxHeartbeats 3200000 in
theorem right_any {aT aX aC aU : Option Addr} {cT cX cC cU : Nat} {T X C up : List Int} {m : Nat} {r : Int} {w : World} (hT : RowOf w aT T) (hU : RowOf w aU up) (he : (T.length : Int) % 2 = 0) (hl : T.length ≤ 240) (hm0 : 0 < m) (hm : m ≤ 60) (hul : up.length ≤ 1000)
    (ht : ∀ d : Int, 0 ≤ d → d < T.length → 0 ≤ rd T d ∧ rd T d < m) :
    Calls Try.prog 18 #[.agg #[.int .i64 m, .slice aT T.length cT, .slice aX X.length cX, .slice aC C.length cC], .slice aU up.length cU, .int .i64 r] w (TreeB T up m r w) := by
  have hB := below_alloc (Below.refl w.heap.size w) (.cells #[.int .i64 m, .slice aT T.length cT, .slice aX X.length cX, .slice aC C.length cC] 25)
  have hbox := box_new w #[.int .i64 m, .slice aT T.length cT, .slice aX X.length cX, .slice aC C.length cC] 25
  obtain ⟨x, hx⟩ : ∃ x, T.length = x := ⟨_, rfl⟩
  obtain ⟨u, hu⟩ : ∃ u, up.length = u := ⟨_, rfl⟩
  rw [hx] at hB hbox he hl ht ⊢
  have HX := Bx.mk hx
  by_cases g1 : u = m
  rotate_left
  · have d1 : ((u : Int) != m) = true := by simpa using (by omega : ¬ (u : Int) = m)
    have NT := Bx.mk (show ¬ IsTree T up m r from fun h => g1 (by rw [← hu]; exact h.len))
    have HB := Bx.mk hB
    clear hbox hB
    go_enter Try.func18, Try.ntmps18
    rw [hu]
    go_wp2
    go_ret
    exact ⟨false, rfl, by simp [NT.out], HB.out⟩
  subst g1
  by_cases g2 : 0 ≤ r ∧ r < u
  rotate_left
  · have d1 : ((u : Int) != u) = false := by simp
    have NT := Bx.mk (show ¬ IsTree T up u r from fun h => g2 ⟨h.r0, h.r1⟩)
    have HB := Bx.mk hB
    clear hbox hB
    by_cases g3 : 0 ≤ r
    · have d3 : decide ((u : Int) ≤ r) = true := decide_eq_true (by omega)
      clear g2
      go_enter Try.func18, Try.ntmps18
      rw [hu]
      go_wp2
      go_ret
      exact ⟨false, rfl, by simp [NT.out], HB.out⟩
    · have d3 : decide (r < 0) = true := decide_eq_true (by omega)
      clear g2
      go_enter Try.func18, Try.ntmps18
      rw [hu]
      go_wp2
      go_ret
      exact ⟨false, rfl, by simp [NT.out], HB.out⟩
  obtain ⟨g2, g3⟩ := g2
  have d1 : ((u : Int) != u) = false := by simp
  have d2 : decide (r < 0) = false := decide_eq_false (by omega)
  have d3 : decide ((u : Int) ≤ r) = false := decide_eq_false (by omega)
  have HU := Bx.mk hu
  rw [hu] at hul ⊢
  clear hx hu
  go_enter Try.func18, Try.ntmps18
  go_wp2
  go_loopg [28] (u + 1) (fun q y wr => ∃ v : Nat, y = .int .i64 v ∧ q = u + 1 - v ∧ v ≤ u ∧ (∀ z : Int, 0 ≤ z → z < v → okV T up r z) ∧ BoxN wr w.heap.size #[.int .i64 u, .slice aT x cT, .slice aX X.length cX, .slice aC C.length cC] 25 ∧ Below w.heap.size w wr)
  case atStart => exact ⟨0, rfl, by omega, by omega, fun z h0 h1 => by omega, hbox, hB⟩
  case round =>
    clear hbox hB
    obtain ⟨v, rfl, hq, hv, hok, hbox, hB⟩ := hrel
    have OK := Bx.mk hok
    clear hok
    have b0 := hbox.cell 0
    have b1 := hbox.cell 1
    have b2 := hbox.cell 2
    have b3 := hbox.cell 3
    by_cases hvu : v < u
    · have hvI : (v : Int) < u := by omega
      obtain ⟨bU, oU, rfl, _, cu⟩ := (hU.keep hB) v (by omega) (by rw [HU.out]; exact hvI)
      obtain ⟨d, hd⟩ : ∃ d, rd up v = d := ⟨_, rfl⟩
      rw [hd, Int.toNat_natCast] at cu
      have HD := Bx.mk hd
      clear hd
      by_cases e1 : (v : Int) = r
      · have f1 : ((v : Int) == r) = true := by simpa using e1
        have f1' : ((v : Int) != r) = false := by simpa using e1
        have E1 := Bx.mk e1
        clear e1
        by_cases e2 : d = -1
        · have f2 : (d == -1) = true := by simpa using e2
          have E2 := Bx.mk e2
          clear e2
          go_wp2
          go_roundg (u + 1 - (v + 1))
          case rel => exact ⟨v + 1, rfl, rfl, by omega, fun z h0 h1 => (by
            by_cases hz : z = v
            · rw [hz]
              exact ⟨fun _ => by rw [HD.out, E2.out], fun h => absurd E1.out h⟩
            · exact OK.out z h0 (by omega)), hbox, hB⟩
          case measure => omega
        · have f2 : (d == -1) = false := by simpa using e2
          have NT := Bx.mk (show ¬ IsTree T up u r from fun h => e2 (by rw [← HD.out]; exact (h.ok v (by omega) (by omega)).1 E1.out))
          clear e2
          go_wp2
          go_ret
          exact ⟨false, rfl, by simp [NT.out], hB⟩
      · have f1 : ((v : Int) == r) = false := by simpa using e1
        have f1' : ((v : Int) != r) = true := by simpa using e1
        have E1 := Bx.mk e1
        clear e1
        by_cases e2 : d = -1
        · have f2 : (d == -1) = true := by simpa using e2
          have NT := Bx.mk (show ¬ IsTree T up u r from fun h => (by have := ((h.ok v (by omega) (by omega)).2 E1.out).1; rw [HD.out] at this; omega))
          clear e2
          go_wp2
          go_ret
          exact ⟨false, rfl, by simp [NT.out], hB⟩
        · have f2 : (d == -1) = false := by simpa using e2
          clear e2
          have hTr := hT.keep hB
          have BG := begins_any (w := wr) (N := u) (aT := aT) (aX := aX) (aC := aC) (cT := cT) (cX := cX) (cC := cC) (T := T) (X := X) (C := C) d v hTr (by rw [HX.out]; exact hl)
          rw [HX.out] at BG
          cases hb : bgB T d v with
          | true =>
            rw [hb] at BG
            have HBG := Bx.mk hb
            clear hb hTr
            go_wp2_with fail
            refine BG.mono ?_
            rintro e w1 ⟨rfl, hB1⟩
            have hbox1 := hbox.keep hB1
            have hB2 := below_below hB hB1
            clear BG hbox hB hB1 b0 b1 b2 b3 cu
            go_wp2
            go_roundg (u + 1 - (v + 1))
            case rel => exact ⟨v + 1, rfl, rfl, by omega, fun z h0 h1 => (by
              by_cases hz : z = v
              · rw [hz]
                have hb := HBG.out
                unfold bgB at hb
                rw [decide_eq_true_eq] at hb
                refine ⟨fun h => absurd h E1.out, fun _ => ?_⟩
                rw [HD.out]
                exact hb
              · exact OK.out z h0 (by omega)), hbox1, hB2⟩
            case measure => omega
          | false =>
            rw [hb] at BG
            have NT := Bx.mk (show ¬ IsTree T up u r from fun h => (by
              have := (h.ok v (by omega) (by omega)).2 E1.out
              rw [HD.out] at this
              unfold bgB at hb
              rw [decide_eq_false_iff_not] at hb
              exact hb this))
            clear hb hTr
            go_wp2_with fail
            refine BG.mono ?_
            rintro e w1 ⟨rfl, hB1⟩
            have hB2 := below_below hB hB1
            clear BG hbox hB hB1 b0 b1 b2 b3 cu
            go_wp2
            go_ret
            exact ⟨false, rfl, by simp [NT.out], hB2⟩
    · have hvI : ¬ (v : Int) < u := by omega
      obtain rfl : u = v := by omega
      go_wp2
      clear b0 b1 b2 b3
      go_loopg [54] (u + 1) (fun q y wr => ∃ v : Nat, y = .int .i64 v ∧ q = u + 1 - v ∧ v ≤ u ∧ (∀ z : Int, 0 ≤ z → z < v → itr (climb T up r) z u = r) ∧ BoxN wr w.heap.size #[.int .i64 u, .slice aT x cT, .slice aX X.length cX, .slice aC C.length cC] 25 ∧ Below w.heap.size w wr)
      case atStart => exact ⟨0, rfl, by omega, by omega, fun z h0 h1 => by omega, hbox, hB⟩
      case round =>
        clear hbox hB hq hv hvu hvI
        obtain ⟨v, rfl, hq, hv, hcl, hbox, hB⟩ := hrel
        have CL := Bx.mk hcl
        clear hcl
        by_cases hvu : v < u
        · have hvI : (v : Int) < u := by omega
          go_wp2
          go_loopg [10, 60] (u + 1) (fun q y10 y60 wr => ∃ k : Nat, y60 = .int .i64 k ∧ y10 = .int .i64 (itr (climb T up r) v k) ∧ q = u + 1 - k ∧ k ≤ u ∧ BoxN wr w.heap.size #[.int .i64 u, .slice aT x cT, .slice aX X.length cX, .slice aC C.length cC] 25 ∧ Below w.heap.size w wr)
          case atStart => exact ⟨0, rfl, rfl, by omega, by omega, hbox, hB⟩
          case round =>
            clear hbox hB
            obtain ⟨k, rfl, rfl, hq2, hk, hbox, hB⟩ := hrel
            have hr := climbs_rng (N := u) (up := up) (by rw [HX.out]; exact he) (by rw [HX.out]; exact ht) ⟨g2, g3⟩ OK.out (by omega : (0 : Int) ≤ v) hvI k
            obtain ⟨a, ha⟩ : ∃ a, itr (climb T up r) v k = a := ⟨_, rfl⟩
            have HA := Bx.mk ha
            rw [ha] at hr ⊢
            clear ha
            by_cases hku : k < u
            · have hkI : (k : Int) < u := by omega
              by_cases e1 : a = r
              · have f1 : (a != r) = false := by simpa using e1
                have E1 := Bx.mk e1
                clear e1
                go_wp2
                go_roundg (u + 1 - (k + 1))
                case rel => exact ⟨k + 1, rfl, by rw [show itr (climb T up r) v (k + 1) = climb T up r a from by rw [itr, HA.out], climb, if_pos E1.out, E1.out], rfl, by omega, hbox, hB⟩
                case measure => omega
              · have f1 : (a != r) = true := by simpa using e1
                obtain ⟨bU, oU, rfl, _, cu⟩ := (hU.keep hB) a (by omega) (by rw [HU.out]; omega)
                obtain ⟨p, q, _⟩ := (OK.out a hr.1 hr.2).2 e1
                have E1 := Bx.mk e1
                clear e1
                obtain ⟨d, hd⟩ : ∃ d, rd up a = d := ⟨_, rfl⟩
                rw [hd] at cu p q
                have HD := Bx.mk hd
                clear hd
                have b0 := hbox.cell 0
                have b1 := hbox.cell 1
                have b2 := hbox.cell 2
                have b3 := hbox.cell 3
                have hTr := (hT.keep hB).keep (Below.drew (Below.refl wr.heap.size wr))
                have HD2 := head_any (w := wr.drew) (N := u) (aT := aT) (aX := aX) (aC := aC) (cT := cT) (cX := cX) (cC := cC) (T := T) (X := X) (C := C) d hTr p q (by rw [HX.out]; exact he) (by rw [HX.out]; exact hl)
                rw [HX.out] at HD2
                go_wp2
                go_still_tail 5, (by kernel_rfl)
                change wpList _ _ _ _ _ wr.drew
                have bD := Bx.mk (Below.drew (Below.refl wr.heap.size wr))
                generalize wr.drew = wd at HD2 bD ⊢
                go_wp2_with fail
                refine HD2.mono ?_
                rintro e w1 ⟨rfl, hB1⟩
                have hBB := below_below bD.out hB1
                have hbox1 := hbox.keep hBB
                have hB2 := below_below hB hBB
                clear HD2 hB1 hbox hB hBB b0 b1 b2 b3 cu hTr
                go_wp2
                go_roundg (u + 1 - (k + 1))
                case rel => exact ⟨k + 1, rfl, by rw [show itr (climb T up r) v (k + 1) = climb T up r a from by rw [itr, HA.out], climb, if_neg E1.out, HD.out], rfl, by omega, hbox1, hB2⟩
                case measure => omega
            · have hkI : ¬ (k : Int) < u := by omega
              obtain rfl : u = k := by omega
              by_cases e1 : a = r
              · have f1 : (a != r) = false := by simpa using e1
                have E1 := Bx.mk e1
                clear e1
                go_wp2
                go_roundg (u + 1 - (v + 1))
                case rel => exact ⟨v + 1, rfl, rfl, by omega, fun z h0 h1 => (by
                  by_cases hz : z = v
                  · rw [hz, HA.out, E1.out]
                  · exact CL.out z h0 (by omega)), hbox, hB⟩
                case measure => omega
              · have f1 : (a != r) = true := by simpa using e1
                have NT := Bx.mk (show ¬ IsTree T up u r from fun h => e1 (by rw [← HA.out]; exact h.cl v (by omega) (by omega)))
                clear e1
                go_wp2
                go_ret
                exact ⟨false, rfl, by simp [NT.out], hB⟩
        · have hvI : ¬ (v : Int) < u := by omega
          obtain rfl : u = v := by omega
          have YT := Bx.mk (show IsTree T up u r from ⟨HU.out, g2, g3, OK.out, CL.out⟩)
          go_wp2
          go_ret
          exact ⟨true, rfl, by simp [YT.out], hB⟩
end Go.Proofs.Ytjeddcijefnbfaa
