/- Ways up: the program's, and the document's. -/
import Derived.Test.YtjeddcijefnbfaaTp
import Derived.Test.YtjeddcijefnbfaaSl
set_option linter.unusedVariables false
set_option linter.unusedSimpArgs false
namespace Go.Proofs.Ytjeddcijefnbfaa
open Go.RowKit

/-- The darts from a vertex up, no more than k. -/
def wayL (T up : List Int) : Nat → Int → List Int
  | 0, _ => []
  | k + 1, v => if rd up v < 0 then [] else rd up v :: wayL T up k (rd T (ot (rd up v)))
/-- A way that comes to its end in k steps. -/
def endsW (T up : List Int) : Nat → Int → Prop
  | 0, v => rd up v < 0
  | k + 1, v => rd up v < 0 ∨ endsW T up k (rd T (ot (rd up v)))
def UpOk (T up : List Int) (N : Nat) : Prop := ∀ v : Int, 0 ≤ v → v < N → rd up v = -1 ∨ (0 ≤ rd up v ∧ rd up v < T.length)
theorem wayL_stop {T up : List Int} {v : Int} (h : rd up v < 0) : ∀ k, wayL T up k v = []
  | 0 => rfl
  | k + 1 => by rw [wayL, if_pos h]
theorem wayL_le (T up : List Int) : ∀ k v, (wayL T up k v).length ≤ k
  | 0, _ => Nat.le_refl _
  | k + 1, v => by
    rw [wayL]
    split
    · exact Nat.zero_le _
    · have := wayL_le T up k (rd T (ot (rd up v)))
      rw [List.length_cons]
      omega

set_option maxHeartbeats 1600000 in
theorem way_any {N : Int} {aT aX aC aU : Option Addr} {cT cX cC cU : Nat} {T X C up : List Int} {w : World} (v : Int) (hT : RowOf w aT T) (hU : RowOf w aU up) (he : (T.length : Int) % 2 = 0) (hl : T.length ≤ 240) (hul : up.length ≤ 300)
    (ht : ∀ d : Int, 0 ≤ d → d < T.length → 0 ≤ rd T d ∧ rd T d < up.length) (hup : UpOk T up up.length) (h0 : 0 ≤ v) (h1 : v < up.length) :
    Calls Try.prog 21 #[(.agg #[.int .i64 N, .slice aT T.length cT, .slice aX X.length cX, .slice aC C.length cC]), .slice aU up.length cU, .int .i64 v] w fun e w' => ∃ v', e = .returned v' ∧ Own w' w.heap.size v' (wayL T up up.length v) ∧ Below w.heap.size w w' := by
  have hB := below_alloc (Below.refl w.heap.size w) (.cells #[.int .i64 N, .slice aT T.length cT, .slice aX X.length cX, .slice aC C.length cC] 25)
  have hbox := box_new w #[.int .i64 N, .slice aT T.length cT, .slice aX X.length cX, .slice aC C.length cC] 25
  obtain ⟨x, hx⟩ : ∃ x, T.length = x := ⟨_, rfl⟩
  obtain ⟨u, hu⟩ : ∃ u, up.length = u := ⟨_, rfl⟩
  rw [hx] at hB hbox he hl ht ⊢
  rw [hu] at hul ht hup h1 ⊢
  have HX := Bx.mk hx
  have HU := Bx.mk hu
  have HUP := Bx.mk hup
  clear hx hu hup
  go_enter Try.func21, Try.ntmps21
  go_wp2
  go_loopg [2, 7, 10] (u + 1) (fun q v2 v7 v10 wr => ∃ (k : Nat) (a : Int) (l1 : List Int), v10 = .int .i64 k ∧ v2 = .int .i64 a ∧ 0 ≤ a ∧ a < u ∧ q = u + 1 - k ∧ k ≤ u ∧ l1.length ≤ k ∧ (l1 = [] → v7 = .slice none 0 0) ∧ wayL T up u v = l1 ++ wayL T up (u - k) a ∧ Own wr (w.heap.size + 1) v7 l1 ∧ BoxN wr w.heap.size #[.int .i64 N, .slice aT x cT, .slice aX X.length cX, .slice aC C.length cC] 25 ∧ Below w.heap.size w wr)
  case atStart => exact ⟨0, v, [], rfl, rfl, h0, h1, by omega, by omega, by simp, fun _ => rfl, by simp, Own.nil _ _, hbox, hB⟩
  case round =>
    clear hbox hB h0 h1
    obtain ⟨k, a, l1, rfl, rfl, h0, h1, hq, hk, hl1, hnil, hw, hown, hbox, hB⟩ := hrel
    have NIL := Bx.mk hnil
    have HW := Bx.mk hw
    clear hnil hw
    have b0 := hbox.cell 0
    have b1 := hbox.cell 1
    have b2 := hbox.cell 2
    have b3 := hbox.cell 3
    have f0 : decide (a < 0) = false := decide_eq_false (by omega)
    have f1 : decide ((u : Int) ≤ a) = false := decide_eq_false (by omega)
    obtain ⟨bU, oU, rfl, _, cu⟩ := (hU.keep hB) a h0 (by rw [HU.out]; exact h1)
    have hua := HUP.out a h0 h1
    obtain ⟨d, hd⟩ : ∃ d, rd up a = d := ⟨_, rfl⟩
    rw [hd] at cu hua
    have HD := Bx.mk hd
    clear hd
    by_cases hku : k < u
    · have hkI : (k : Int) < u := by omega
      by_cases e1 : d = -1
      · have f2 : (d == -1) = true := by simpa using e1
        have HE := Bx.mk (show wayL T up u v = l1 by rw [HW.out, wayL_stop (by rw [HD.out, e1]; omega), List.append_nil])
        have CL := clone_any hown (by omega) NIL.out
        clear e1 hua
        go_wp2_with fail
        refine CL.mono ?_
        rintro r1 w1 ⟨v', rfl, hv, hB1⟩
        have hB2 := below_below hB hB1
        have hsz := hB.size
        clear CL b0 b1 b2 b3 cu
        go_wp2
        go_ret
        exact ⟨v', rfl, by rw [HE.out]; exact Own.low hv hsz, hB2⟩
      · have f2 : (d == -1) = false := by simpa using e1
        have hdr : 0 ≤ d ∧ d < x := by
          rcases hua with h | h
          · exact absurd h e1
          · rw [HX.out] at h; exact h
        obtain ⟨hd0, hd1⟩ := hdr
        clear hua e1
        have hown2 := hown.keep (below_alloc (Below.refl _ _) (.cells #[.int .i64 d] 3))
        have hbox2 := hbox.keep (below_alloc (Below.refl _ _) (.cells #[.int .i64 d] 3))
        have hB2 := below_alloc hB (.cells #[.int .i64 d] 3)
        have hlt := hbox.lt
        have n1 := row_new wr [d]
        clear hown
        go_upto_region 6 with (at_builtin; refine app_any rfl (.tmp 27) (.tmp 32) rfl (w.heap.size + 1) _ l1 [d] rfl hown2 (some ⟨wr.heap.size, 0, none⟩) 1 1 rfl rfl n1 (by omega) (by omega) (by simp; omega) (l1.length + 1) rfl ?_; intro g cap w5 q5 gr5 _; have B5 := below_app hB2 hown2 (by omega) gr5; have X5 := hbox2.grown gr5 (Own.block hown2 (by omega)); have Q5 := Bx.mk q5; clear hown2 q5 gr5 hbox2 hB2 n1 b0 b1 b2 b3 cu hbox hB)
        have b0 := X5.cell 0
        have b1 := X5.cell 1
        have b2 := X5.cell 2
        have b3 := X5.cell 3
        obtain ⟨bU', oU', eU, _, cu⟩ := (hU.keep B5) a h0 (by rw [HU.out]; exact h1)
        obtain ⟨rfl, rfl⟩ : bU = bU' ∧ oU = oU' := by simpa using eU
        rw [HD.out] at cu
        clear eU
        have hTr := (hT.keep B5).keep (Below.drew (Below.refl w5.heap.size w5))
        have HD2 := head_any (w := w5.drew) (N := N) (aT := aT) (aX := aX) (aC := aC) (cT := cT) (cX := cX) (cC := cC) (T := T) (X := X) (C := C) d hTr hd0 (by rw [HX.out]; exact hd1) (by rw [HX.out]; exact he) (by rw [HX.out]; exact hl)
        have hor := ot_rng d x hd0 hd1 he
        have hhr := ht (ot d) hor.1 hor.2
        rw [HX.out] at HD2
        go_wp2
        go_still_tail 5, (by kernel_rfl)
        change wpList _ _ _ _ _ w5.drew
        have bD := Bx.mk (Below.drew (Below.refl w5.heap.size w5))
        generalize w5.drew = wd at HD2 bD ⊢
        go_wp2_with fail
        refine HD2.mono ?_
        rintro e w6 ⟨rfl, hB6⟩
        have hBB := below_below bD.out hB6
        have hbox6 := X5.keep hBB
        have hB7 := below_below B5 hBB
        have HO := Bx.mk (Q5.out.own.keep hBB)
        clear HD2 hB6 X5 B5 hBB b0 b1 b2 b3 cu hTr Q5
        go_wp2
        go_roundg (u + 1 - (k + 1))
        case rel => exact ⟨k + 1, rd T (ot d), l1 ++ [d], rfl, rfl, hhr.1, hhr.2, rfl, by omega, by simp; omega, fun h => by simp at h, (by
          rw [HW.out, show u - k = (u - (k + 1)) + 1 from by omega, wayL, HD.out, if_neg (by omega)]
          simp), HO.out, hbox6, hB7⟩
        case measure => omega
    · have hkI : ¬ (k : Int) < u := by omega
      have HE := Bx.mk (show wayL T up u v = l1 by rw [HW.out, show u - k = 0 from by omega, wayL, List.append_nil])
      have CL := clone_any hown (by omega) NIL.out
      clear hua
      go_wp2_with fail
      refine CL.mono ?_
      rintro r1 w1 ⟨v', rfl, hv, hB1⟩
      have hB2 := below_below hB hB1
      have hsz := hB.size
      clear CL b0 b1 b2 b3 cu
      go_wp2
      go_ret
      exact ⟨v', rfl, by rw [HE.out]; exact Own.low hv hsz, hB2⟩

set_option maxHeartbeats 1600000 in
theorem rway_any {N : Int} {aT aX aC aU : Option Addr} {cT cX cC cU : Nat} {T X C up : List Int} {w : World} (v : Int) (hT : RowOf w aT T) (hU : RowOf w aU up) (he : (T.length : Int) % 2 = 0) (hl : T.length ≤ 240) (hul : up.length ≤ 300)
    (ht : ∀ d : Int, 0 ≤ d → d < T.length → 0 ≤ rd T d ∧ rd T d < up.length) (hup : UpOk T up up.length) (h0 : 0 ≤ v) (h1 : v < up.length) (hend : endsW T up up.length v) :
    Calls Try.prog 22 #[(.agg #[.int .i64 N, .slice aT T.length cT, .slice aX X.length cX, .slice aC C.length cC]), .slice aU up.length cU, .int .i64 v] w fun e w' => ∃ v', e = .returned v' ∧ Own w' w.heap.size v' (wayL T up up.length v) ∧ Below w.heap.size w w' := by
  have hB := below_alloc (Below.refl w.heap.size w) (.cells #[.int .i64 N, .slice aT T.length cT, .slice aX X.length cX, .slice aC C.length cC] 25)
  have hbox := box_new w #[.int .i64 N, .slice aT T.length cT, .slice aX X.length cX, .slice aC C.length cC] 25
  obtain ⟨x, hx⟩ : ∃ x, T.length = x := ⟨_, rfl⟩
  obtain ⟨u, hu⟩ : ∃ u, up.length = u := ⟨_, rfl⟩
  rw [hx] at hB hbox he hl ht ⊢
  rw [hu] at hul ht hup h1 hend ⊢
  have HX := Bx.mk hx
  have HU := Bx.mk hu
  have HUP := Bx.mk hup
  have HEN := Bx.mk hend
  clear hx hu hup hend
  go_enter Try.func22, Try.ntmps22
  go_wp2
  go_loopg [2, 7] (u + 1) (fun q v2 v7 wr => ∃ (k : Nat) (a : Int) (l1 : List Int), v2 = .int .i64 a ∧ 0 ≤ a ∧ a < u ∧ q = k + 1 ∧ k ≤ u ∧ l1.length + k ≤ u ∧ Bx (endsW T up k a) ∧ wayL T up u v = l1 ++ wayL T up k a ∧ Own wr (w.heap.size + 1) v7 l1 ∧ BoxN wr w.heap.size #[.int .i64 N, .slice aT x cT, .slice aX X.length cX, .slice aC C.length cC] 25 ∧ Below w.heap.size w wr)
  case atStart => exact ⟨u, v, [], rfl, h0, h1, rfl, by omega, by simp, HEN, by simp, Own.nil _ _, hbox, hB⟩
  case round =>
    clear hbox hB h0 h1 HEN
    obtain ⟨k, a, l1, rfl, h0, h1, hq, hk, hl1, HEN, hw, hown, hbox, hB⟩ := hrel
    have HW := Bx.mk hw
    clear hw
    obtain ⟨bU, oU, rfl, _, cu⟩ := (hU.keep hB) a h0 (by rw [HU.out]; exact h1)
    have hua := HUP.out a h0 h1
    obtain ⟨d, hd⟩ : ∃ d, rd up a = d := ⟨_, rfl⟩
    rw [hd] at cu hua
    have HD := Bx.mk hd
    clear hd
    by_cases e1 : d = -1
    · have f2 : decide (0 ≤ d) = false := decide_eq_false (by omega)
      have HE := Bx.mk (show wayL T up u v = l1 by rw [HW.out, wayL_stop (by rw [HD.out, e1]; omega), List.append_nil])
      clear e1 hua
      go_wp2
      go_ret
      exact ⟨_, rfl, by rw [HE.out]; exact Own.low hown (by omega), hB⟩
    · have hdr : 0 ≤ d ∧ d < x := by
        rcases hua with h | h
        · exact absurd h e1
        · rw [HX.out] at h; exact h
      obtain ⟨hd0, hd1⟩ := hdr
      clear hua e1
      cases k with
      | zero =>
        have := HEN.out
        unfold endsW at this
        rw [HD.out] at this
        omega
      | succ k =>
        have HEN2 : Bx (endsW T up k (rd T (ot d))) := ⟨by
          have := HEN.out
          unfold endsW at this
          rw [HD.out] at this
          rcases this with h | h
          · omega
          · exact h⟩
        have hown2 := hown.keep (below_alloc (Below.refl _ _) (.cells #[.int .i64 d] 3))
        have hbox2 := hbox.keep (below_alloc (Below.refl _ _) (.cells #[.int .i64 d] 3))
        have hB2 := below_alloc hB (.cells #[.int .i64 d] 3)
        have hlt := hbox.lt
        have n1 := row_new wr [d]
        clear hown HEN
        go_upto_region 4 with (at_builtin; refine app_any rfl (.tmp 13) (.tmp 18) rfl (w.heap.size + 1) _ l1 [d] rfl hown2 (some ⟨wr.heap.size, 0, none⟩) 1 1 rfl rfl n1 (by omega) (by omega) (by simp; omega) (l1.length + 1) rfl ?_; intro g cap w5 q5 gr5 _; have B5 := below_app hB2 hown2 (by omega) gr5; have X5 := hbox2.grown gr5 (Own.block hown2 (by omega)); have Q5 := Bx.mk q5; clear hown2 q5 gr5 hbox2 hB2 n1 cu hbox hB)
        have b0 := X5.cell 0
        have b1 := X5.cell 1
        have b2 := X5.cell 2
        have b3 := X5.cell 3
        obtain ⟨bU', oU', eU, _, cu⟩ := (hU.keep B5) a h0 (by rw [HU.out]; exact h1)
        obtain ⟨rfl, rfl⟩ : bU = bU' ∧ oU = oU' := by simpa using eU
        rw [HD.out] at cu
        clear eU
        have hTr := (hT.keep B5).keep (Below.drew (Below.refl w5.heap.size w5))
        have HD2 := rhead_any (w := w5.drew) (N := N) (aT := aT) (aX := aX) (aC := aC) (cT := cT) (cX := cX) (cC := cC) (T := T) (X := X) (C := C) d hTr hd0 (by rw [HX.out]; exact hd1) (by rw [HX.out]; exact he) (by rw [HX.out]; exact hl)
        have hor := ot_rng d x hd0 hd1 he
        have hhr := ht (ot d) hor.1 hor.2
        rw [HX.out] at HD2
        go_wp2
        go_still_tail 5, (by kernel_rfl)
        change wpList _ _ _ _ _ w5.drew
        have bD := Bx.mk (Below.drew (Below.refl w5.heap.size w5))
        generalize w5.drew = wd at HD2 bD ⊢
        go_wp2_with fail
        refine HD2.mono ?_
        rintro e w6 ⟨rfl, hB6⟩
        have hBB := below_below bD.out hB6
        have hbox6 := X5.keep hBB
        have hB7 := below_below B5 hBB
        have HO := Bx.mk (Q5.out.own.keep hBB)
        clear HD2 hB6 X5 B5 hBB b0 b1 b2 b3 cu hTr Q5
        go_wp2
        go_roundg (k + 1)
        case rel => exact ⟨k, rd T (ot d), l1 ++ [d], rfl, hhr.1, hhr.2, rfl, by omega, by simp; omega, HEN2, (by
          rw [HW.out, wayL, HD.out, if_neg (by omega)]
          simp), HO.out, hbox6, hB7⟩
        case measure => omega
end Go.Proofs.Ytjeddcijefnbfaa
