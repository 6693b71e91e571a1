/- The walks of the functions of a forest that go up and write (r). -/
import Derived.Test.YtjicapkhlfbgjaaRr
namespace Go.Proofs.Ytjicapkhlfbgjaa
open Go.RowKit

section
variable {w : World} {lo hi g n : Nat} {U W : List Int}
theorem r_add (v b : Int) (h : Forest 54 w lo hi g n U W) (hg : Good U) : Calls Try.prog 36 #[.pointer (some ⟨g, 0, none⟩), .int .i64 v, .int .i64 b] w fun e w' => e = .returned (.bool (isv U v)) ∧ Left 54 lo hi g n w U (addedW U W v b) w' := by
  have H := Bx.mk h
  cases hv : isv U v with
  | false =>
    rw [show addedW U W v b = W from by simp [addedW, hv]]
    clear h
    go_enter Try.func36, Try.ntmps36
    go_wp2_with (go_at_call 31; refine (r_is _ H.out).mono ?_; rintro e w' ⟨rfl, rfl⟩)
    go_ret
    exact ⟨rfl, left_same H.out⟩
  | true =>
    obtain ⟨h0, h1⟩ := isv_iff.1 hv
    obtain ⟨bu, bw, cu, cw, k⟩ := h
    have hlen := k.len
    have R := Bx.mk (And.intro (hg.way v (by omega) h1) (And.intro k (show addedW U W v b = addL b W (way U v) from by simp [addedW, hv])))
    clear k h0 h1
    go_enter Try.func36, Try.ntmps36
    go_wp2_with (go_at_call 31; refine (r_is _ H.out).mono ?_; rintro e w' ⟨rfl, rfl⟩)
    go_loopg [1] (way U v).length (fun m x wr => ∃ y l W', x = .int .i64 y ∧ ForestAt 54 wr lo hi g bu bw cu cw n U W' ∧ Rng lo hi w wr ∧ Way U y l ∧ l.length = m ∧ 0 ≤ y ∧ addL b W' l = addedW U W v b)
    case atStart => exact ⟨v, _, W, rfl, R.out.2.1, Rng.refl _ _ _, R.out.1, rfl, (isv_iff.1 hv).1, R.out.2.2.symm⟩
    case round =>
      obtain ⟨y, l, W', rfl, k, hr, hx, hm, hx0, hl⟩ := hrel
      have hx1 := (hx.mem (x := y) (by obtain ⟨s, rfl, _⟩ := hx.cons hx0; simp)).2
      rw [k.lu] at hx1
      have c0 := k.c0
      have c1 := k.c1
      have cv := k.celu y hx0 hx1
      have cx := k.celw y hx0 hx1
      have fx := k.fw y
      have n1 := k.ne.1
      have n2 := k.ne.2.1
      have n3 := k.ne.2.2
      have A := Bx.mk (And.intro k (And.intro hr (And.intro hx (And.intro hm hl))))
      clear k hr hx hm hl
      by_cases hz : rd U y = -1
      · have hq : (rd U y != -1) = false := by simpa using hz
        have hs : rd U y < 0 := by omega
        clear hz
        go_wp2
        go_ret
        obtain ⟨k, hr, hx, hm, hl⟩ := A.out
        obtain ⟨s, rfl, hw⟩ := hx.cons hx0
        have hs : s = [] := by rcases hw.inv with ⟨_, h⟩ | ⟨h, _⟩; exact h; omega
        subst hs
        rw [← hl]
        exact ⟨rfl, ⟨_, _, _, _, k⟩, hr⟩
      · have hq : (rd U y != -1) = true := by simpa using hz
        have hs : 0 ≤ rd U y := by have := hg.rng y hx0 (by rw [A.out.1.lu]; exact hx1); omega
        clear hz
        go_wp2
        go_region
        go_wp2
        obtain ⟨k, hr, hx, hm, hl⟩ := A.out
        obtain ⟨s, rfl, hw⟩ := hx.cons hx0
        rcases hw.inv with ⟨e, _⟩ | ⟨_, _, t, rfl, hw'⟩
        · omega
        go_roundg (rd U y :: t).length
        case rel => exact ⟨_, _, st W' y (wrap64 (rd W' y + b)), rfl, (k.setW _ _).drew, (hr.setCell k.ge.2.2 k.lt.2.2 _).drew, hw, rfl, hs, by rw [← hl]; rfl⟩
        case measure => simp at hm ⊢; omega
theorem r_turn (v : Int) (h : Forest 54 w lo hi g n U W) (hg : Good U) : Calls Try.prog 20 #[.pointer (some ⟨g, 0, none⟩), .int .i64 v] w fun e w' => e = .returned (.bool (isv U v)) ∧ Left 54 lo hi g n w (turnedU U v) (turnedW U W v) w' := by
  have H := Bx.mk h
  cases hv : isv U v with
  | false =>
    rw [show turnedU U v = U from by simp [turnedU, hv], show turnedW U W v = W from by simp [turnedW, hv]]
    clear h
    go_enter Try.func20, Try.ntmps20
    skip
    go_wp2_with (go_at_call 31; refine (r_is _ H.out).mono ?_; rintro e w' ⟨rfl, rfl⟩)
    skip
    go_ret
    exact ⟨rfl, left_same H.out⟩
  | true =>
    obtain ⟨h0, h1⟩ := isv_iff.1 hv
    obtain ⟨bu, bw, cu, cw, k⟩ := h
    have hlen := k.len
    have R := Bx.mk (And.intro (hg.way v (by omega) h1) (And.intro k (And.intro (show turnedU U v = turnU U (way U v) (-1) from by simp [turnedU, hv]) (show turnedW U W v = turnW W (way U v) 0 from by simp [turnedW, hv]))))
    clear k h0 h1
    go_enter Try.func20, Try.ntmps20
    skip
    go_wp2_with (go_at_call 31; refine (r_is _ H.out).mono ?_; rintro e w' ⟨rfl, rfl⟩)
    skip
    go_loopg [1, 5, 6] (way U v).length (fun m a b c wr => ∃ y last x l U' W', a = .int .i64 y ∧ b = .int .i64 last ∧ c = .int .i64 x ∧ ForestAt 54 wr lo hi g bu bw cu cw n U' W' ∧ Rng lo hi w wr ∧ Way U y l ∧ l.length = m ∧ (∀ z, z ∈ l → rd U' z = rd U z) ∧ turnU U' l last = turnedU U v ∧ turnW W' l x = turnedW U W v)
    case atStart => exact ⟨v, -1, 0, _, U, W, rfl, rfl, rfl, R.out.2.1, Rng.refl _ _ _, R.out.1, rfl, fun _ _ => rfl, R.out.2.2.1.symm, R.out.2.2.2.symm⟩
    case round =>
      obtain ⟨y, last, x, l, U', W', rfl, rfl, rfl, k, hr, hx, hm, ha, hl, hl'⟩ := hrel
      have A := Bx.mk (And.intro k (And.intro hr (And.intro hx (And.intro hm (And.intro ha (And.intro hl hl'))))))
      rcases hx.inv with ⟨hy, e⟩ | ⟨h0, h1, s, e, hw⟩
      · clear k hr hx hm ha hl hl'
        have hq : (y != -1) = false := by simpa using hy
        have hs : y < 0 := by omega
        clear hy
        go_wp2
        skip
        go_ret
        obtain ⟨k, hr, hx, hm, ha, hl, hl'⟩ := A.out
        subst e
        rw [← hl, ← hl']
        exact ⟨rfl, ⟨_, _, _, _, k⟩, hr⟩
      · have hq : (y != -1) = true := by simp; omega
        rw [show U.length = n from by rw [← k.lu, ← turnU_length U' l last, hl, turnedU_length]] at h1
        have c0 := k.c0
        have c1 := k.c1
        have cv := k.celu y h0 h1
        have cx := k.celw y h0 h1
        have fv := k.fu y
        have fx := k.fw y
        have n1 := k.ne.1
        have n2 := k.ne.2.1
        have n3 := k.ne.2.2
        have E := Bx.mk (And.intro e hw)
        clear k hr hx hm ha hl hl' e hw
        go_wp2
        go_region
        go_wp2
        go_region
        go_wp2
        
        obtain ⟨k, hr, hx, hm, ha, hl, hl'⟩ := A.out
        obtain ⟨e, hw⟩ := E.out
        subst e
        have hn := hx.notin
        go_roundg s.length
        case rel => exact ⟨rd U' y, y, rd W' y, s, st U' y last, st W' y x, rfl, rfl, rfl, ((k.setU _ _).setW _ _).drew.drew, ((hr.setCell k.ge.2.1 k.lt.2.1 _).setCell k.ge.2.2 k.lt.2.2 _).drew.drew, by rw [ha y (by simp)]; exact hw, rfl, fun z hz => by rw [rd_st_ne _ _ _ _ h0 (by rw [k.lu]; exact h1) (hw.mem hz).1 (by rintro rfl; exact hn hz)]; exact ha z (List.mem_cons_of_mem _ hz), hl, hl'⟩
        case measure => simp at hm; omega
theorem r_least (v : Int) (h : Forest 54 w lo hi g n U W) (hg : Good U) : Calls Try.prog 37 #[.pointer (some ⟨g, 0, none⟩), .int .i64 v] w fun e w' => e = .returned (.tuple #[.int .i64 (leastT U W v).1, .int .i64 (leastT U W v).2.1, .bool (leastT U W v).2.2]) ∧ Left 54 lo hi g n w U W w' := by
  have H := Bx.mk h
  cases hv : isv U v with
  | false =>
    rw [show leastT U W v = (0, 0, false) from by simp [leastT, hv]]
    clear h
    go_enter Try.func37, Try.ntmps37
    go_wp2_with (go_at_call 31; refine (r_is _ H.out).mono ?_; rintro e w' ⟨rfl, rfl⟩)
    go_ret3
    exact ⟨rfl, left_same H.out⟩
  | true =>
    obtain ⟨h0, h1⟩ := isv_iff.1 hv
    obtain ⟨bu, bw, cu, cw, k⟩ := h
    have hlen := k.len
    have hw0 := hg.way v (by omega) h1
    have rg := hg.rng v h0 h1
    rw [k.lu] at h1
    have c0 := k.c0
    have c1 := k.c1
    have cv := k.celu v h0 h1
    by_cases hz : rd U v = -1
    · have hs : rd U v < 0 := by omega
      have hT : leastT U W v = (0, 0, false) := by
        have : way U v = [v] := (root_self h0 (by rw [k.lu]; exact h1) hz).way
        simp [leastT, hv, this, leastL]
      rw [hT]
      clear hz hw0 k hT
      go_enter Try.func37, Try.ntmps37
      go_wp2_with (go_at_call 31; refine (r_is _ H.out).mono ?_; rintro e w' ⟨rfl, rfl⟩)
      go_ret3
      exact ⟨rfl, left_same H.out⟩
    · have hs : 0 ≤ rd U v := by omega
      have hT : leastT U W v = (leastAt W (way U v) v, rd W (leastAt W (way U v) v), true) := by
        obtain ⟨s, e, hw⟩ := hw0.cons h0
        rcases hw.inv with ⟨e, _⟩ | ⟨_, _, t, e', hw'⟩
        · omega
        · rw [leastT, if_pos hv, e, e']
          exact least_both _ _ _ _
      rw [hT]
      have R := Bx.mk (And.intro hw0 k)
      clear hz hw0 k hT
      go_enter Try.func37, Try.ntmps37
      go_wp2_with (go_at_call 31; refine (r_is _ H.out).mono ?_; rintro e w' ⟨rfl, rfl⟩)
      clear c0 c1 cv
      go_loopg [1, 7] (way U v).length (fun m a b wr => ∃ y l p, a = .int .i64 y ∧ b = .int .i64 p ∧ ForestAt 54 wr lo hi g bu bw cu cw n U W ∧ Rng lo hi w wr ∧ Way U y l ∧ l.length = m ∧ 0 ≤ y ∧ 0 ≤ p ∧ p < n ∧ leastAt W l p = leastAt W (way U v) v)
      case atStart => exact ⟨v, _, v, rfl, rfl, R.out.2, Rng.refl _ _ _, R.out.1, rfl, h0, h0, h1, rfl⟩
      case round =>
        obtain ⟨y, l, p, rfl, rfl, k, hr, hx, hm, hx0, hp0, hp1, hl⟩ := hrel
        have hx1 := (hx.mem (x := y) (by obtain ⟨s, rfl, _⟩ := hx.cons hx0; simp)).2
        rw [k.lu] at hx1
        have c0 := k.c0
        have c1 := k.c1
        have cv := k.celu y hx0 hx1
        have cx := k.celw y hx0 hx1
        have cp := k.celw p hp0 hp1
        have A := Bx.mk (And.intro k (And.intro hr (And.intro hx (And.intro hm hl))))
        clear k hr hx hm hl
        by_cases hz : rd U y = -1
        · have hs : rd U y < 0 := by omega
          clear hz
          go_wp2
          go_region
          go_wp2
          go_ret3
          obtain ⟨k, hr, hx, hm, hl⟩ := A.out
          obtain ⟨s, rfl, hw⟩ := hx.cons hx0
          have hs : s = [] := by rcases hw.inv with ⟨_, h⟩ | ⟨h, _⟩; exact h; omega
          subst hs
          rw [← hl]
          exact ⟨rfl, ⟨_, _, _, _, k.drew⟩, hr.drew⟩
        · have hs : 0 ≤ rd U y := by have := hg.rng y hx0 (by rw [A.out.1.lu]; exact hx1); omega
          clear hz
          by_cases hle : rd W y ≤ rd W p
          · go_wp2
            go_region
            go_wp2
            obtain ⟨k, hr, hx, hm, hl⟩ := A.out
            obtain ⟨s, rfl, hw⟩ := hx.cons hx0
            rcases hw.inv with ⟨e, _⟩ | ⟨_, _, t, rfl, hw'⟩
            · omega
            go_roundg (rd U y :: t).length
            case rel => exact ⟨_, _, y, rfl, rfl, k.drew, hr.drew, hw, rfl, hs, hx0, hx1, by rw [← hl, leastAt, if_pos hle]⟩
            case measure => simp at hm ⊢; omega
          · go_wp2
            go_region
            go_wp2
            obtain ⟨k, hr, hx, hm, hl⟩ := A.out
            obtain ⟨s, rfl, hw⟩ := hx.cons hx0
            rcases hw.inv with ⟨e, _⟩ | ⟨_, _, t, rfl, hw'⟩
            · omega
            go_roundg (rd U y :: t).length
            case rel => exact ⟨_, _, p, rfl, rfl, k.drew, hr.drew, hw, rfl, hs, hp0, hp1, by rw [← hl, leastAt, if_neg (by omega)]⟩
            case measure => simp at hm ⊢; omega
end
end Go.Proofs.Ytjicapkhlfbgjaa
