/- The walks of the functions of a forest that go up and write (p). -/
import Derived.Test.YtjicapkhlfbgjaaRp
namespace Go.Proofs.Ytjicapkhlfbgjaa
open Go.RowKit

section
variable {w : World} {lo hi g n : Nat} {U W : List Int}
theorem p_add (v b : Int) (h : Forest 52 w lo hi g n U W) (hg : Good U) : Calls Try.prog 27 #[.pointer (some ⟨g, 0, none⟩), .int .i64 v, .int .i64 b] w fun e w' => e = .returned (.bool (isv U v)) ∧ Left 52 lo hi g n w U (addedW U W v b) w' := by
  have H := Bx.mk h
  cases hv : isv U v with
  | false =>
    rw [show addedW U W v b = W from by simp [addedW, hv]]
    clear h
    go_enter Try.func27, Try.ntmps27
    go_wp2_with (go_at_call 30; refine (p_is _ H.out).mono ?_; rintro e w' ⟨rfl, rfl⟩)
    go_ret
    exact ⟨rfl, left_same H.out⟩
  | true =>
    obtain ⟨h0, h1⟩ := isv_iff.1 hv
    obtain ⟨bu, bw, cu, cw, k⟩ := h
    have hlen := k.len
    have R := Bx.mk (And.intro (hg.way v (by omega) h1) (And.intro k (show addedW U W v b = addL b W (way U v) from by simp [addedW, hv])))
    clear k h0 h1
    go_enter Try.func27, Try.ntmps27
    go_wp2_with (go_at_call 30; refine (p_is _ H.out).mono ?_; rintro e w' ⟨rfl, rfl⟩)
    go_loopg [1] (way U v).length (fun m x wr => ∃ y l W', x = .int .i64 y ∧ ForestAt 52 wr lo hi g bu bw cu cw n U W' ∧ Rng lo hi w wr ∧ Way U y l ∧ l.length = m ∧ 0 ≤ y ∧ addL b W' l = addedW U W v b)
    case atStart => exact ⟨v, _, W, rfl, R.out.2.1, Rng.refl _ _ _, R.out.1, rfl, (isv_iff.1 hv).1, R.out.2.2.symm⟩
    case round =>
      obtain ⟨y, l, W', rfl, k, hr, hx, hm, hx0, hl⟩ := hrel
      have hx1 := (hx.mem (x := y) (by obtain ⟨s, rfl, _⟩ := hx.cons hx0; simp)).2
      rw [k.lu] at hx1
      have c0 := k.c0
      have c1 := k.c1
      have cv := k.celu y hx0 hx1
      have cx := k.celw y hx0 hx1
      have fx := k.fw y
      have n1 := k.ne.1
      have n2 := k.ne.2.1
      have n3 := k.ne.2.2
      have A := Bx.mk (And.intro k (And.intro hr (And.intro hx (And.intro hm hl))))
      clear k hr hx hm hl
      by_cases hz : rd U y = -1
      · have hq : (rd U y != -1) = false := by simpa using hz
        have hs : rd U y < 0 := by omega
        clear hz
        go_wp2
        go_ret
        obtain ⟨k, hr, hx, hm, hl⟩ := A.out
        obtain ⟨s, rfl, hw⟩ := hx.cons hx0
        have hs : s = [] := by rcases hw.inv with ⟨_, h⟩ | ⟨h, _⟩; exact h; omega
        subst hs
        rw [← hl]
        exact ⟨rfl, ⟨_, _, _, _, k⟩, hr⟩
      · have hq : (rd U y != -1) = true := by simpa using hz
        have hs : 0 ≤ rd U y := by have := hg.rng y hx0 (by rw [A.out.1.lu]; exact hx1); omega
        clear hz
        go_wp2
        
        obtain ⟨k, hr, hx, hm, hl⟩ := A.out
        obtain ⟨s, rfl, hw⟩ := hx.cons hx0
        rcases hw.inv with ⟨e, _⟩ | ⟨_, _, t, rfl, hw'⟩
        · omega
        go_roundg (rd U y :: t).length
        case rel => exact ⟨_, _, st W' y (wrap64 (rd W' y + b)), rfl, k.setW _ _, hr.setCell k.ge.2.2 k.lt.2.2 _, hw, rfl, hs, by rw [← hl]; rfl⟩
        case measure => simp at hm ⊢; omega
theorem p_turn (v : Int) (h : Forest 52 w lo hi g n U W) (hg : Good U) : Calls Try.prog 19 #[.pointer (some ⟨g, 0, none⟩), .int .i64 v] w fun e w' => e = .returned (.bool (isv U v)) ∧ Left 52 lo hi g n w (turnedU U v) (turnedW U W v) w' := by
  have H := Bx.mk h
  cases hv : isv U v with
  | false =>
    rw [show turnedU U v = U from by simp [turnedU, hv], show turnedW U W v = W from by simp [turnedW, hv]]
    clear h
    go_enter Try.func19, Try.ntmps19
    go_wp2
    go_step3
    go_wp2_with (go_at_call 30; refine (p_is _ H.out).mono ?_; rintro e w' ⟨rfl, rfl⟩)
    rw [Exit.noGoto_ret]
    go_ret
    exact ⟨rfl, left_same H.out⟩
  | true =>
    obtain ⟨h0, h1⟩ := isv_iff.1 hv
    obtain ⟨bu, bw, cu, cw, k⟩ := h
    have hlen := k.len
    have R := Bx.mk (And.intro (hg.way v (by omega) h1) (And.intro k (And.intro (show turnedU U v = turnU U (way U v) (-1) from by simp [turnedU, hv]) (show turnedW U W v = turnW W (way U v) 0 from by simp [turnedW, hv]))))
    clear k h0 h1
    go_enter Try.func19, Try.ntmps19
    go_wp2
    go_step3
    go_wp2_with (go_at_call 30; refine (p_is _ H.out).mono ?_; rintro e w' ⟨rfl, rfl⟩)
    go_step3
    go_wp2
    go_loopg [1, 5, 6] (way U v).length (fun m a b c wr => ∃ y last x l U' W', a = .int .i64 y ∧ b = .int .i64 last ∧ c = .int .i64 x ∧ ForestAt 52 wr lo hi g bu bw cu cw n U' W' ∧ Rng lo hi w wr ∧ Way U y l ∧ l.length = m ∧ (∀ z, z ∈ l → rd U' z = rd U z) ∧ turnU U' l last = turnedU U v ∧ turnW W' l x = turnedW U W v)
    case atStart => exact ⟨v, -1, 0, _, U, W, rfl, rfl, rfl, R.out.2.1, Rng.refl _ _ _, R.out.1, rfl, fun _ _ => rfl, R.out.2.2.1.symm, R.out.2.2.2.symm⟩
    case round =>
      obtain ⟨y, last, x, l, U', W', rfl, rfl, rfl, k, hr, hx, hm, ha, hl, hl'⟩ := hrel
      have A := Bx.mk (And.intro k (And.intro hr (And.intro hx (And.intro hm (And.intro ha (And.intro hl hl'))))))
      rcases hx.inv with ⟨hy, e⟩ | ⟨h0, h1, s, e, hw⟩
      · clear k hr hx hm ha hl hl'
        have hq : (y != -1) = false := by simpa using hy
        have hs : y < 0 := by omega
        clear hy
        go_wp2
        try rw [Exit.noGoto_ret]
        go_ret
        obtain ⟨k, hr, hx, hm, ha, hl, hl'⟩ := A.out
        subst e
        rw [← hl, ← hl']
        exact ⟨rfl, ⟨_, _, _, _, k⟩, hr⟩
      · have hq : (y != -1) = true := by simp; omega
        rw [show U.length = n from by rw [← k.lu, ← turnU_length U' l last, hl, turnedU_length]] at h1
        have c0 := k.c0
        have c1 := k.c1
        have cv := k.celu y h0 h1
        have cx := k.celw y h0 h1
        have fv := k.fu y
        have fx := k.fw y
        have n1 := k.ne.1
        have n2 := k.ne.2.1
        have n3 := k.ne.2.2
        have E := Bx.mk (And.intro e hw)
        clear k hr hx hm ha hl hl' e hw
        go_wp2
        go_region
        go_wp2
        go_region
        go_wp2
        
        obtain ⟨k, hr, hx, hm, ha, hl, hl'⟩ := A.out
        obtain ⟨e, hw⟩ := E.out
        subst e
        have hn := hx.notin
        go_roundg s.length
        case rel => exact ⟨rd U' y, y, rd W' y, s, st U' y last, st W' y x, rfl, rfl, rfl, ((k.setU _ _).setW _ _).drew.drew, ((hr.setCell k.ge.2.1 k.lt.2.1 _).setCell k.ge.2.2 k.lt.2.2 _).drew.drew, by rw [ha y (by simp)]; exact hw, rfl, fun z hz => by rw [rd_st_ne _ _ _ _ h0 (by rw [k.lu]; exact h1) (hw.mem hz).1 (by rintro rfl; exact hn hz)]; exact ha z (List.mem_cons_of_mem _ hz), hl, hl'⟩
        case measure => simp at hm; omega
theorem p_least (v : Int) (h : Forest 52 w lo hi g n U W) (hg : Good U) : Calls Try.prog 22 #[.pointer (some ⟨g, 0, none⟩), .int .i64 v] w fun e w' => e = .returned (.tuple #[.int .i64 (leastT U W v).1, .int .i64 (leastT U W v).2.1, .bool (leastT U W v).2.2]) ∧ Left 52 lo hi g n w U W w' := by
  have H := Bx.mk h
  cases hv : isv U v with
  | false =>
    rw [show leastT U W v = (0, 0, false) from by simp [leastT, hv]]
    clear h
    go_enter Try.func22, Try.ntmps22
    go_wp2_with (go_at_call 30; refine (p_is _ H.out).mono ?_; rintro e w' ⟨rfl, rfl⟩)
    go_ret3
    exact ⟨rfl, left_same H.out⟩
  | true =>
    obtain ⟨h0, h1⟩ := isv_iff.1 hv
    obtain ⟨bu, bw, cu, cw, k⟩ := h
    have hlen := k.len
    have R := Bx.mk (And.intro (hg.way v (by omega) h1) (And.intro k (show leastT U W v = leastL W (way U v) (0, 0, false) from by simp [leastT, hv])))
    clear k h0 h1
    go_enter Try.func22, Try.ntmps22
    go_wp2_with (go_at_call 30; refine (p_is _ H.out).mono ?_; rintro e w' ⟨rfl, rfl⟩)
    go_loopg [1, 4, 5, 6] (way U v).length (fun m a b c d wr => ∃ y l p q r, a = .int .i64 y ∧ b = .int .i64 p ∧ c = .int .i64 q ∧ d = .bool r ∧ ForestAt 52 wr lo hi g bu bw cu cw n U W ∧ Rng lo hi w wr ∧ Way U y l ∧ l.length = m ∧ 0 ≤ y ∧ leastL W l (p, q, r) = leastT U W v)
    case atStart => exact ⟨v, _, 0, 0, false, rfl, rfl, rfl, rfl, R.out.2.1, Rng.refl _ _ _, R.out.1, rfl, (isv_iff.1 hv).1, R.out.2.2.symm⟩
    case round =>
      obtain ⟨y, l, p, q, r, rfl, rfl, rfl, rfl, k, hr, hx, hm, hx0, hl⟩ := hrel
      have hx1 := (hx.mem (x := y) (by obtain ⟨s, rfl, _⟩ := hx.cons hx0; simp)).2
      rw [k.lu] at hx1
      have c0 := k.c0
      have c1 := k.c1
      have cv := k.celu y hx0 hx1
      have cx := k.celw y hx0 hx1
      have A := Bx.mk (And.intro k (And.intro hr (And.intro hx (And.intro hm hl))))
      clear k hr hx hm hl
      by_cases hz : rd U y = -1
      · have hq : (rd U y != -1) = false := by simpa using hz
        clear hz
        go_wp2
        go_ret3
        obtain ⟨k, hr, hx, hm, hl⟩ := A.out
        obtain ⟨s, rfl, hw⟩ := hx.cons hx0
        have hs : s = [] := by rcases hw.inv with ⟨_, h⟩ | ⟨h, _⟩; exact h; (have h2 : rd U y = -1 := (by simpa using hq)); omega
        subst hs
        rw [← hl]
        exact ⟨rfl, ⟨_, _, _, _, k⟩, hr⟩
      · have hq : (rd U y != -1) = true := by simpa using hz
        have hs : 0 ≤ rd U y := by have := hg.rng y hx0 (by rw [A.out.1.lu]; exact hx1); omega
        clear hz
        cases r with
        | false =>
          go_wp2
          go_region
          go_wp2
          obtain ⟨k, hr, hx, hm, hl⟩ := A.out
          obtain ⟨s, rfl, hw⟩ := hx.cons hx0
          rcases hw.inv with ⟨e, _⟩ | ⟨_, _, t, rfl, hw'⟩
          · omega
          go_roundg (rd U y :: t).length
          case rel => exact ⟨_, _, y, rd W y, true, rfl, rfl, rfl, rfl, k.drew, hr.drew, hw, rfl, hs, by rw [← hl]; rfl⟩
          case measure => simp at hm ⊢; omega
        | true =>
          by_cases hle : rd W y ≤ q
          · go_wp2
            go_region
            go_wp2
            obtain ⟨k, hr, hx, hm, hl⟩ := A.out
            obtain ⟨s, rfl, hw⟩ := hx.cons hx0
            rcases hw.inv with ⟨e, _⟩ | ⟨_, _, t, rfl, hw'⟩
            · omega
            go_roundg (rd U y :: t).length
            case rel => exact ⟨_, _, y, rd W y, true, rfl, rfl, rfl, rfl, k.drew, hr.drew, hw, rfl, hs, by rw [← hl, leastL, if_pos (by simp [hle])]⟩
            case measure => simp at hm ⊢; omega
          · go_wp2
            obtain ⟨k, hr, hx, hm, hl⟩ := A.out
            obtain ⟨s, rfl, hw⟩ := hx.cons hx0
            rcases hw.inv with ⟨e, _⟩ | ⟨_, _, t, rfl, hw'⟩
            · omega
            go_roundg (rd U y :: t).length
            case rel => exact ⟨_, _, p, q, true, rfl, rfl, rfl, rfl, k, hr, hw, rfl, hs, by rw [← hl, leastL, if_neg (by simp; omega)]⟩
            case measure => simp at hm ⊢; omega
end
end Go.Proofs.Ytjicapkhlfbgjaa
