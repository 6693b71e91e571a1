/- The walks of the functions of a forest that only read (r). -/
import Derived.Test.YtjicapkhlfbgjaaBase
namespace Go.Proofs.Ytjicapkhlfbgjaa
open Go.RowKit

section
variable {w : World} {lo hi g n : Nat} {U W : List Int}
theorem r_is (v : Int) (h : Forest 54 w lo hi g n U W) : Calls Try.prog 31 #[.pointer (some ⟨g, 0, none⟩), .int .i64 v] w fun e w' => e = .returned (.bool (isv U v)) ∧ w = w' := by
  obtain ⟨bu, bw, cu, cw, k⟩ := h
  have c0 := k.c0
  have e : isv U v = (decide (0 ≤ v) && decide (v < n)) := by rw [isv, k.lu]
  rw [e]
  clear e k
  by_cases h0 : 0 ≤ v
  · go_enter Try.func31, Try.ntmps31
    go_wp2
    go_ret
    exact ⟨by simp [h0], rfl⟩
  · go_enter Try.func31, Try.ntmps31
    go_wp2
    go_ret
    exact ⟨by simp; omega, rfl⟩
theorem r_root_no (v : Int) (h : Forest 54 w lo hi g n U W) (hv : isv U v = false) : Calls Try.prog 32 #[.pointer (some ⟨g, 0, none⟩), .int .i64 v] w fun e w' => e = .returned (.int .i64 (-1)) ∧ w = w' := by
  have H := Bx.mk h
  go_enter Try.func32, Try.ntmps32
  go_wp2_with (go_at_call 31; refine (r_is _ H.out).mono ?_; rintro e w' ⟨rfl, rfl⟩)
  go_ret
  exact ⟨rfl, rfl⟩
theorem r_root_yes (v : Int) (h : Forest 54 w lo hi g n U W) (hg : Good U) (hv : isv U v = true) : Calls Try.prog 32 #[.pointer (some ⟨g, 0, none⟩), .int .i64 v] w fun e w' => e = .returned (.int .i64 (rootV U v)) ∧ w = w' := by
  have H := Bx.mk h
  obtain ⟨h0, h1⟩ := isv_iff.1 hv
  obtain ⟨bu, bw, cu, cw, k⟩ := h
  have c0 := k.c0
  have hlen := k.len
  have hw := hg.way v (by omega) h1
  have R := Bx.mk (And.intro hw hw.root_eq)
  have K := Bx.mk k
  clear k hw h0 h1
  go_enter Try.func32, Try.ntmps32
  go_wp2_with (go_at_call 31; refine (r_is _ H.out).mono ?_; rintro e w' ⟨rfl, rfl⟩)
  go_loopg [1] (way U v).length (fun m x wr => ∃ y l, x = .int .i64 y ∧ wr = w ∧ Way U y l ∧ l.length = m ∧ 0 ≤ y ∧ lastD l = rootV U v)
  case atStart => exact ⟨v, _, rfl, rfl, R.out.1, rfl, (isv_iff.1 hv).1, R.out.2.symm⟩
  case round =>
    obtain ⟨x, l, rfl, rfl, hx, hm, hx0, hl⟩ := hrel
    have hx1 := (hx.mem (x := x) (by obtain ⟨s, rfl, _⟩ := hx.cons hx0; simp)).2
    rw [K.out.lu] at hx1
    have cv := K.out.celu x hx0 hx1
    have A := Bx.mk (And.intro hx (And.intro hm hl))
    clear hx hm hl
    go_wp2
    · have hne : 0 ≤ rd U x := by assumption
      obtain ⟨hx, hm, hl⟩ := A.out
      obtain ⟨s, e1, e2, e3, e4⟩ := way_more hx hx0 (by simp; omega)
      go_roundg s.length
      case rel => exact ⟨_, _, rfl, rfl, e2, rfl, e4, by rw [← hl, e3]⟩
      case measure => omega
    · have hne : rd U x < 0 := by omega
      go_ret
      obtain ⟨hx, hm, hl⟩ := A.out
      rw [← hl, way_here hx hx0 (by have := hg.rng x hx0 (by rw [K.out.lu]; exact hx1); simp; omega)]
      exact ⟨rfl, rfl⟩
theorem r_root (v : Int) (h : Forest 54 w lo hi g n U W) (hg : Good U) : Calls Try.prog 32 #[.pointer (some ⟨g, 0, none⟩), .int .i64 v] w fun e w' => e = .returned (.int .i64 (rootA U v)) ∧ w = w' := by
  unfold rootA
  cases hv : isv U v with
  | false => exact r_root_no v h hv
  | true => exact r_root_yes v h hg hv
theorem r_up (v : Int) (h : Forest 54 w lo hi g n U W) (hg : Good U) : Calls Try.prog 33 #[.pointer (some ⟨g, 0, none⟩), .int .i64 v] w fun e w' => e = .returned (.tuple #[.int .i64 (upA U v), .bool (hasUp U v)]) ∧ w = w' := by
  have H := Bx.mk h
  cases hv : isv U v with
  | false =>
    rw [show upA U v = 0 from by simp [upA, hv], show hasUp U v = false from by simp [hasUp, hv]]
    go_enter Try.func33, Try.ntmps33
    go_wp2_with (go_at_call 31; refine (r_is _ H.out).mono ?_; rintro e w' ⟨rfl, rfl⟩)
    go_ret2
    exact ⟨rfl, rfl⟩
  | true =>
    obtain ⟨h0, h1⟩ := isv_iff.1 hv
    obtain ⟨bu, bw, cu, cw, k⟩ := h
    have c0 := k.c0
    have c1 := k.c1
    have hlen := k.len
    have rg := hg.rng v h0 h1
    rw [k.lu] at h1
    have cv := k.celu v h0 h1
    have cx := k.celw v h0 h1
    clear k
    by_cases hr : rd U v = -1
    · rw [show upA U v = 0 from by simp [upA, hr], show hasUp U v = false from by simp [hasUp, hr]]
      have hq : (rd U v == -1) = true := by simpa using hr
      have hp : (rd U v != -1) = false := by simpa using hr
      have hs : rd U v < 0 := by omega
      clear hr
      go_enter Try.func33, Try.ntmps33
      go_wp2_with (go_at_call 31; refine (r_is _ H.out).mono ?_; rintro e w' ⟨rfl, rfl⟩)
      go_ret2
      exact ⟨rfl, rfl⟩
    · rw [show upA U v = rd U v from by simp [upA, hv, hr], show hasUp U v = true from by simp [hasUp, hv, hr]]
      have hq : (rd U v == -1) = false := by simpa using hr
      have hp : (rd U v != -1) = true := by simpa using hr
      have hs : 0 ≤ rd U v := by omega
      clear hr
      go_enter Try.func33, Try.ntmps33
      go_wp2_with (go_at_call 31; refine (r_is _ H.out).mono ?_; rintro e w' ⟨rfl, rfl⟩)
      go_ret2
      exact ⟨rfl, rfl⟩
theorem r_weight (v : Int) (h : Forest 54 w lo hi g n U W) (hg : Good U) : Calls Try.prog 34 #[.pointer (some ⟨g, 0, none⟩), .int .i64 v] w fun e w' => e = .returned (.tuple #[.int .i64 (wtA U W v), .bool (hasUp U v)]) ∧ w = w' := by
  have H := Bx.mk h
  cases hv : isv U v with
  | false =>
    rw [show wtA U W v = 0 from by simp [wtA, hv], show hasUp U v = false from by simp [hasUp, hv]]
    go_enter Try.func34, Try.ntmps34
    go_wp2_with (go_at_call 31; refine (r_is _ H.out).mono ?_; rintro e w' ⟨rfl, rfl⟩)
    go_ret2
    exact ⟨rfl, rfl⟩
  | true =>
    obtain ⟨h0, h1⟩ := isv_iff.1 hv
    obtain ⟨bu, bw, cu, cw, k⟩ := h
    have c0 := k.c0
    have c1 := k.c1
    have hlen := k.len
    have rg := hg.rng v h0 h1
    rw [k.lu] at h1
    have cv := k.celu v h0 h1
    have cx := k.celw v h0 h1
    clear k
    by_cases hr : rd U v = -1
    · rw [show wtA U W v = 0 from by simp [wtA, hr], show hasUp U v = false from by simp [hasUp, hr]]
      have hq : (rd U v == -1) = true := by simpa using hr
      have hp : (rd U v != -1) = false := by simpa using hr
      have hs : rd U v < 0 := by omega
      clear hr
      go_enter Try.func34, Try.ntmps34
      go_wp2_with (go_at_call 31; refine (r_is _ H.out).mono ?_; rintro e w' ⟨rfl, rfl⟩)
      go_ret2
      exact ⟨rfl, rfl⟩
    · rw [show wtA U W v = rd W v from by simp [wtA, hv, hr], show hasUp U v = true from by simp [hasUp, hv, hr]]
      have hq : (rd U v == -1) = false := by simpa using hr
      have hp : (rd U v != -1) = true := by simpa using hr
      have hs : 0 ≤ rd U v := by omega
      clear hr
      go_enter Try.func34, Try.ntmps34
      go_wp2_with (go_at_call 31; refine (r_is _ H.out).mono ?_; rintro e w' ⟨rfl, rfl⟩)
      go_ret2
      exact ⟨rfl, rfl⟩
end
end Go.Proofs.Ytjicapkhlfbgjaa
