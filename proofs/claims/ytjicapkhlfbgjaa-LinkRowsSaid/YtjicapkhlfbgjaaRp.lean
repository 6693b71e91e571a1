/- The walks of the functions of a forest that only read (p). -/
import Derived.Test.YtjicapkhlfbgjaaBase
namespace Go.Proofs.Ytjicapkhlfbgjaa
open Go.RowKit

section
variable {w : World} {lo hi g n : Nat} {U W : List Int}
theorem p_is (v : Int) (h : Forest 52 w lo hi g n U W) : Calls Try.prog 30 #[.pointer (some ⟨g, 0, none⟩), .int .i64 v] w fun e w' => e = .returned (.bool (isv U v)) ∧ w = w' := by
  obtain ⟨bu, bw, cu, cw, k⟩ := h
  have c0 := k.c0
  have e : isv U v = (decide (0 ≤ v) && decide (v < n)) := by rw [isv, k.lu]
  rw [e]
  clear e k
  by_cases h0 : 0 ≤ v
  · go_enter Try.func30, Try.ntmps30
    go_wp2
    go_ret
    exact ⟨by simp [h0], rfl⟩
  · go_enter Try.func30, Try.ntmps30
    go_wp2
    go_ret
    exact ⟨by simp; omega, rfl⟩
theorem p_root_no (v : Int) (h : Forest 52 w lo hi g n U W) (hv : isv U v = false) : Calls Try.prog 15 #[.pointer (some ⟨g, 0, none⟩), .int .i64 v] w fun e w' => e = .returned (.int .i64 (-1)) ∧ w = w' := by
  have H := Bx.mk h
  go_enter Try.func15, Try.ntmps15
  go_wp2
  go_step3
  go_wp2_with (go_at_call 30; refine (p_is _ H.out).mono ?_; rintro e w' ⟨rfl, rfl⟩)
  rw [Exit.noGoto_ret]
  go_ret
  exact ⟨rfl, rfl⟩
theorem p_root_yes (v : Int) (h : Forest 52 w lo hi g n U W) (hg : Good U) (hv : isv U v = true) : Calls Try.prog 15 #[.pointer (some ⟨g, 0, none⟩), .int .i64 v] w fun e w' => e = .returned (.int .i64 (rootV U v)) ∧ w = w' := by
  have H := Bx.mk h
  obtain ⟨h0, h1⟩ := isv_iff.1 hv
  obtain ⟨bu, bw, cu, cw, k⟩ := h
  have c0 := k.c0
  have hlen := k.len
  have hw := hg.way v (by omega) h1
  have R := Bx.mk hw.root_eq
  have K := Bx.mk k
  rw [k.lu] at h1
  go_enter Try.func15, Try.ntmps15
  go_wp2
  refine wp_scope_ghost 0 (fun m a' w' => w' = w ∧ ∃ (x : Int) (l : List Int) (u5 u6 u7 u8 u9 u10 u11 u12 u13 u14 u15 u16 u17 u18 u19 u20 u21 u22 u23 u24 : Value), (Way U x l ∧ l.length = m ∧ 0 ≤ x ∧ lastD l = rootV U v) ∧ a' = { tmps := #[.pointer (some ⟨g, 0, none⟩), .int .i64 x, undef, undef, .int .i64 0, u5, u6, u7, u8, u9, u10, u11, u12, u13, u14, u15, u16, u17, u18, u19, u20, u21, u22, u23, u24], defers := [] }) rfl ?_ ?_
  · have cv := k.celu v h0 h1
    clear k hw
    go_wp2_with (go_at_call 30; refine (p_is _ H.out).mono ?_; rintro e w' ⟨rfl, rfl⟩)
    go_step3
    go_wp2
    · go_step3
      have hne : (rd U v != -1) = true := by assumption
      refine ⟨rfl, _, rfl, rd U v, _, _, _, _, _, _, _, _, _, _, _, _, _, _, _, _, _, _, _, _, _, root_more hg R.out K.out.lu h0 h1 hne, rfl⟩
    · simp only [Exit.jump]
      have hne : (rd U v != -1) = false := by assumption
      go_ret
      rw [root_here R.out K.out.lu h0 h1 hne hg]
      exact ⟨rfl, rfl⟩
  · rintro m a' w' ⟨rfl, x, l, u5, u6, u7, u8, u9, u10, u11, u12, u13, u14, u15, u16, u17, u18, u19, u20, u21, u22, u23, u24, ⟨hx, hm, hx0, hl⟩, rfl⟩
    have hx1 := (hx.mem (x := x) (by obtain ⟨s, rfl, _⟩ := hx.cons hx0; simp)).2
    rw [k.lu] at hx1
    have cv := k.celu x hx0 hx1
    have A := Bx.mk (And.intro hx (And.intro hm hl))
    clear k hw hx hm hl
    go_wp2
    · go_step3
      have hne : (rd U x != -1) = true := by assumption
      obtain ⟨hx, hm, hl⟩ := A.out
      obtain ⟨s, e1, e2, e3, e4⟩ := way_more hx hx0 hne
      exact ⟨rfl, s.length, by omega, rfl, rd U x, s, _, _, _, _, _, _, _, _, _, _, _, _, _, _, _, _, _, _, _, _, ⟨e2, rfl, e4, by rw [← hl, e3]⟩, rfl⟩
    · simp only [Exit.jump]
      have hne : (rd U x != -1) = false := by assumption
      go_ret
      obtain ⟨hx, hm, hl⟩ := A.out
      rw [← hl, way_here hx hx0 hne]
      exact ⟨rfl, rfl⟩
theorem p_root (v : Int) (h : Forest 52 w lo hi g n U W) (hg : Good U) : Calls Try.prog 15 #[.pointer (some ⟨g, 0, none⟩), .int .i64 v] w fun e w' => e = .returned (.int .i64 (rootA U v)) ∧ w = w' := by
  unfold rootA
  cases hv : isv U v with
  | false => exact p_root_no v h hv
  | true => exact p_root_yes v h hg hv
theorem p_up (v : Int) (h : Forest 52 w lo hi g n U W) (hg : Good U) : Calls Try.prog 23 #[.pointer (some ⟨g, 0, none⟩), .int .i64 v] w fun e w' => e = .returned (.tuple #[.int .i64 (upA U v), .bool (hasUp U v)]) ∧ w = w' := by
  have H := Bx.mk h
  cases hv : isv U v with
  | false =>
    rw [show upA U v = 0 from by simp [upA, hv], show hasUp U v = false from by simp [hasUp, hv]]
    go_enter Try.func23, Try.ntmps23
    go_wp2_with (go_at_call 30; refine (p_is _ H.out).mono ?_; rintro e w' ⟨rfl, rfl⟩)
    go_ret2
    exact ⟨rfl, rfl⟩
  | true =>
    obtain ⟨h0, h1⟩ := isv_iff.1 hv
    obtain ⟨bu, bw, cu, cw, k⟩ := h
    have c0 := k.c0
    have c1 := k.c1
    have hlen := k.len
    have rg := hg.rng v h0 h1
    rw [k.lu] at h1
    have cv := k.celu v h0 h1
    have cx := k.celw v h0 h1
    clear k
    by_cases hr : rd U v = -1
    · rw [show upA U v = 0 from by simp [upA, hr], show hasUp U v = false from by simp [hasUp, hr]]
      have hq : (rd U v == -1) = true := by simpa using hr
      have hp : (rd U v != -1) = false := by simpa using hr
      have hs : rd U v < 0 := by omega
      clear hr
      go_enter Try.func23, Try.ntmps23
      go_wp2_with (go_at_call 30; refine (p_is _ H.out).mono ?_; rintro e w' ⟨rfl, rfl⟩)
      go_ret2
      exact ⟨rfl, rfl⟩
    · rw [show upA U v = rd U v from by simp [upA, hv, hr], show hasUp U v = true from by simp [hasUp, hv, hr]]
      have hq : (rd U v == -1) = false := by simpa using hr
      have hp : (rd U v != -1) = true := by simpa using hr
      have hs : 0 ≤ rd U v := by omega
      clear hr
      go_enter Try.func23, Try.ntmps23
      go_wp2_with (go_at_call 30; refine (p_is _ H.out).mono ?_; rintro e w' ⟨rfl, rfl⟩)
      go_ret2
      exact ⟨rfl, rfl⟩
theorem p_weight (v : Int) (h : Forest 52 w lo hi g n U W) (hg : Good U) : Calls Try.prog 24 #[.pointer (some ⟨g, 0, none⟩), .int .i64 v] w fun e w' => e = .returned (.tuple #[.int .i64 (wtA U W v), .bool (hasUp U v)]) ∧ w = w' := by
  have H := Bx.mk h
  cases hv : isv U v with
  | false =>
    rw [show wtA U W v = 0 from by simp [wtA, hv], show hasUp U v = false from by simp [hasUp, hv]]
    go_enter Try.func24, Try.ntmps24
    go_wp2_with (go_at_call 30; refine (p_is _ H.out).mono ?_; rintro e w' ⟨rfl, rfl⟩)
    go_ret2
    exact ⟨rfl, rfl⟩
  | true =>
    obtain ⟨h0, h1⟩ := isv_iff.1 hv
    obtain ⟨bu, bw, cu, cw, k⟩ := h
    have c0 := k.c0
    have c1 := k.c1
    have hlen := k.len
    have rg := hg.rng v h0 h1
    rw [k.lu] at h1
    have cv := k.celu v h0 h1
    have cx := k.celw v h0 h1
    clear k
    by_cases hr : rd U v = -1
    · rw [show wtA U W v = 0 from by simp [wtA, hr], show hasUp U v = false from by simp [hasUp, hr]]
      have hq : (rd U v == -1) = true := by simpa using hr
      have hp : (rd U v != -1) = false := by simpa using hr
      have hs : rd U v < 0 := by omega
      clear hr
      go_enter Try.func24, Try.ntmps24
      go_wp2_with (go_at_call 30; refine (p_is _ H.out).mono ?_; rintro e w' ⟨rfl, rfl⟩)
      go_ret2
      exact ⟨rfl, rfl⟩
    · rw [show wtA U W v = rd W v from by simp [wtA, hv, hr], show hasUp U v = true from by simp [hasUp, hv, hr]]
      have hq : (rd U v == -1) = false := by simpa using hr
      have hp : (rd U v != -1) = true := by simpa using hr
      have hs : 0 ≤ rd U v := by omega
      clear hr
      go_enter Try.func24, Try.ntmps24
      go_wp2_with (go_at_call 30; refine (p_is _ H.out).mono ?_; rintro e w' ⟨rfl, rfl⟩)
      go_ret2
      exact ⟨rfl, rfl⟩
end
end Go.Proofs.Ytjicapkhlfbgjaa
