/- The walks of the functions of a forest that write (r). -/
import Derived.Test.YtjicapkhlfbgjaaRr
namespace Go.Proofs.Ytjicapkhlfbgjaa
open Go.RowKit

section
variable {w : World} {lo hi g n : Nat} {U W : List Int}
theorem r_cut (v : Int) (h : Forest 54 w lo hi g n U W) (hg : Good U) : Calls Try.prog 35 #[.pointer (some ⟨g, 0, none⟩), .int .i64 v] w fun e w' => e = .returned (.int .i64 (cutE U v)) ∧ Left 54 lo hi g n w (cutU U v) (cutW U W v) w' := by
  have H := Bx.mk h
  cases hv : isv U v with
  | false =>
    rw [show cutE U v = 3 from by simp [cutE, hv], show cutU U v = U from by simp [cutU, cutE, hv], show cutW U W v = W from by simp [cutW, cutE, hv]]
    clear h
    go_enter Try.func35, Try.ntmps35
    go_wp2_with (go_at_call 31; refine (r_is _ H.out).mono ?_; rintro e w' ⟨rfl, rfl⟩)
    go_ret
    exact ⟨rfl, left_same H.out⟩
  | true =>
    obtain ⟨h0, h1⟩ := isv_iff.1 hv
    obtain ⟨bu, bw, cu, cw, k⟩ := h
    have c0 := k.c0
    have c1 := k.c1
    have hlen := k.len
    have rg := hg.rng v h0 h1
    rw [k.lu] at h1
    have cv := k.celu v h0 h1
    have cx := k.celw v h0 h1
    have fv := k.fu v
    have fx := k.fw v
    have n1 := k.ne.1
    have n2 := k.ne.2.1
    have n3 := k.ne.2.2
    have K := Bx.mk k
    clear k
    by_cases hr : rd U v = -1
    · rw [show cutE U v = 7 from by simp [cutE, hv, hr], show cutU U v = U from by simp [cutU, cutE, hv, hr], show cutW U W v = W from by simp [cutW, cutE, hv, hr]]
      have hq : (rd U v == -1) = true := by simpa using hr
      have hp : (rd U v != -1) = false := by simpa using hr
      have hs : rd U v < 0 := by omega
      clear hr
      go_enter Try.func35, Try.ntmps35
      go_wp2_with (go_at_call 31; refine (r_is _ H.out).mono ?_; rintro e w' ⟨rfl, rfl⟩)
      go_ret
      exact ⟨rfl, left_same H.out⟩
    · rw [show cutE U v = 0 from by simp [cutE, hv, hr], show cutU U v = st U v (-1) from by simp [cutU, cutE, hv, hr], show cutW U W v = st W v 0 from by simp [cutW, cutE, hv, hr]]
      have hq : (rd U v == -1) = false := by simpa using hr
      have hp : (rd U v != -1) = true := by simpa using hr
      have hs : 0 ≤ rd U v := by omega
      clear hr
      go_enter Try.func35, Try.ntmps35
      go_wp2_with (go_at_call 31; refine (r_is _ H.out).mono ?_; rintro e w' ⟨rfl, rfl⟩)
      go_region
      go_wp2
      go_ret
      exact ⟨rfl, left_set K.out v _ _⟩
theorem r_link (v x y : Int) (h : Forest 54 w lo hi g n U W) (hg : Good U) : Calls Try.prog 18 #[.pointer (some ⟨g, 0, none⟩), .int .i64 v, .int .i64 x, .int .i64 y] w fun e w' => e = .returned (.int .i64 (linkE U v x)) ∧ Left 54 lo hi g n w (linkU U v x) (linkW U W v x y) w' := by
  have H := Bx.mk h
  cases hv : isv U v with
  | false =>
    rw [show linkE U v x = 3 from by simp [linkE, hv], show linkU U v x = U from by simp [linkU, linkE, hv], show linkW U W v x y = W from by simp [linkW, linkE, hv]]
    clear h
    go_enter Try.func18, Try.ntmps18
    go_wp2_with (first | (go_at_call 31; refine (r_is _ H.out).mono ?_; rintro e w' ⟨rfl, rfl⟩) | (go_at_call 32; refine (r_root _ H.out hg).mono ?_; rintro e w' ⟨rfl, rfl⟩))
    go_ret
    exact ⟨rfl, left_same H.out⟩
  | true =>
    cases hx : isv U x with
    | false =>
      rw [show linkE U v x = 3 from by simp [linkE, hv, hx], show linkU U v x = U from by simp [linkU, linkE, hv, hx], show linkW U W v x y = W from by simp [linkW, linkE, hv, hx]]
      clear h
      go_enter Try.func18, Try.ntmps18
      go_wp2_with (first | (go_at_call 31; refine (r_is _ H.out).mono ?_; rintro e w' ⟨rfl, rfl⟩) | (go_at_call 32; refine (r_root _ H.out hg).mono ?_; rintro e w' ⟨rfl, rfl⟩))
      go_ret
      exact ⟨rfl, left_same H.out⟩
    | true =>
      obtain ⟨h0, h1⟩ := isv_iff.1 hv
      obtain ⟨bu, bw, cu, cw, k⟩ := h
      have c0 := k.c0
      have c1 := k.c1
      have hlen := k.len
      have rg := hg.rng v h0 h1
      rw [k.lu] at h1
      have cv := k.celu v h0 h1
      have cx := k.celw v h0 h1
      have fv := k.fu v
      have fx := k.fw v
      have n1 := k.ne.1
      have n2 := k.ne.2.1
      have n3 := k.ne.2.2
      have K := Bx.mk k
      clear k
      by_cases hr : rd U v = -1
      · by_cases hk : rootV U x = v
        · rw [show linkE U v x = 8 from by simp [linkE, hv, hx, hr, hk], show linkU U v x = U from by simp [linkU, linkE, hv, hx, hr, hk], show linkW U W v x y = W from by simp [linkW, linkE, hv, hx, hr, hk]]
          have hq : (rd U v == -1) = true := by simpa using hr
          have hp : (rd U v != -1) = false := by simpa using hr
          have hs : rd U v < 0 := by omega
          have hka : (rootA U x == v) = true := by simp [rootA, hx, hk]
          clear hr hk
          go_enter Try.func18, Try.ntmps18
          go_wp2_with (first | (go_at_call 31; refine (r_is _ H.out).mono ?_; rintro e w' ⟨rfl, rfl⟩) | (go_at_call 32; refine (r_root _ H.out hg).mono ?_; rintro e w' ⟨rfl, rfl⟩))
          go_ret
          exact ⟨rfl, left_same H.out⟩
        · rw [show linkE U v x = 0 from by simp [linkE, hv, hx, hr, hk], show linkU U v x = st U v x from by simp [linkU, linkE, hv, hx, hr, hk], show linkW U W v x y = st W v y from by simp [linkW, linkE, hv, hx, hr, hk]]
          have hq : (rd U v == -1) = true := by simpa using hr
          have hp : (rd U v != -1) = false := by simpa using hr
          have hs : rd U v < 0 := by omega
          have hka : (rootA U x == v) = false := by simp [rootA, hx, hk]
          clear hr hk
          go_enter Try.func18, Try.ntmps18
          go_wp2_with (first | (go_at_call 31; refine (r_is _ H.out).mono ?_; rintro e w' ⟨rfl, rfl⟩) | (go_at_call 32; refine (r_root _ H.out hg).mono ?_; rintro e w' ⟨rfl, rfl⟩))
          go_region
          go_wp2
          go_ret
          exact ⟨rfl, left_set K.out v _ _⟩
      · rw [show linkE U v x = 11 from by simp [linkE, hv, hx, hr], show linkU U v x = U from by simp [linkU, linkE, hv, hx, hr], show linkW U W v x y = W from by simp [linkW, linkE, hv, hx, hr]]
        have hq : (rd U v == -1) = false := by simpa using hr
        have hp : (rd U v != -1) = true := by simpa using hr
        have hs : 0 ≤ rd U v := by omega
        clear hr
        go_enter Try.func18, Try.ntmps18
        go_wp2_with (first | (go_at_call 31; refine (r_is _ H.out).mono ?_; rintro e w' ⟨rfl, rfl⟩) | (go_at_call 32; refine (r_root _ H.out hg).mono ?_; rintro e w' ⟨rfl, rfl⟩))
        go_ret
        exact ⟨rfl, left_same H.out⟩
end
end Go.Proofs.Ytjicapkhlfbgjaa
