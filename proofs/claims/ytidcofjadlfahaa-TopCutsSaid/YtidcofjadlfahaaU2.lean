/- The walk of orbits, of the steps that go round. -/
import Derived.Test.YtidcofjadlfahaaU1
import Derived.Test.YtidcofjadlfahaaRep
set_option linter.unusedVariables false
set_option linter.unusedSimpArgs false
namespace Go.Proofs.Ytidcofjadlfahaa
open Go.RowKit

section
variable {N : Int} {aT aX aC : Option Addr} {cT cX cC : Nat} {T X C : List Int} {w : World}
theorem turn1_any (b : Nat) (d : Int) (hb : BoxN w b #[.int .i64 N, .slice aT T.length cT, .slice aX X.length cX, .slice aC C.length cC] 25) (hX : RowOf w aX X) (h0 : 0 ≤ d) (h1 : d < X.length) :
    Calls Try.prog 59 #[.int .i64 d, .pointer (some ⟨b, 0, none⟩)] w fun e w' => ∃ n, e = .returned (.int .i64 (rd X d)) ∧ w' = w.drewN n := by
  have c2 := hb.cell 2
  obtain ⟨bX, oX, rfl, _, hc⟩ := hX d h0 h1
  go_enter Try.func59, Try.ntmps59
  go_wp2
  go_ret
  exact ⟨0, rfl, rfl⟩
theorem behind1_any (b : Nat) (d : Int) (hb : BoxN w b #[.int .i64 N, .slice aT T.length cT, .slice aX X.length cX, .slice aC C.length cC] 25) (hX : RowOf w aX X) (h0 : 0 ≤ d) (h1 : d < X.length) (he : (X.length : Int) % 2 = 0) (hm : X.length ≤ 240) :
    Calls Try.prog 63 #[.int .i64 d, .pointer (some ⟨b, 0, none⟩)] w fun e w' => ∃ n, e = .returned (.int .i64 (phi X d)) ∧ w' = w.drewN n := by
  have c2 := hb.cell 2
  have ho := ot_rng d X.length h0 h1 he
  obtain ⟨bX, oX, rfl, _, hc⟩ := hX (ot d) ho.1 ho.2
  go_enter Try.func63, Try.ntmps63
  go_wp2_with fail
  go_quiet ((go_at_call 62; refine (other_any d h0 (by omega) _).mono ?_; rintro e w' ⟨rfl, rfl⟩; first | exact ⟨rfl, _, rfl⟩ | exact ⟨rfl, 0, rfl⟩))
  go_wp2
  go_ret
  exact ⟨_, rfl, rfl⟩
end
section
variable {Y : List Int} {m K : Nat} {p : Option Addr} {w : World}
set_option maxHeartbeats 3200000 in
theorem orbits_any (hp : Perm Y.length (rd Y)) (he : (Y.length : Int) % 2 = 0) (hm : Y.length = m) (hl : m ≤ 240)
    (eg : ∀ args w, (callFunc K args).run Try.prog w = .ok (.enter K args) w)
    (HS : ∀ W, Below w.heap.size w W → ∀ d : Int, 0 ≤ d → d < m → Calls Try.prog K #[.int .i64 d, .pointer p] W fun e w' => ∃ n, e = .returned (.int .i64 (phi Y d)) ∧ w' = W.drewN n) :
    Calls Try.prog 57 #[.int .i64 m, .func (.func K) #[] #[.pointer p]] w fun e w' => ∃ v, e = .returned (.tuple #[v, .int .i64 (faceN Y), .bool true]) ∧ Own w' w.heap.size v (facesOf Y) ∧ Below w.heap.size w w' := by
  have hpp := Bx.mk (perm_phi hp he)
  have FSB := Bx.mk (fun j => faces_fs hp he j)
  clear hp
  have B1 := below_alloc (Below.refl w.heap.size w) (.cells #[.int .i64 (-1)] 3)
  have hc := (box_new w #[.int .i64 (-1)] 3).cell 0
  have RO := repeat_own w.heap.size m (-1) (by omega) (w.alloc (.cells #[.int .i64 (-1)] 3)) (by simp) hc w.heap.size (by simp)
  go_enter Try.func57, Try.ntmps57
  go_wp2
  go_step3
  go_wp2_with fail
  refine RO.mono ?_
  rintro e w1 ⟨rfl, hO, B2⟩
  clear RO hc
  rw [World.size_alloc] at hO ⊢
  have BB := below_below B1 B2
  clear B1 B2
  have hO0 : OwnN w1 w.heap.size (w.heap.size + 1) m m (facesTo Y 0).1 := by
    rw [show (facesTo Y 0).1 = List.replicate m (-1) from by simp [facesTo, hm]]
    exact hO
  clear hO
  go_wp2
  go_step3
  go_wp2
  go_loopg [8, 15] (m + 1) (fun q y8 y15 wr => ∃ d : Nat, y8 = .int .i64 (facesTo Y d).2 ∧ y15 = .int .i64 d ∧ q = m + 1 - d ∧ d ≤ m ∧ OwnN wr w.heap.size (w.heap.size + 1) m m (facesTo Y d).1 ∧ Below w.heap.size w wr)
  case atStart => exact ⟨0, rfl, rfl, by omega, by omega, hO0, BB⟩
  case round =>
    clear hO0 BB
    obtain ⟨d, rfl, rfl, hq, hd, hown, hB⟩ := hrel
    by_cases hdm : d < m
    · have hdI : (d : Int) < m := by omega
      have c1 := hown.cell d (by omega) hdI
      rw [Int.toNat_natCast] at c1
      have F := facesTo_rng Y d
      have hk0 := F.2.1
      have hk1 := F.2.2
      clear F
      have FD := Bx.mk (FSB.out d (by omega))
      obtain ⟨k, hk⟩ : ∃ k, (facesTo Y d).2 = k := ⟨_, rfl⟩
      obtain ⟨of, hof⟩ : ∃ of, (facesTo Y d).1 = of := ⟨_, rfl⟩
      rw [hk] at hk0 hk1 FD ⊢
      rw [hof] at hown c1 FD
      obtain ⟨z, hz⟩ : ∃ z, rd of d = z := ⟨_, rfl⟩
      rw [hz] at c1
      by_cases hzp : 0 ≤ z
      · have hnext : facesTo Y (d + 1) = (of, k) := by
          rw [facesTo, fstep, hof, hk, hz, if_pos hzp]
          rw [← hof, ← hk]
        have NB := Bx.mk hnext
        clear hnext hof hk FD hz
        go_wp2
        go_roundg (m + 1 - (d + 1))
        case rel => exact ⟨d + 1, by rw [NB.out], rfl, rfl, by omega, by rw [NB.out]; exact hown, hB⟩
        case measure => omega
      · have hzn : ¬ z ≥ 0 := hzp
        obtain ⟨L, hch, hin, hll⟩ := hpp.out.ring (d := (d : Int)) (by omega) (by omega)
        have hnext : facesTo Y (d + 1) = (setAll of (d :: L) k, k + 1) := by
          rw [facesTo, fstep, hof, hk, hz, if_neg hzp, ring_eq hch]
        have NB := Bx.mk hnext
        have FR := Bx.mk (FD.out.fresh hpp.out (by omega) (by rw [hz]; exact hzp) hch hin)
        have ND := Bx.mk (ring_nodup hch)
        have IN := Bx.mk hin
        have OL := Bx.mk FD.out.len
        obtain ⟨LL, hLL⟩ : ∃ LL, (d : Int) :: L = LL := ⟨_, rfl⟩
        have ST := Bx.mk (show ∀ pre x suf, LL = pre ++ x :: suf → phi Y x = hdOr suf d from fun pre x suf h => ring_step hch (hLL.trans h))
        have H0 := Bx.mk (show (d : Int) = hdOr LL d from by rw [← hLL]; rfl)
        have HL := Bx.mk (show (d : Int) ∈ LL from by rw [← hLL]; simp)
        rw [hLL] at NB FR ND IN
        clear hnext hof hk FD hz hch hin hll hLL
        go_wp2
        go_loopg [10] (LL.length + 1) (fun q y wx => ∃ (a : Int) (pre suf : List Int), y = .int .i64 a ∧ Bx (a = hdOr suf d) ∧ q = suf.length + 1 ∧ LL = pre ++ suf ∧ OwnN wx w.heap.size (w.heap.size + 1) m m (setAll of pre k) ∧ Below w.heap.size w wx)
        case atStart => exact ⟨d, [], LL, rfl, H0, rfl, rfl, hown, hB⟩
        case round =>
          clear hown hB c1
          obtain ⟨a, pre, suf, rfl, HA, hq3, hls, hown, hB⟩ := hrel
          have RS := Bx.mk (fun (z : Int) (hz : 0 ≤ z) => rd_setAll of k pre z (fun y hy => by rw [OL.out]; exact IN.out y (by rw [hls]; simp [hy])) hz)
          cases suf with
          | nil =>
            rw [List.append_nil] at hls
            subst hls
            obtain rfl : a = d := HA.out
            have ck := hown.cell d (by omega) hdI
            rw [RS.out d (by omega), if_pos HL.out, Int.toNat_natCast] at ck
            have hkn : ¬ k < 0 := by omega
            have hdd : ((d : Int) != (d : Int)) = false := by simp
            go_wp2
            go_roundg (m + 1 - (d + 1))
            case rel => exact ⟨d + 1, by rw [NB.out], rfl, rfl, by omega, by rw [NB.out]; exact hown, hB⟩
            case measure => omega
          | cons x suf =>
            obtain rfl : a = x := HA.out
            have hxr := IN.out a (by rw [hls]; simp)
            have hxm : a < m := by omega
            have hx0 := hxr.1
            have cx := hown.cell a hx0 hxm
            have fx := hown.fz a
            have hxn : rd of a < 0 := by have := FR.out a (by rw [hls]; simp); omega
            have hxp : a ∉ pre := fun hm => by
              have := ND.out
              rw [hls, List.nodup_append] at this
              exact this.2.2 a hm a (by simp) rfl
            rw [RS.out a hx0, if_neg hxp] at cx
            generalize rd of a = v at cx hxn
            have hown2 := hown.set a k
            rw [← setAll_app] at hown2
            have hB2 := below_set hB (p := ⟨w.heap.size + 1, a.toNat, none⟩) (by simp) (.int .i64 k)
            have HX := HS _ hB2 a hx0 hxm
            have PX := Bx.mk (ST.out pre a suf hls)
            have LS := Bx.mk hls
            rw [ST.out pre a suf hls] at HX
            clear hls hown hB RS hxp hxr
            go_wp2_with fail
            refine HX.mono ?_
            rintro e w5 ⟨n, rfl, rfl⟩
            clear HX
            go_wp2
            go_roundg (suf.length + 1)
            case rel => exact ⟨_, pre ++ [a], suf, rfl, ⟨rfl⟩, rfl, by rw [LS.out]; simp, hown2.keep (below_drewN (Below.refl _ _) _), below_drewN hB2 _⟩
            case measure => simp at hq3; omega
    · have hdI : ¬ (d : Int) < m := by omega
      obtain rfl : d = m := by omega
      have e1 : faceN Y = (facesTo Y d).2 := by rw [faceN, hm]
      have e2 : facesOf Y = (facesTo Y d).1 := by rw [facesOf, hm]
      rw [← e2] at hown
      rw [← e1]
      clear e1 e2
      go_wp2
      all_goals go_ret3
      all_goals exact ⟨.slice (some ⟨w.heap.size + 1, 0, none⟩) d d, rfl, Own.low hown.own (by omega), hB⟩
end
end Go.Proofs.Ytidcofjadlfahaa
