/- The walk of GaugeShares. -/
import Derived.Test.YtpggfgkajkgcoaaDoorG19
import Derived.Test.YtpggfgkajkgcoaaDoorL4
import Derived.Test.YtpggfgkajkgcoaaDoorG14
set_option linter.unusedVariables false
set_option linter.unusedSimpArgs false
namespace Go.Proofs.YtpggfgkajkgcoaaDoor
open Go.RowKit

theorem fsame_two {a b s : Nat} (h : fsame a s = true) (k : fsame b s = true) : fsame a b = true := by
  rw [fsame, decide_eq_true_eq] at h k ⊢
  rw [h, k]
set_option maxHeartbeats 6400000 in
set_option maxRecDepth 100000 in
theorem gshares_walk {aN aM : Option Addr} {cN cM : Nat} {zs ms : List Int} {w : World} (a b : Int) (hZ : RowOf w aN zs) (hM : RowOf w aM ms) (ht : Tab w) :
    Calls Tryd.prog 12 #[.int .i64 a, .int .i64 b, .slice aN zs.length cN, .slice aM ms.length cM] w fun e w' => e = .returned (.bool true) ∧ Below w.heap.size w w' := by
  have KN := known_any w ht
  clear ht
  obtain ⟨lm, hlm⟩ : ∃ l, ms.length = l := ⟨_, rfl⟩
  obtain ⟨lz, hlz⟩ : ∃ l, zs.length = l := ⟨_, rfl⟩
  have PA := fun W (h : RowOf W aN zs) => plane_any aN cN zs W h
  rw [hlz] at PA
  rw [hlm, hlz]
  have LM := Bx.mk hlm
  clear hlm hlz
  have A1 := wi_rng a 18014398509481984 (by omega)
  have A2 := wi_rng b 18014398509481984 (by omega)
  have A3 := wi_rng a 5 (by omega)
  have A4 := wi_rng b 5 (by omega)
  have WA := fun W => within12_any a 18014398509481984 (by omega) (by omega) W
  have WB := fun W => within12_any b 18014398509481984 (by omega) (by omega) W
  have WC := fun W => within12_any a 5 (by omega) (by omega) W
  have WD := fun W => within12_any b 5 (by omega) (by omega) W
  obtain ⟨p1, e1⟩ : ∃ p, wi a 18014398509481984 = p := ⟨_, rfl⟩
  obtain ⟨p2, e2⟩ : ∃ p, wi b 18014398509481984 = p := ⟨_, rfl⟩
  obtain ⟨p3, e3⟩ : ∃ p, wi a 5 = p := ⟨_, rfl⟩
  obtain ⟨p4, e4⟩ : ∃ p, wi b 5 = p := ⟨_, rfl⟩
  rw [e1] at A1 WA
  rw [e2] at A2 WB
  rw [e3] at A3 WC
  rw [e4] at A4 WD
  clear e1 e2 e3 e4
  go_enter Tryd.func12, Tryd.ntmps12
  go_wp2_with fail
  refine KN.mono ?_
  rintro e w1 ⟨rfl, B1⟩
  have hZ1 := hZ.keep B1
  have hM1 := hM.keep B1
  clear KN hZ hM
  go_upto_region 4 with (go_at_call 19; first | (with_reducible refine (WA _).mono ?_; rintro e w' ⟨rfl, rfl⟩) | (with_reducible refine (WB _).mono ?_; rintro e w' ⟨rfl, rfl⟩))
  go_upto_if 23 with (go_at_call 19; (with_reducible refine (WC _).mono ?_; rintro e w' ⟨rfl, rfl⟩))
  go_cut [9] from 21 (fun s9 wx => (∃ x : Int, s9 = .int .i64 x) ∧ wx = w1)
  case first =>
    by_cases t : p3 = 0
    · have t1 : (p3 == 0) = true := by simpa using t
      clear t
      go_wp2_with fail
      go_meet
      case rel => exact ⟨⟨_, rfl⟩, rfl⟩
    · have t1 : (p3 == 0) = false := by simpa using t
      clear t
      go_wp2_with fail
      go_meet
      case rel => exact ⟨⟨_, rfl⟩, rfl⟩
  case rest =>
    obtain ⟨⟨x, rfl⟩, rfl⟩ := hcut
    go_upto_if 26 with (go_at_call 19; (with_reducible refine (WD _).mono ?_; rintro e w' ⟨rfl, rfl⟩))
    go_cut [10] from 24 (fun s10 wx => (∃ y : Int, s10 = .int .i64 y) ∧ wx = wc)
    case first =>
      by_cases t : p4 = 0
      · have t1 : (p4 == 0) = true := by simpa using t
        clear t
        go_wp2_with fail
        go_meet
        case rel => exact ⟨⟨_, rfl⟩, rfl⟩
      · have t1 : (p4 == 0) = false := by simpa using t
        clear t
        go_wp2_with fail
        go_meet
        case rel => exact ⟨⟨_, rfl⟩, rfl⟩
    case rest =>
      obtain ⟨⟨y, rfl⟩, rfl⟩ := hcut
      go_wp2_with fail
      refine (PA _ hZ1).mono ?_
      rintro e w2 ⟨vT, vX, vC, rfl, hT, hX, hC, B2⟩
      obtain ⟨aT, cT, rfl, rT⟩ := hT.row
      obtain ⟨aX, cX, rfl, rX⟩ := hX.row
      obtain ⟨aC, cC, rfl, rC⟩ := hC.row
      obtain ⟨q1, q2, q3, q4⟩ := plane_rows zs
      obtain ⟨m, hm⟩ : ∃ m : Nat, (planeOf zs).N = m := ⟨(planeOf zs).N.toNat, by
        have := (planeTo_fine zs 24).1.n1
        rw [planeTo_all zs 24 (.inl rfl)] at this
        omega⟩
      rw [hm, q1, q2]
      obtain ⟨n, hn⟩ : ∃ n, (planeOf zs).T.length = n := ⟨_, rfl⟩
      rw [hn] at q1 q2 q3 q4 ⊢
      obtain ⟨C, hCC⟩ : ∃ C, (planeOf zs).C = C := ⟨_, rfl⟩
      rw [hCC] at q2 q4 rC
      have hM2 := hM1.keep B2
      have B3 := below_below B1 B2
      clear hT hX hC rT rX hn hm hCC q1 B1 B2 hZ1 hM1 PA
      have hbx := box_new w2 #[.int .i64 m, .slice aT n cT, .slice aX n cX, .slice aC n cC] 47
      have kk := below_alloc (Below.refl w2.heap.size w2) (.cells #[.int .i64 m, .slice aT n cT, .slice aX n cX, .slice aC n cC] 47)
      have B4 := below_alloc B3 (.cells #[.int .i64 m, .slice aT n cT, .slice aX n cX, .slice aC n cC] 47)
      have rC4 := rC.keep kk
      have hM4 := hM2.keep kk
      go_upto_region 9 with fail
      generalize w2.alloc _ = w4 at hbx B4 rC4 hM4 ⊢
      generalize w2.heap.size = bN at hbx ⊢
      clear rC hM2 kk B3
      have HK := Bx.mk (fun W (h : Below w4.heap.size w4 W) => (⟨(hbx.keep h).cell 0, (hbx.keep h).cell 1, (hbx.keep h).cell 2, (hbx.keep h).cell 3⟩ : W.cell? ⟨bN, 0, none⟩ = some (.int .i64 m) ∧ W.cell? ⟨bN, 1, none⟩ = some (.slice aT n cT) ∧ W.cell? ⟨bN, 2, none⟩ = some (.slice aX n cX) ∧ W.cell? ⟨bN, 3, none⟩ = some (.slice aC n cC)))
      obtain ⟨k0, k1, k2, k3⟩ := HK.out _ (Below.refl _ _)
      have SA := some_any (m := m) (aT := aT) (cT := cT) (aX := aX) (lX := n) (cX := cX) (cC := cC) (cM := cM) rC4 q2 q4 hM4 q3
      rw [LM.out] at SA
      go_wp2_with fail
      refine SA.mono ?_
      rintro e w5 ⟨g, fs, rfl, oF, B5⟩
      have rF := oF.row
      have lF := oF.1
      have rC5 := rC4.keep B5
      have HK5 := Bx.mk (fun W (h : Below w5.heap.size w5 W) => (⟨h, HK.out W (below_below B5 h)⟩ : Below w5.heap.size w5 W ∧ W.cell? ⟨bN, 0, none⟩ = some (.int .i64 m) ∧ W.cell? ⟨bN, 1, none⟩ = some (.slice aT n cT) ∧ W.cell? ⟨bN, 2, none⟩ = some (.slice aX n cX) ∧ W.cell? ⟨bN, 3, none⟩ = some (.slice aC n cC)))
      have BW := below_below B4 B5
      clear k0 k1 k2 k3 SA oF rC4 hM4 B4 B5 HK hbx
      have S1 := fun W => share_any x y W
      have S2 := fun W => rshare_any x y W
      have S3 := fun W (h : Below w5.heap.size w5 W) => shares_any (m := m) (aT := aT) (lT := n) (cT := cT) (aX := aX) (lX := n) (cX := cX) (cC := cC) (cF := n) (rF.keep h) lF (rC5.keep h) q2 q3
      have S4 := fun W (h : Below w5.heap.size w5 W) => rshares_any (m := m) (aT := aT) (cT := cT) (aX := aX) (lX := n) (cX := cX) (cC := cC) (cF := n) (rF.keep h) lF (rC5.keep h) q2 q3
      go_upto_region 10 with fail
      go_region_held_law (fun W => Below w5.heap.size w5 W ∧ W.cell? ⟨bN, 0, none⟩ = some (.int .i64 m) ∧ W.cell? ⟨bN, 1, none⟩ = some (.slice aT n cT) ∧ W.cell? ⟨bN, 2, none⟩ = some (.slice aX n cX) ∧ W.cell? ⟨bN, 3, none⟩ = some (.slice aC n cC))
        (first | assumption | exact HK5.out _ (Below.drew (Below.refl _ _)) | exact HK5.out _ D1 | exact HK5.out _ D2 | exact HK5.out _ D3 | exact HK5.out _ D4 | exact HK5.out _ D5)
        (first
          | (go_at_call 27; (with_reducible refine (S1 _).mono ?_); rintro e W1 ⟨r1, rfl, D1', l1, s1⟩; have D1 := below_below (And.left ‹_ ∧ _›) D1')
          | (go_at_call 31; (with_reducible refine (S2 _).mono ?_); rintro e W2 ⟨r2, rfl, D2', l2, s2⟩; have D2 := below_below (And.left ‹_ ∧ _›) D2'; have ON := fun W => one_yes l1 l2 (fsame_two s1 s2) W)
          | (go_at_call 26; (with_reducible refine (ON _).mono ?_); rintro e W' ⟨rfl, rfl⟩)
          | (go_at_call 32; (with_reducible refine (S3 _ (And.left ‹_ ∧ _›)).mono ?_); rintro e W3 ⟨a3, c3, xs, rfl, r3, i3, D3'⟩; have D3 := below_below (And.left ‹_ ∧ _›) D3')
          | (go_at_call 33; (with_reducible refine (S4 _ (And.left ‹_ ∧ _›)).mono ?_); rintro e W4 ⟨a4, c4, ys, rfl, r4, i4, D4'⟩; have D4 := below_below (And.left ‹_ ∧ _›) D4'; have SY := same_yes (cX := c3) (cY := c4) (r3.keep D4') r4 i3.w i4.w (by rw [i3.len, i4.len]) (by rw [i3.len]; omega) (fun j hj => fsame_two (i3.eq j (by rw [i3.len] at hj; exact hj)) (i4.eq j (by rw [i3.len] at hj; exact hj))); rw [i3.len] at SY)
          | (go_at_call 20; (with_reducible refine SY.mono ?_); rintro e W5 ⟨rfl, D5'⟩; have D5 := below_below (And.left ‹_ ∧ _›) D5'))
      all_goals
        have BF := Bx.mk (below_below BW D5)
        go_wp2
        go_ret
        exact ⟨rfl, BF.out⟩
end Go.Proofs.YtpggfgkajkgcoaaDoor
