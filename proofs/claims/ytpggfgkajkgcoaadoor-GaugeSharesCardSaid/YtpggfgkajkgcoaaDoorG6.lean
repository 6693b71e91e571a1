/- The stable sort of at most 21 floats; gauge.Sort. -/
import Derived.Test.YtpggfgkajkgcoaaDoorG5
set_option linter.unusedVariables false
set_option linter.unusedSimpArgs false
namespace Go.Proofs.YtpggfgkajkgcoaaDoor
open Go.RowKit

theorem Srt.le {D : List Nat} {a b x y : Int} (h : Srt D a b) (h0 : a ≤ x) (h1 : x ≤ y) (h2 : y < b) : fk D x ≤ fk D y := by
  obtain ⟨k, rfl⟩ : ∃ k : Nat, y = x + k := ⟨(y - x).toNat, by omega⟩
  induction k with
  | zero => rw [show x + ((0 : Nat) : Int) = x from by omega]; exact Int.le_refl _
  | succ k ih =>
    have h3 := ih (by omega) (by omega)
    have h4 := h (x + k) (by omega) (by omega)
    rw [show x + (k : Int) + 1 = x + ((k + 1 : Nat) : Int) from by omega] at h4
    exact Int.le_trans h3 h4
set_option maxHeartbeats 3200000 in
set_option maxRecDepth 100000 in
theorem merge_any {w : World} {B g cap : Nat} {xs : List Nat} (h : FOwnN w B g cap 21 xs) (hw : FW xs) (hs : Srt xs 0 20) :
    Calls Tryd.prog 58 #[.slice (some ⟨g, 0, none⟩) 21 cap, .int .i64 0, .int .i64 20, .int .i64 21, .func (.func 38) #[] #[]] w fun e w' => e = .returned (.tuple #[]) ∧ Below B w w' ∧ ∃ ys, FOwnN w' B g cap 21 ys ∧ ys.Perm xs ∧ Srt ys 0 21 := by
  have eg : ∀ args w, (callFunc 38 args).run Tryd.prog w = .ok (.enter 38 args) w := enters_of Tryd.func38 (by kernel_rfl) rfl
  have HW := Bx.mk hw
  have HS := Bx.mk hs
  have hBg := h.rng
  have hl := Bx.mk h.1
  clear hw hs
  go_enter Tryd.func58, Tryd.ntmps58
  go_wp2
  go_loopg [14, 15] 21 (fun q y z wr => ∃ i j : Int, y = .int .i64 i ∧ z = .int .i64 j ∧ q = (j - i).toNat + 1 ∧ 0 ≤ i ∧ i ≤ j ∧ j ≤ 20 ∧ Below B w wr ∧ FOwnN wr B g cap 21 xs ∧ Bx (∀ z : Int, 0 ≤ z → z < i → fk xs z ≤ fk xs 20) ∧ Bx (∀ z : Int, j ≤ z → z < 20 → fk xs 20 < fk xs z))
  case atStart => exact ⟨0, 20, rfl, rfl, by omega, by omega, by omega, by omega, Below.refl _ _, h, ⟨fun z h0 h1 => by omega⟩, ⟨fun z h0 h1 => by omega⟩⟩
  case round =>
    clear h
    obtain ⟨i, j, rfl, rfl, hq, hi0, hij, hj20, BW, hown, HI, HJ⟩ := hrel
    by_cases hlt : i < j
    · have y1 : IntKind.i64.wrap (i + j) = i + j := IntWalk.i64_in _ (by omega)
      obtain ⟨m, hm⟩ : ∃ m, (i + j) / 2 = m := ⟨_, rfl⟩
      have m0 : 0 ≤ m := by omega
      have m1 : m < (21 : Nat) := by omega
      have m1' : m < 21 := by omega
      have mi : i ≤ m := by omega
      have mj : m < j := by omega
      have y2 : IntKind.i64.wrap (m + 1) = m + 1 := IntWalk.i64_in _ (by omega)
      have c1 := hown.cell 20 (by omega) (by omega)
      rw [show (20 : Int).toNat = 20 from rfl] at c1
      have c2 := hown.cell m m0 m1
      have x1 := HW.out 20
      have x2 := HW.out m
      have KK := Bx.mk (show fless (fd xs 20) (fd xs m) = true ↔ fk xs 20 < fk xs m from by unfold fless fk; exact decide_eq_true_iff)
      obtain ⟨u, hu⟩ : ∃ u, fd xs 20 = u := ⟨_, rfl⟩
      obtain ⟨v, hv⟩ : ∃ v, fd xs m = v := ⟨_, rfl⟩
      rw [hu, hv] at KK
      rw [hu] at c1 x1
      rw [hv] at c2 x2
      clear hu hv
      have CL := cmpI_lt u v
      cases hless : fless u v
      · rw [hless] at CL
        have NL := Bx.mk (show fk xs m ≤ fk xs 20 from by
          have := KK.out
          rw [hless] at this
          have h2 : ¬ (fk xs 20 < fk xs m) := fun k => by have := this.2 k; cases this
          omega)
        clear hless
        go_upto_region 17 with fail
        go_quiet ((go_at_call 38; refine (cmp_any _ _ (by assumption) (by assumption) _).mono ?_; rintro e w' ⟨rfl, rfl⟩; exact ⟨rfl, _, rfl⟩))
        go_wp2
        go_roundg ((j - (m + 1)).toNat + 1)
        case rel => exact ⟨m + 1, j, rfl, rfl, rfl, by omega, by omega, by omega, belowB_drewN BW _, hown.keep (below_drewN (Below.refl _ _) _), ⟨fun z h0 h1 => Int.le_trans (HS.out.le h0 (show z ≤ m by omega) (by omega)) NL.out⟩, HJ⟩
        case measure => omega
      · rw [hless] at CL
        have NL := Bx.mk (show fk xs 20 < fk xs m from KK.out.1 hless)
        clear hless
        go_upto_region 17 with fail
        go_quiet ((go_at_call 38; refine (cmp_any _ _ (by assumption) (by assumption) _).mono ?_; rintro e w' ⟨rfl, rfl⟩; exact ⟨rfl, _, rfl⟩))
        go_wp2
        go_roundg ((m - i).toNat + 1)
        case rel => exact ⟨i, m, rfl, rfl, rfl, by omega, by omega, by omega, belowB_drewN BW _, hown.keep (below_drewN (Below.refl _ _) _), HI, ⟨fun z h0 h1 => Int.lt_of_lt_of_le NL.out (HS.out.le m0 h0 (by omega))⟩⟩
        case measure => omega
    · obtain rfl : i = j := by omega
      go_wp2
      go_loopg [17] ((20 - i).toNat + 1) (fun q y wr => ∃ k : Int, y = .int .i64 k ∧ q = (k - i).toNat + 1 ∧ i ≤ k ∧ k ≤ 20 ∧ Below B w wr ∧ ∃ D, FOwnN wr B g cap 21 D ∧ Bx (D.Perm xs) ∧ Bx (Near D 0 k 20) ∧ Bx (∀ z : Int, 0 ≤ z → z < k → fd D z = fd xs z) ∧ Bx (fd D k = fd xs 20))
      case atStart => exact ⟨20, rfl, rfl, by omega, by omega, BW, xs, hown, ⟨List.Perm.refl _⟩, ⟨Near.start HS.out⟩, ⟨fun z _ _ => rfl⟩, ⟨rfl⟩⟩
      case round =>
        clear hown BW
        obtain ⟨j, rfl, hq2, hj1, hj2, BW, D, hown, HP, HN, HO, HX⟩ := hrel
        have HL := Bx.mk hown.1
        by_cases hj : i < j
        · have g1 : decide (i < j) = true := decide_eq_true hj
          have g2 : decide (j > i) = true := decide_eq_true hj
          have y2 : IntKind.i64.wrap (j - 1) = j - 1 := IntWalk.i64_in _ (by omega)
          have j0 : 0 ≤ j := by omega
          have j1 : j < (21 : Nat) := by omega
          have j1' : j < 21 := by omega
          have j2 : 0 ≤ j - 1 := by omega
          have j2' : 1 ≤ j := by omega
          have j3 : j - 1 < (21 : Nat) := by omega
          have j3' : j - 1 < 21 := by omega
          have jt : (j - 1).toNat = j.toNat - 1 := by omega
          have c1 := hown.cell j j0 j1
          have c2 := hown.cell (j - 1) j2 j3
          have f1 := hown.fz j
          have f2 := hown.fz (j - 1)
          have SW := Bx.mk (show ∀ wx, FOwnN wx B g cap 21 D → FOwnN ((wx.setCell ⟨g, j.toNat, none⟩ (.float .f64 (fd D (j - 1)))).setCell ⟨g, (j - 1).toNat, none⟩ (.float .f64 (fd D j))) B g cap 21 (fswap D j (j - 1)) from fun wx hx => (hx.set j _).set (j - 1) _)
          have NL := Bx.mk (show fk D j < fk D (j - 1) from by
            unfold fk
            rw [HX.out, HO.out (j - 1) j2 (by omega)]
            exact HJ.out (j - 1) (by omega) (by omega))
          obtain ⟨u, hu⟩ : ∃ u, fd D j = u := ⟨_, rfl⟩
          obtain ⟨v, hv⟩ : ∃ v, fd D (j - 1) = v := ⟨_, rfl⟩
          have HV := Bx.mk hv
          have HU := Bx.mk hu
          rw [hu, hv] at SW
          rw [hu] at c1
          rw [hv] at c2
          rw [jt] at c2
          rw [jt] at f2
          clear hu hv
          have hd := hown.keep (Below.drew (Below.refl _ _))
          have c1d : wr.drew.cell? ⟨g, j.toNat, none⟩ = some (.float .f64 u) := c1
          have f1d : wr.drew.frozen? ⟨g, j.toNat, none⟩ = false := f1
          have c2d := (hd.set j v).cell (j - 1) j2 j3
          rw [fd_fset _ _ _ _ j0 (by rw [HL.out]; exact j1) j2, if_neg (by omega), jt, HV.out] at c2d
          have f2d := (hd.set j v).fz (j - 1)
          rw [jt] at f2d
          have hown2 := Bx.mk hown
          have BW2 := Bx.mk BW
          have SF : ∀ (a : Addr) (b : Nat) (m : _) (w : World), (store a (.float .f64 b) m).run Tryd.prog w = stored Tryd.prog w a (.float .f64 b) m := fun a b m w => run_store Tryd.prog w a _ m rfl
          clear hd hown BW
          go_upto_region 23 with fail
          go_region
          have SW2 := SW.out wr hown2.out
          rw [jt] at SW2
          have SW3 := SW2.keep (Below.drew (Below.refl _ _))
          have BW3 := Below.drew (belowB_set (belowB_set BW2.out (p := ⟨g, j.toNat, none⟩) (show B ≤ g from hBg.1) (.float .f64 v)) (p := ⟨g, j.toNat - 1, none⟩) (show B ≤ g from hBg.1) (.float .f64 u))
          generalize (World.drew _) = w9 at SW3 BW3 ⊢
          have PM := Bx.mk ((fswap_perm (D := D) j0 (by rw [HL.out]; exact j1) j2 (by rw [HL.out]; exact j3) (by omega)).trans HP.out)
          have NR := Bx.mk (HN.out.step (by omega) (by omega) hj2 (by rw [HL.out]; omega) NL.out)
          have OU := Bx.mk (show ∀ z : Int, 0 ≤ z → z < j - 1 → fd (fswap D j (j - 1)) z = fd xs z from fun z h0 h1 => by
            rw [fd_fswap j0 (by rw [HL.out]; exact j1) j2 (by rw [HL.out]; exact j3) h0, if_neg (by omega), if_neg (by omega)]
            exact HO.out z h0 (by omega))
          have OX := Bx.mk (show fd (fswap D j (j - 1)) (j - 1) = fd xs 20 from by
            rw [fd_fswap j0 (by rw [HL.out]; exact j1) j2 (by rw [HL.out]; exact j3) j2, if_pos rfl]
            exact HX.out)
          clear c1 c2 f1 f2 c1d f1d c2d f2d SF SW SW2 hown2 BW2
          go_wp2
          go_roundg ((j - 1 - i).toNat + 1)
          case rel => exact ⟨j - 1, rfl, rfl, by omega, by omega, BW3, _, SW3, PM, NR, OU, OX⟩
          case measure => omega
        · have g1 : decide (i < j) = false := decide_eq_false hj
          have g2 : decide (j > i) = false := decide_eq_false hj
          obtain rfl : i = j := by omega
          go_wp2
          try simp only [Exit.inBlock, Exit.then]
          first | refine bodyPost_end (results_none rfl _ _ _) rfl ?_ | refine bodyPost_ret (results_none rfl _ _ _) rfl ?_
          refine ⟨rfl, BW, D, hown, HP.out, HN.out.stop ?_⟩
          by_cases h0 : i = 0
          · exact .inl h0
          · right
            unfold fk
            rw [HX.out, HO.out (i - 1) (by omega) (by omega)]
            exact HI.out (i - 1) (by omega) (by omega)

set_option maxHeartbeats 3200000 in
theorem stable_any {w : World} {B g cap n : Nat} {xs : List Nat} (h : FOwnN w B g cap n xs) (hw : FW xs) (hn : n ≤ 21) :
    Calls Tryd.prog 51 #[.slice (some ⟨g, 0, none⟩) n cap, .int .i64 n, .func (.func 38) #[] #[]] w fun e w' => e = .returned (.tuple #[]) ∧ Below B w w' ∧ ∃ ys, FOwnN w' B g cap n ys ∧ ys.Perm xs ∧ Srt ys 0 n := by
  have HW := Bx.mk hw
  have hBg := h.rng
  clear hw
  go_enter Tryd.func51, Tryd.ntmps51
  go_wp2
  go_loopg [7, 8] 2 (fun q y z wr => ∃ r : Nat, y = .int .i64 (20 * r) ∧ z = .int .i64 (20 * r + 20) ∧ q = 2 - r ∧ r ≤ 1 ∧ 20 * r ≤ n ∧ Below B w wr ∧ ∃ D, FOwnN wr B g cap n D ∧ Bx (D.Perm xs) ∧ Bx (Srt D 0 (20 * r)))
  case atStart => exact ⟨0, rfl, rfl, rfl, by omega, by omega, Below.refl _ _, xs, h, ⟨List.Perm.refl _⟩, ⟨fun z h0 h1 => by omega⟩⟩
  case round =>
    clear h
    obtain ⟨r, rfl, rfl, hq, hr, hrn, BW, D, hown, HP, HS⟩ := hrel
    by_cases hb : 20 * r + 20 ≤ n
    · obtain rfl : r = 0 := by omega
      have g1 : (20 : Int) ≤ n := by omega
      have IC := insertion_any (a := 0) (b := 20) hown (FW_perm HP.out HW.out) (by omega) (by omega) g1 (by omega)
      clear hown
      go_wp2_with fail
      refine IC.mono ?_
      rintro e w2 ⟨rfl, B2, E, hown, PE, SE, _⟩
      have BW2 := BW.trans B2
      have HPE := Bx.mk (PE.trans HP.out)
      clear IC BW B2 PE HP HS
      go_wp2
      go_roundg 1
      case rel => exact ⟨1, rfl, rfl, rfl, by omega, by omega, BW2, E, hown, HPE, ⟨SE⟩⟩
      case measure => omega
    · have g1 : ¬ (20 * (r : Int) + 20 ≤ n) := by omega
      have IC := insertion_any (a := 20 * r) (b := n) hown (FW_perm HP.out HW.out) (by omega) (by omega) (by omega) (by omega)
      clear hown
      go_wp2_with fail
      refine IC.mono ?_
      rintro e w2 ⟨rfl, B2, E, hown, PE, SE, OE⟩
      have BW2 := BW.trans B2
      have HPE := Bx.mk (PE.trans HP.out)
      have SE0 := Bx.mk (show Srt E 0 (20 * r) from fun z h0 h1 => by
        unfold fk
        rw [OE z h0 (by omega), OE (z + 1) (by omega) (by omega)]
        exact HS.out z h0 h1)
      have SE1 := Bx.mk (show r = 0 → Srt E 0 n from fun h0 => by
        subst h0
        have := SE
        simpa using this)
      clear IC BW B2 PE HP HS OE
      go_wp2
      have RN := Bx.mk (show (n = 21 ∧ r = 1) ∨ (n ≤ 20 ∧ Srt E 0 n) from by
        by_cases h21 : n = 21
        · exact .inl ⟨h21, by omega⟩
        · refine .inr ⟨by omega, ?_⟩
          by_cases h20 : n = 20
          · obtain rfl : r = 1 := by omega
            have := SE0.out
            rw [h20]
            simpa using this
          · exact SE1.out (by omega))
      clear SE1 SE hb g1 hq
      go_loopg [6] 2 (fun q y wr => ∃ t : Nat, t ≤ 1 ∧ y = .int .i64 (20 * t + 20) ∧ q = 2 - t ∧ Below B w wr ∧ ∃ D, FOwnN wr B g cap n D ∧ Bx (D.Perm xs) ∧ Bx ((t = 0 ∧ D = E) ∨ (t = 1 ∧ Srt D 0 n)))
      case atStart => exact ⟨0, by omega, rfl, rfl, BW2, E, hown, HPE, ⟨.inl ⟨rfl, rfl⟩⟩⟩
      case round =>
        clear hown BW2 HPE D
        obtain ⟨t, ht, rfl, hq, BW, D, hown, HP, HT⟩ := hrel
        by_cases hgo : t = 0 ∧ n = 21
        · obtain ⟨rfl, rfl⟩ := hgo
          have MC := merge_any hown (FW_perm HP.out HW.out) (by
            rcases HT.out with ⟨_, k⟩ | ⟨k, _⟩
            · rcases RN.out with ⟨_, k2⟩ | ⟨k2, _⟩
              · have := SE0.out
                rw [k2] at this
                rw [k]
                simpa using this
              · omega
            · omega)
          clear HT RN SE0 hown
          go_wp2
          go_loopg [7, 8] 1 (fun q y z wx => y = .int .i64 0 ∧ z = .int .i64 40 ∧ q = 1 ∧ wx = wr)
          case atStart => exact ⟨rfl, rfl, rfl, rfl⟩
          case round =>
            obtain ⟨rfl, rfl, hq3, rfl⟩ := hrel
            go_wp2_with fail
            refine MC.mono ?_
            rintro e w3 ⟨rfl, B3, F, hF, PF, SF⟩
            have BW3 := BW.trans B3
            have HPF := Bx.mk (PF.trans HP.out)
            have HSF := Bx.mk SF
            clear MC BW B3 PF SF HP
            go_wp2
            go_roundg 1
            case rel => exact ⟨1, by omega, rfl, rfl, BW3, F, hF, HPF, ⟨.inr ⟨rfl, HSF.out⟩⟩⟩
            case measure => omega
        · have g1 : ¬ (20 * (t : Int) + 20 < n) := by omega
          have FIN := Bx.mk (show Srt D 0 n from by
            rcases HT.out with ⟨k1, k⟩ | ⟨_, k⟩
            · rcases RN.out with ⟨k2, _⟩ | ⟨_, k2⟩
              · omega
              · rw [k]; exact k2
            · exact k)
          clear HT RN SE0 hgo
          go_wp2
          try simp only [Exit.inBlock, Exit.then]
          first | refine bodyPost_end (results_none rfl _ _ _) rfl ?_ | refine bodyPost_ret (results_none rfl _ _ _) rfl ?_
          exact ⟨rfl, BW, D, hown, HP.out, FIN.out⟩
theorem stablefn_any {w : World} {B g cap n : Nat} {xs : List Nat} (h : FOwnN w B g cap n xs) (hw : FW xs) (hn : n ≤ 21) :
    Calls Tryd.prog 37 #[.slice (some ⟨g, 0, none⟩) n cap, .func (.func 38) #[] #[]] w fun e w' => e = .returned (.tuple #[]) ∧ Below B w w' ∧ ∃ ys, FOwnN w' B g cap n ys ∧ ys.Perm xs ∧ Srt ys 0 n := by
  have IC := stable_any h hw hn
  clear h
  go_enter Tryd.func37, Tryd.ntmps37
  go_wp2_with fail
  refine IC.mono ?_
  rintro e w2 ⟨rfl, B2, E⟩
  clear IC
  go_wp2
  try simp only [Exit.inBlock, Exit.then]
  first | refine bodyPost_end (results_none rfl _ _ _) rfl ?_ | refine bodyPost_ret (results_none rfl _ _ _) rfl ?_
  exact ⟨rfl, B2, E⟩
/-- Sorted: the same numbers, each not ahead of the one before it. -/
structure SortOf (xs ys : List Nat) : Prop where
  perm : ys.Perm xs
  srt : Srt ys 0 ys.length
theorem sort_any {w : World} {v : Value} {B : Nat} {xs : List Nat} (h : FOwn w B v xs) (hw : FW xs) (hp : 0 < xs.length) (hn : xs.length ≤ 21) :
    Calls Tryd.prog 18 #[v] w fun e w' => ∃ v' ys, e = .returned v' ∧ FOwnK w' w.heap.size v' ys ∧ Below w.heap.size w w' ∧ SortOf xs ys := by
  have CC := fclone_any h (by omega) (fun e => by rw [e] at hp; simp at hp)
  clear h
  go_enter Tryd.func18, Tryd.ntmps18
  go_wp2_with fail
  refine CC.mono ?_
  rintro e w2 ⟨v2, rfl, o2, B2⟩
  clear CC
  rcases o2.cases with ⟨rfl, hx⟩ | ⟨g, cap, rfl, _, _, k⟩
  · rw [hx] at hp
    simp at hp
  have HL := Bx.mk k.1
  obtain ⟨n, hN⟩ : ∃ n, xs.length = n := ⟨_, rfl⟩
  rw [hN] at k hn ⊢
  have HN := Bx.mk hN
  have SC := stablefn_any k hw hn
  clear o2 k hN
  go_wp2_with fail
  refine SC.mono ?_
  rintro e w3 ⟨rfl, B3, ys, k3, p3, s3⟩
  have HL3 := Bx.mk k3.1
  have BB := B2.trans B3
  have CL := fclip_any (w := w3) (B := w.heap.size) (v := .slice (some ⟨g, 0, none⟩) ys.length cap) (xs := ys) (by rw [HL3.out]; exact k3.own) (by rw [HL3.out]; omega)
  rw [HL3.out] at CL
  have PS := Bx.mk (show SortOf xs ys from ⟨p3, by rw [HL3.out]; exact s3⟩)
  clear SC B2 B3 p3 s3 k3
  go_wp2_with fail
  refine CL.mono ?_
  rintro e w4 ⟨v4, rfl, k4, rfl⟩
  clear CL
  go_wp2
  go_ret
  exact ⟨_, ys, rfl, k4, BB, PS.out⟩
end Go.Proofs.YtpggfgkajkgcoaaDoor
