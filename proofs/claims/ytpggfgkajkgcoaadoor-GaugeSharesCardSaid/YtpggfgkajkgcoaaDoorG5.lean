/- Insertion sort of a row of floats. -/
import Derived.Test.YtpggfgkajkgcoaaDoorG4
set_option linter.unusedVariables false
set_option linter.unusedSimpArgs false
namespace Go.Proofs.YtpggfgkajkgcoaaDoor
open Go.RowKit

theorem belowB_drewN {B : Nat} {w a : World} (h : Below B w a) (n : Nat) : Below B w (a.drewN n) := ⟨h.os, h.tape, h.output, h.size, h.block⟩
theorem belowB_set {B : Nat} {w a : World} (h : Below B w a) {p : Addr} (hp : B ≤ p.block) (u : Value) : Below B w (a.setCell p u) := h.setCell hp u
def cmpI (a b : Nat) : Int := if fless a b then -1 else if fless b a then 1 else 0
theorem cmpI_lt (a b : Nat) : decide (cmpI a b < 0) = fless a b := by
  unfold cmpI
  cases fless a b
  · cases fless b a <;> rfl
  · rfl
theorem cmp_any (a b : Nat) (ha : a < 18446744073709551616) (hb : b < 18446744073709551616) (w : World) : Calls Tryd.prog 38 #[.float .f64 a, .float .f64 b] w fun e w' => e = .returned (.int .i64 (cmpI a b)) ∧ w = w' := by
  cases h1 : fless a b
  · cases h2 : fless b a
    all_goals
      have E := Bx.mk (show cmpI a b = _ from by unfold cmpI; rw [h1, h2])
      go_enter Tryd.func38, Tryd.ntmps38
      go_wp2_with (first | (go_at_call 16; refine (less_any _ _ (by assumption) (by assumption) _).mono ?_; rintro e w' ⟨rfl, rfl⟩))
      go_ret
      rw [E.out]
      exact ⟨rfl, rfl⟩
  · have E := Bx.mk (show cmpI a b = _ from by unfold cmpI; rw [h1])
    go_enter Tryd.func38, Tryd.ntmps38
    go_wp2_with (first | (go_at_call 16; refine (less_any _ _ (by assumption) (by assumption) _).mono ?_; rintro e w' ⟨rfl, rfl⟩))
    go_ret
    rw [E.out]
    exact ⟨rfl, rfl⟩
/-- A place's key; two places turned. -/
def fk (D : List Nat) (z : Int) : Int := fkey (fd D z)
def fswap (D : List Nat) (i j : Int) : List Nat := fset (fset D i (fd D j)) j (fd D i)
theorem fswap_length (D : List Nat) (i j : Int) : (fswap D i j).length = D.length := by unfold fswap; rw [fset_length, fset_length]
theorem fd_fswap {D : List Nat} {i j z : Int} (hi : 0 ≤ i) (hil : i < D.length) (hj : 0 ≤ j) (hjl : j < D.length) (hz : 0 ≤ z) : fd (fswap D i j) z = if z = j then fd D i else if z = i then fd D j else fd D z := by
  unfold fswap
  rw [fd_fset _ _ _ _ hj (by rw [fset_length]; exact hjl) hz, fd_fset _ _ _ _ hi hil hz]
theorem fswap_perm {D : List Nat} {i j : Int} (hi : 0 ≤ i) (hil : i < D.length) (hj : 0 ≤ j) (hjl : j < D.length) (hne : i ≠ j) : (fswap D i j).Perm D := by
  rw [List.perm_iff_count]
  intro a
  unfold fswap fset
  have h1 : i.toNat < D.length := by omega
  have h2 : j.toNat < D.length := by omega
  have e1 : fd D i = D[i.toNat] := by simp [fd, List.getD_eq_getElem?_getD, h1]
  have e2 : fd D j = D[j.toNat] := by simp [fd, List.getD_eq_getElem?_getD, h2]
  rw [e1, e2]
  have h3 : j.toNat < (D.set i.toNat D[j.toNat]).length := by rw [List.length_set]; exact h2
  rw [List.count_set h3, List.count_set h1, List.getElem_set_ne (by omega)]
  have m1 : D[i.toNat] ∈ D := List.getElem_mem h1
  have m2 : D[j.toNat] ∈ D := List.getElem_mem h2
  by_cases c1 : D[i.toNat] = a
  · have p : 0 < List.count a D := List.count_pos_iff.2 (c1 ▸ m1)
    by_cases c2 : D[j.toNat] = a
    · simp [c1, c2]; omega
    · simp [c1, c2]; omega
  · by_cases c2 : D[j.toNat] = a
    · have p : 0 < List.count a D := List.count_pos_iff.2 (c2 ▸ m2)
      simp [c1, c2]
    · simp [c1, c2]
theorem fd_mem_or {D : List Nat} (z : Int) : fd D z ∈ D ∨ fd D z = 0 := by
  unfold fd
  by_cases h : z.toNat < D.length
  · left
    simp [List.getD_eq_getElem?_getD, h]
  · right
    simp [List.getD_eq_getElem?_getD, List.getElem?_eq_none (Nat.le_of_not_lt h)]
theorem mem_fd {D : List Nat} {x : Nat} (h : x ∈ D) : ∃ z : Int, 0 ≤ z ∧ z < D.length ∧ fd D z = x := by
  obtain ⟨j, hj, rfl⟩ := List.mem_iff_getElem.1 h
  exact ⟨j, by omega, by omega, by simp [fd, List.getD_eq_getElem?_getD, hj]⟩
theorem FW_perm {D E : List Nat} (h : D.Perm E) (k : FW E) : FW D := by
  intro z
  rcases fd_mem_or (D := D) z with m | m
  · obtain ⟨y, _, _, e⟩ := mem_fd (h.mem_iff.1 m)
    rw [← e]
    exact k y
  · rw [m]; omega
/-- In order from one place to another. -/
def Srt (D : List Nat) (a b : Int) : Prop := ∀ z : Int, a ≤ z → z + 1 < b → fk D z ≤ fk D (z + 1)
/-- In order but for one place, which is less than all above it. -/
structure Near (D : List Nat) (a j i : Int) : Prop where
  adj : ∀ z : Int, a ≤ z → z + 1 ≤ i → z ≠ j → z + 1 ≠ j → fk D z ≤ fk D (z + 1)
  over : a ≤ j - 1 → j + 1 ≤ i → fk D (j - 1) ≤ fk D (j + 1)
  less : j + 1 ≤ i → fk D j ≤ fk D (j + 1)
theorem Near.start {D : List Nat} {a i : Int} (h : Srt D a i) : Near D a i i :=
  ⟨fun z h0 h1 h2 h3 => h z h0 (by omega), fun _ h => by omega, fun h => by omega⟩
theorem Near.stop {D : List Nat} {a j i : Int} (h : Near D a j i) (k : j = a ∨ fk D (j - 1) ≤ fk D j) : Srt D a (i + 1) := by
  intro z h0 h1
  by_cases e1 : z = j
  · rw [e1]; exact h.less (by omega)
  · by_cases e2 : z + 1 = j
    · rcases k with k | k
      · omega
      · rw [show z = j - 1 from by omega, show j - 1 + 1 = j from by omega]; exact k
    · exact h.adj z h0 (by omega) e1 e2
theorem Near.step {D : List Nat} {a j i : Int} (h : Near D a j i) (ha : 0 ≤ a) (hj : a < j) (hji : j ≤ i) (hi : i < D.length) (k : fk D j < fk D (j - 1)) : Near (fswap D j (j - 1)) a (j - 1) i := by
  have F : ∀ z : Int, 0 ≤ z → fk (fswap D j (j - 1)) z = if z = j - 1 then fk D j else if z = j then fk D (j - 1) else fk D z := by
    intro z hz
    unfold fk
    rw [fd_fswap (by omega) (by omega) (by omega) (by omega) hz]
    by_cases e1 : z = j - 1
    · rw [if_pos e1, if_pos e1]
    · rw [if_neg e1, if_neg e1]
      by_cases e2 : z = j
      · rw [if_pos e2, if_pos e2]
      · rw [if_neg e2, if_neg e2]
  refine ⟨fun z h0 h1 h2 h3 => ?_, fun h1 h2 => ?_, fun h1 => ?_⟩
  · rw [F z (by omega), F (z + 1) (by omega), if_neg h2, if_neg h3]
    by_cases e1 : z = j
    · rw [if_pos e1, if_neg (by omega), e1]
      exact h.over (by omega) (by omega)
    · rw [if_neg e1, if_neg (by omega)]
      exact h.adj z h0 h1 e1 (by omega)
  · rw [F (j - 1 - 1) (by omega), F (j - 1 + 1) (by omega), if_neg (by omega), if_neg (by omega), if_neg (by omega), if_pos (by omega)]
    have := h.adj (j - 1 - 1) (by omega) (by omega) (by omega) (by omega)
    rwa [show j - 1 - 1 + 1 = j - 1 from by omega] at this
  · rw [F (j - 1) (by omega), F (j - 1 + 1) (by omega), if_pos rfl, if_neg (by omega), if_pos (by omega)]
    omega

set_option maxHeartbeats 3200000 in
theorem insertion_any {w : World} {B g cap n : Nat} {xs : List Nat} {a b : Int} (h : FOwnN w B g cap n xs) (hw : FW xs) (ha : 0 ≤ a) (hab : a ≤ b) (hb : b ≤ n) (hn : n ≤ 100000) :
    Calls Tryd.prog 57 #[.slice (some ⟨g, 0, none⟩) n cap, .int .i64 a, .int .i64 b, .func (.func 38) #[] #[]] w fun e w' => e = .returned (.tuple #[]) ∧ Below B w w' ∧ ∃ ys, FOwnN w' B g cap n ys ∧ ys.Perm xs ∧ Srt ys a b ∧ ∀ z : Int, 0 ≤ z → (z < a ∨ b ≤ z) → fd ys z = fd xs z := by
  have eg : ∀ args w, (callFunc 38 args).run Tryd.prog w = .ok (.enter 38 args) w := enters_of Tryd.func38 (by kernel_rfl) rfl
  have HW := Bx.mk hw
  have hBg := h.rng
  have hl := Bx.mk h.1
  clear hw
  have y0 : IntKind.i64.wrap (a + 1) = a + 1 := IntWalk.i64_in _ (by omega)
  go_enter Tryd.func57, Tryd.ntmps57
  go_wp2
  go_loopg [8] ((b - a).toNat) (fun q y wr => ∃ (i : Int), y = .int .i64 i ∧ q = (b + 1 - i).toNat ∧ a + 1 ≤ i ∧ (i ≤ b ∨ i = a + 1) ∧ Below B w wr ∧ ∃ D, FOwnN wr B g cap n D ∧ Bx (D.Perm xs) ∧ Bx (Srt D a i) ∧ Bx (∀ z : Int, 0 ≤ z → (z < a ∨ b ≤ z) → fd D z = fd xs z))
  case atStart => exact ⟨a + 1, rfl, by omega, by omega, by omega, Below.refl _ _, _, h, ⟨List.Perm.refl _⟩, ⟨fun z h0 h1 => by omega⟩, ⟨fun z _ _ => rfl⟩⟩
  case round =>
    clear h
    obtain ⟨i, rfl, hq, hi1, hi2, BW, D, hown, HP, HS, HO⟩ := hrel
    by_cases hin : i < b
    · have y1 : IntKind.i64.wrap (i + 1) = i + 1 := IntWalk.i64_in _ (by omega)
      go_wp2
      go_loopg [9] ((i - a).toNat + 1) (fun q y wr => ∃ (j : Int), y = .int .i64 j ∧ q = (j - a + 1).toNat ∧ a ≤ j ∧ j ≤ i ∧ Below B w wr ∧ ∃ D, FOwnN wr B g cap n D ∧ Bx (D.Perm xs) ∧ Bx (Near D a j i) ∧ Bx (∀ z : Int, 0 ≤ z → (z < a ∨ b ≤ z) → fd D z = fd xs z))
      case atStart => exact ⟨i, rfl, by omega, by omega, by omega, BW, D, hown, HP, ⟨Near.start HS.out⟩, HO⟩
      case round =>
        clear hown BW HP HS HO D
        obtain ⟨j, rfl, hq2, hj1, hj2, BW, D, hown, HP, HN, HO⟩ := hrel
        have HL := Bx.mk hown.1
        by_cases hj : a < j
        · have g1 : decide (a < j) = true := decide_eq_true hj
          have g2 : decide (j > a) = true := decide_eq_true hj
          have y2 : IntKind.i64.wrap (j - 1) = j - 1 := IntWalk.i64_in _ (by omega)
          have j0 : 0 ≤ j := by omega
          have j1 : j < n := by omega
          have j2 : 0 ≤ j - 1 := by omega
          have j2' : 1 ≤ j := by omega
          have j3 : j - 1 < n := by omega
          have jt : (j - 1).toNat = j.toNat - 1 := by omega
          have c1 := hown.cell j j0 j1
          have c2 := hown.cell (j - 1) j2 j3
          have f1 := hown.fz j
          have f2 := hown.fz (j - 1)
          have x1 := (FW_perm HP.out HW.out) j
          have x2 := (FW_perm HP.out HW.out) (j - 1)
          have SW := Bx.mk (show ∀ wx, FOwnN wx B g cap n D → FOwnN ((wx.setCell ⟨g, j.toNat, none⟩ (.float .f64 (fd D (j - 1)))).setCell ⟨g, (j - 1).toNat, none⟩ (.float .f64 (fd D j))) B g cap n (fswap D j (j - 1)) from fun wx hx => (hx.set j _).set (j - 1) _)
          have KK := Bx.mk (show fless (fd D j) (fd D (j - 1)) = true ↔ fk D j < fk D (j - 1) from by unfold fless fk; exact decide_eq_true_iff)
          obtain ⟨u, hu⟩ : ∃ u, fd D j = u := ⟨_, rfl⟩
          obtain ⟨v, hv⟩ : ∃ v, fd D (j - 1) = v := ⟨_, rfl⟩
          rw [hu, hv] at SW KK
          rw [hu] at c1 x1
          rw [hv] at c2 x2
          have c2' := c2
          rw [jt] at c2'
          have f2' := f2
          rw [jt] at f2'
          clear hu hv
          have CL := cmpI_lt u v
          cases hless : fless u v
          · rw [hless] at CL
            have NL := Bx.mk (show fk D (j - 1) ≤ fk D j from by
              have := KK.out
              rw [hless] at this
              have h2 : ¬ (fk D j < fk D (j - 1)) := fun k => by have := this.2 k; cases this
              omega)
            clear hless
            go_upto_region 4 with fail
            go_quiet ((go_at_call 38; refine (cmp_any _ _ (by assumption) (by assumption) _).mono ?_; rintro e w' ⟨rfl, rfl⟩; exact ⟨rfl, _, rfl⟩))
            go_wp2
            go_roundg ((b + 1 - (i + 1)).toNat)
            case rel => exact ⟨i + 1, rfl, by omega, by omega, by omega, belowB_drewN BW _, D, hown.keep (below_drewN (Below.refl _ _) _), HP, ⟨HN.out.stop (.inr NL.out)⟩, HO⟩
            case measure => omega
          · rw [hless] at CL
            have NL := Bx.mk (show fk D j < fk D (j - 1) from KK.out.1 hless)
            clear hless
            go_upto_region 4 with fail
            go_quiet ((go_at_call 38; refine (cmp_any _ _ (by assumption) (by assumption) _).mono ?_; rintro e w' ⟨rfl, rfl⟩; exact ⟨rfl, _, rfl⟩))
            have BW2 := Bx.mk (belowB_drewN BW nq)
            have hown2 := Bx.mk (hown.keep (below_drewN (Below.refl _ _) nq))
            clear BW hown
            replace c1 := (show (wr.drewN nq).cell? ⟨g, j.toNat, none⟩ = _ from c1)
            replace c2 := (show (wr.drewN nq).cell? ⟨g, (j - 1).toNat, none⟩ = _ from c2)
            replace c2' := (show (wr.drewN nq).cell? ⟨g, j.toNat - 1, none⟩ = _ from c2')
            replace f1 := (show (wr.drewN nq).frozen? ⟨g, j.toNat, none⟩ = _ from f1)
            replace f2 := (show (wr.drewN nq).frozen? ⟨g, (j - 1).toNat, none⟩ = _ from f2)
            replace f2' := (show (wr.drewN nq).frozen? ⟨g, j.toNat - 1, none⟩ = _ from f2')
            generalize wr.drewN nq = wz at c1 c2 c2' f1 f2 f2' BW2 hown2
            clear wr
            have hd := hown2.out.keep (Below.drew (Below.refl _ _))
            have c1d : wz.drew.cell? ⟨g, j.toNat, none⟩ = some (.float .f64 u) := c1
            have f1d : wz.drew.frozen? ⟨g, j.toNat, none⟩ = false := f1
            have c2d := (hd.set j v).cell (j - 1) j2 j3
            rw [fd_fset _ _ _ _ j0 (by rw [HL.out]; exact j1) j2, if_neg (by omega), jt] at c2d
            have f2d := (hd.set j v).fz (j - 1)
            rw [jt] at f2d
            have c3 : fd D (j - 1) = v := by
              have h1 := hown2.out.cell (j - 1) j2 j3
              rw [jt, c2'] at h1
              injection h1 with h1
              injection h1 with _ h1
              exact h1.symm
            rw [c3] at c2d
            clear hd c3
            have SF : ∀ (a : Addr) (b : Nat) (m : _) (w : World), (store a (.float .f64 b) m).run Tryd.prog w = stored Tryd.prog w a (.float .f64 b) m := fun a b m w => run_store Tryd.prog w a _ m rfl
            go_upto_region 6 with fail
            go_region
            have SW2 := SW.out wz hown2.out
            rw [jt] at SW2
            have SW3 := SW2.keep (Below.drew (Below.refl _ _))
            have BW3 := Below.drew (belowB_set (belowB_set BW2.out (p := ⟨g, j.toNat, none⟩) (show B ≤ g from hBg.1) (.float .f64 v)) (p := ⟨g, j.toNat - 1, none⟩) (show B ≤ g from hBg.1) (.float .f64 u))
            generalize (World.drew _) = w9 at SW3 BW3 ⊢
            have PM := Bx.mk ((fswap_perm (D := D) j0 (by rw [HL.out]; exact j1) j2 (by rw [HL.out]; exact j3) (by omega)).trans HP.out)
            have NR := Bx.mk (HN.out.step ha hj hj2 (by rw [HL.out]; omega) NL.out)
            have OU := Bx.mk (show ∀ z : Int, 0 ≤ z → (z < a ∨ b ≤ z) → fd (fswap D j (j - 1)) z = fd xs z from fun z h0 h1 => by
              rw [fd_fswap j0 (by rw [HL.out]; exact j1) j2 (by rw [HL.out]; exact j3) h0, if_neg (by omega), if_neg (by omega)]
              exact HO.out z h0 h1)
            clear c1 c2 c2' f1 f2 f2' c1d f1d c2d f2d SF SW SW2 hown2 BW2
            go_wp2
            go_roundg ((j - 1 - a + 1).toNat)
            case rel => exact ⟨j - 1, rfl, by omega, by omega, by omega, BW3, _, SW3, PM, NR, OU⟩
            case measure => omega
        · have g1 : decide (a < j) = false := decide_eq_false hj
          have g2 : decide (j > a) = false := decide_eq_false hj
          go_upto_region 4 with fail
          go_quiet (fail)
          go_wp2
          go_roundg ((b + 1 - (i + 1)).toNat)
          case rel => exact ⟨i + 1, rfl, by omega, by omega, by omega, belowB_drewN BW _, D, hown.keep (below_drewN (Below.refl _ _) _), HP, ⟨HN.out.stop (.inl (by omega))⟩, HO⟩
          case measure => omega
    · go_wp2
      try simp only [Exit.inBlock, Exit.then]
      first | refine bodyPost_end (results_none rfl _ _ _) rfl ?_ | refine bodyPost_ret (results_none rfl _ _ _) rfl ?_
      refine ⟨rfl, BW, D, hown, HP.out, fun z h0 h1 => HS.out z h0 (by omega), HO.out⟩
end Go.Proofs.YtpggfgkajkgcoaaDoor
