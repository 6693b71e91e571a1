/- Any step of floats as a function of the world; the drawn numbers. -/
import Derived.Test.YtpggfgkajkgcoaaDoorG10
set_option linter.unusedVariables false
set_option linter.unusedSimpArgs false
namespace Go.Proofs.YtpggfgkajkgcoaaDoor
open Go.RowKit

def fres (op : BinOp) (x y : Nat) (w : World) : Nat := (floatBits op .f64 x y).getD (nanAt x y w)
def fworld (op : BinOp) (x y : Nat) (w : World) : World := if (floatBits op .f64 x y).isSome then w else w.drew
theorem fres_run (op : BinOp) (ho : op = .add ∨ op = .sub ∨ op = .mul ∨ op = .quo) (x y : Nat) (w : World) : (binOp op 22 (.float .f64 x) (.float .f64 y)).run Tryd.prog w = .ok (.float .f64 (fres op x y w)) (fworld op x y w) := by
  unfold fres fworld
  cases h : floatBits op .f64 x y with
  | none => exact run_nan op x y ho h w
  | some r => exact run_float_arith w op 22 .f64 x y r h
theorem fres_lt (op : BinOp) (x y : Nat) (w : World) : fres op x y w < 18446744073709551616 := by
  unfold fres
  cases h : floatBits op .f64 x y with
  | none => exact (nanAt_nan x y w).2
  | some r => exact bits_lt h
theorem fres_same (op : BinOp) (x y : Nat) (w : World) : fsame (fres op x y w) (opF op x y) = true := by
  unfold fres opF
  cases h : floatBits op .f64 x y with
  | none => exact fsame_nan (nanAt_nan x y w).1 nan_c
  | some r => exact fsame_refl _
theorem fworld_below (op : BinOp) (x y : Nat) (w : World) : Below w.heap.size w (fworld op x y w) := by
  unfold fworld
  split
  · exact Below.refl _ _
  · exact Below.drew (Below.refl _ _)
theorem bits_nan_right {op : BinOp} {x y : Nat} (h : nanb y = true) : floatBits op .f64 x y = none := by
  have hr := read_nan h
  cases op <;> try rfl
  · show Ieee.double.add x y = none
    unfold Ieee.Format.add
    rw [hr]
    cases Ieee.double.read x <;> rfl
  · show Ieee.double.sub x y = none
    unfold Ieee.Format.sub
    rw [hr]
    cases Ieee.double.read x <;> rfl
  · show Ieee.double.mul x y = none
    unfold Ieee.Format.mul
    rw [hr]
    cases Ieee.double.read x <;> rfl
  · show Ieee.double.div x y = none
    unfold Ieee.Format.div
    rw [hr]
    cases Ieee.double.read x <;> rfl
theorem opF_congr {op : BinOp} {x x' y y' : Nat} (hx : x < 18446744073709551616) (hx' : x' < 18446744073709551616) (hy : y < 18446744073709551616) (hy' : y' < 18446744073709551616) (h : fsame x x' = true) (k : fsame y y' = true) : opF op x y = opF op x' y' := by
  rw [opF_left hx hx' h]
  rcases fsame_cases hy hy' k with rfl | ⟨a, b⟩
  · rfl
  · rw [opF_none (bits_nan_right a), opF_none (bits_nan_right b)]
theorem fres_congr {op : BinOp} {x x' y y' : Nat} (w : World) (hx : x < 18446744073709551616) (hx' : x' < 18446744073709551616) (hy : y < 18446744073709551616) (hy' : y' < 18446744073709551616) (h : fsame x x' = true) (k : fsame y y' = true) : fsame (fres op x y w) (opF op x' y') = true := by
  rw [← opF_congr hx hx' hy hy' h k]
  exact fres_same op x y w
theorem ofInt_lt (n : Int) : floatOfInt .f64 n < 18446744073709551616 := by
  have := floatOfInt_wf .f64 n
  simpa [Lit.wf] using this

def halfN (x : Nat) : Nat → Nat
  | 0 => x
  | i + 1 => opF .quo (halfN x i) 4611686018427387904
theorem halfN_lt {x : Nat} (h : x < 18446744073709551616) (i : Nat) : halfN x i < 18446744073709551616 := by
  cases i with
  | zero => exact h
  | succ i => exact opF_lt _ _ _
/-- The drawn number. -/
def realX (n b : Int) : Nat := halfN (floatOfInt .f64 (wi n 1125899906842624 - 562949953421312)) (wi b 70).toNat
def realF (kind n b : Int) : Nat :=
  if wi kind 10 = 0 then 9221120237041090561
  else if wi kind 10 = 1 then 9218868437227405312
  else if wi kind 10 = 2 then 18442240474082181120
  else if wi kind 10 = 3 then opF .mul 0 (opF .sub (opF .sub 0 (opF .mul (realX n b) (realX n b))) 4607182418800017408)
  else if wi kind 10 = 4 then opF .quo (opF .add (floatOfInt .f64 (wi n 1048576)) 4602678819172646912) 4652218415073722368
  else if wi kind 10 = 5 then opF .mul (floatOfInt .f64 (wi n 3 - 1)) 4787326403894837248
  else realX n b
set_option maxHeartbeats 3200000 in
theorem real_any (kind n b : Int) (w : World) : Calls Tryd.prog 15 #[.int .i64 kind, .int .i64 n, .int .i64 b] w fun e w' => ∃ r, e = .returned (.float .f64 r) ∧ Below w.heap.size w w' ∧ r < 18446744073709551616 ∧ fsame r (realF kind n b) = true := by
  have hn := wi_rng n 1125899906842624 (by omega)
  have W1 := fun w => within12_any n 1125899906842624 (by omega) (by omega) w
  have W2 := fun w => within12_any b 70 (by omega) (by omega) w
  have W3 := fun w => within12_any kind 10 (by omega) (by omega) w
  have W4 := fun w => within12_any n 1048576 (by omega) (by omega) w
  have W5 := fun w => within12_any n 3 (by omega) (by omega) w
  have hb := wi_rng b 70 (by omega)
  have hk := wi_rng kind 10 (by omega)
  have h4 := wi_rng n 1048576 (by omega)
  have h5 := wi_rng n 3 (by omega)
  have RX := Bx.mk (show realX n b = halfN (floatOfInt .f64 (wi n 1125899906842624 - 562949953421312)) (wi b 70).toNat from rfl)
  have RF := Bx.mk (show realF kind n b = (if wi kind 10 = 0 then 9221120237041090561
  else if wi kind 10 = 1 then 9218868437227405312
  else if wi kind 10 = 2 then 18442240474082181120
  else if wi kind 10 = 3 then opF .mul 0 (opF .sub (opF .sub 0 (opF .mul (realX n b) (realX n b))) 4607182418800017408)
  else if wi kind 10 = 4 then opF .quo (opF .add (floatOfInt .f64 (wi n 1048576)) 4602678819172646912) 4652218415073722368
  else if wi kind 10 = 5 then opF .mul (floatOfInt .f64 (wi n 3 - 1)) 4787326403894837248
  else realX n b) from rfl)
  obtain ⟨x0, hx0⟩ : ∃ x0, floatOfInt .f64 (wi n 1125899906842624 - 562949953421312) = x0 := ⟨_, rfl⟩
  have lx0 := ofInt_lt (wi n 1125899906842624 - 562949953421312)
  rw [hx0] at RX lx0
  generalize wi n 1125899906842624 = q1 at hn W1 hx0
  generalize wi b 70 = q2 at hb W2 RX
  generalize wi n 1048576 = q4 at h4 W4 RF
  generalize wi n 3 = q5 at h5 W5 RF
  generalize wi kind 10 = k at hk W3 RF
  obtain ⟨k2, rfl⟩ : ∃ k2 : Nat, q2 = k2 := ⟨q2.toNat, by omega⟩
  rw [Int.toNat_natCast] at RX
  have DQ := fres_run .quo (.inr (.inr (.inr rfl)))
  have DA := fres_run .add (.inl rfl)
  have DS := fres_run .sub (.inr (.inl rfl))
  have DM := fres_run .mul (.inr (.inr (.inl rfl)))
  have y1 : IntKind.i64.wrap (q1 - 562949953421312) = q1 - 562949953421312 := IntWalk.i64_in _ (by omega)
  go_enter Tryd.func15, Tryd.ntmps15
  go_wp2_with (first | (go_at_call 19; refine (W1 _).mono ?_; rintro e w' ⟨rfl, rfl⟩))
  clear hx0 W1
  go_loopg [7, 8] (k2 + 1) (fun q z y wr => ∃ (i s : Nat), y = .int .i64 i ∧ z = .float .f64 s ∧ q = k2 + 1 - i ∧ i ≤ k2 ∧ Below w.heap.size w wr ∧ s < 18446744073709551616 ∧ Bx (fsame s (halfN x0 i) = true))
  case atStart => exact ⟨0, x0, rfl, rfl, by omega, by omega, Below.refl _ _, lx0, ⟨fsame_refl _⟩⟩
  case round =>
    obtain ⟨i, s, rfl, rfl, hq, hi, BW, hs, HS⟩ := hrel
    by_cases hin : i < k2
    · have hI : (i : Int) < k2 := by omega
      have NB := Bx.mk (below_below BW (fworld_below .quo s 4611686018427387904 wr))
      have NL := Bx.mk (fres_lt .quo s 4611686018427387904 wr)
      have NS := Bx.mk (show fsame (fres .quo s 4611686018427387904 wr) (halfN x0 (i + 1)) = true from fres_congr wr hs (halfN_lt lx0 i) (by omega) (by omega) HS.out (fsame_refl _))
      go_wp2_with (first | (go_at_call 19; with_reducible refine (W2 _).mono ?_; rintro e w' ⟨rfl, rfl⟩) | (go_at_call 19; with_reducible refine (W3 _).mono ?_; rintro e w' ⟨rfl, rfl⟩) | (go_at_call 19; with_reducible refine (W4 _).mono ?_; rintro e w' ⟨rfl, rfl⟩) | (go_at_call 19; with_reducible refine (W5 _).mono ?_; rintro e w' ⟨rfl, rfl⟩))
      go_roundg (k2 + 1 - (i + 1))
      case rel => exact ⟨i + 1, _, rfl, rfl, by omega, by omega, NB.out, NL.out, NS⟩
      case measure => omega
    · have hI : ¬ (i : Int) < k2 := by omega
      obtain rfl : i = k2 := by omega
      have SX := Bx.mk (show fsame s (realX n b) = true from by rw [RX.out]; exact HS.out)
      have XL := Bx.mk (show realX n b < 18446744073709551616 from by rw [RX.out]; exact halfN_lt lx0 _)
      clear HS RX hq hin
      have F1 := fres_lt
      have F2 := Bx.mk F1
      have F3 := Bx.mk fworld_below
      clear F1
      rcases (by omega : k = 0 ∨ k = 1 ∨ k = 2 ∨ k = 3 ∨ k = 4 ∨ k = 5 ∨ 6 ≤ k) with rfl | rfl | rfl | rfl | rfl | rfl | hk6
      · go_wp2_with (first | (go_at_call 19; with_reducible refine (W2 _).mono ?_; rintro e w' ⟨rfl, rfl⟩) | (go_at_call 19; with_reducible refine (W3 _).mono ?_; rintro e w' ⟨rfl, rfl⟩) | (go_at_call 19; with_reducible refine (W4 _).mono ?_; rintro e w' ⟨rfl, rfl⟩) | (go_at_call 19; with_reducible refine (W5 _).mono ?_; rintro e w' ⟨rfl, rfl⟩))
        go_ret
        refine ⟨_, rfl, below_below BW (F3.out _ _ _ _), F2.out _ _ _ _, ?_⟩
        rw [RF.out, if_pos (by trivial)]
        have := fres_same .quo 0 0 wr
        rwa [show opF .quo 0 0 = 9221120237041090561 from by decide +kernel] at this
      · go_wp2_with (first | (go_at_call 19; with_reducible refine (W2 _).mono ?_; rintro e w' ⟨rfl, rfl⟩) | (go_at_call 19; with_reducible refine (W3 _).mono ?_; rintro e w' ⟨rfl, rfl⟩) | (go_at_call 19; with_reducible refine (W4 _).mono ?_; rintro e w' ⟨rfl, rfl⟩) | (go_at_call 19; with_reducible refine (W5 _).mono ?_; rintro e w' ⟨rfl, rfl⟩))
        go_ret
        refine ⟨_, rfl, below_below BW (F3.out _ _ _ _), F2.out _ _ _ _, ?_⟩
        rw [RF.out, if_neg (by decide), if_pos (by trivial)]
        have := fres_same .quo 4607182418800017408 0 wr
        rwa [show opF .quo 4607182418800017408 0 = 9218868437227405312 from by decide +kernel] at this
      · go_wp2_with (first | (go_at_call 19; with_reducible refine (W2 _).mono ?_; rintro e w' ⟨rfl, rfl⟩) | (go_at_call 19; with_reducible refine (W3 _).mono ?_; rintro e w' ⟨rfl, rfl⟩) | (go_at_call 19; with_reducible refine (W4 _).mono ?_; rintro e w' ⟨rfl, rfl⟩) | (go_at_call 19; with_reducible refine (W5 _).mono ?_; rintro e w' ⟨rfl, rfl⟩))
        go_ret
        refine ⟨_, rfl, below_below BW (below_below (F3.out _ _ _ _) (F3.out _ _ _ _)), F2.out _ _ _ _, ?_⟩
        rw [RF.out, if_neg (by decide), if_neg (by decide), if_pos (by trivial)]
        have h1 := fres_same .quo 4607182418800017408 0 wr
        have h2 := fres_congr (op := .sub) (x := 0) (x' := 0) (fworld .quo 4607182418800017408 0 wr) (by omega) (by omega) (F2.out _ _ _ _) (opF_lt _ _ _) (fsame_refl 0) h1
        rwa [show opF .sub 0 (opF .quo 4607182418800017408 0) = 18442240474082181120 from by decide +kernel] at h2
      · go_wp2_with (first | (go_at_call 19; with_reducible refine (W2 _).mono ?_; rintro e w' ⟨rfl, rfl⟩) | (go_at_call 19; with_reducible refine (W3 _).mono ?_; rintro e w' ⟨rfl, rfl⟩) | (go_at_call 19; with_reducible refine (W4 _).mono ?_; rintro e w' ⟨rfl, rfl⟩) | (go_at_call 19; with_reducible refine (W5 _).mono ?_; rintro e w' ⟨rfl, rfl⟩))
        go_ret
        refine ⟨_, rfl, below_below BW (below_below (F3.out _ _ _ _) (below_below (F3.out _ _ _ _) (below_below (F3.out _ _ _ _) (F3.out _ _ _ _)))), F2.out _ _ _ _, ?_⟩
        rw [RF.out, if_neg (by decide), if_neg (by decide), if_neg (by decide), if_pos (by trivial)]
        exact fres_congr _ (by omega) (by omega) (F2.out _ _ _ _) (opF_lt _ _ _) (fsame_refl 0) (fres_congr _ (F2.out _ _ _ _) (opF_lt _ _ _) (by omega) (by omega) (fres_congr _ (by omega) (by omega) (F2.out _ _ _ _) (opF_lt _ _ _) (fsame_refl 0) (fres_congr _ hs XL.out hs XL.out SX.out SX.out)) (fsame_refl _))
      · go_wp2_with (first | (go_at_call 19; with_reducible refine (W2 _).mono ?_; rintro e w' ⟨rfl, rfl⟩) | (go_at_call 19; with_reducible refine (W3 _).mono ?_; rintro e w' ⟨rfl, rfl⟩) | (go_at_call 19; with_reducible refine (W4 _).mono ?_; rintro e w' ⟨rfl, rfl⟩) | (go_at_call 19; with_reducible refine (W5 _).mono ?_; rintro e w' ⟨rfl, rfl⟩))
        go_ret
        refine ⟨_, rfl, below_below BW (below_below (F3.out _ _ _ _) (F3.out _ _ _ _)), F2.out _ _ _ _, ?_⟩
        rw [RF.out, if_neg (by decide), if_neg (by decide), if_neg (by decide), if_neg (by decide), if_pos (by trivial)]
        exact fres_congr _ (F2.out _ _ _ _) (opF_lt _ _ _) (by omega) (by omega) (fres_same _ _ _ _) (fsame_refl _)
      · have y2 : IntKind.i64.wrap (q5 - 1) = q5 - 1 := IntWalk.i64_in _ (by omega)
        go_wp2_with (first | (go_at_call 19; with_reducible refine (W2 _).mono ?_; rintro e w' ⟨rfl, rfl⟩) | (go_at_call 19; with_reducible refine (W3 _).mono ?_; rintro e w' ⟨rfl, rfl⟩) | (go_at_call 19; with_reducible refine (W4 _).mono ?_; rintro e w' ⟨rfl, rfl⟩) | (go_at_call 19; with_reducible refine (W5 _).mono ?_; rintro e w' ⟨rfl, rfl⟩))
        go_ret
        refine ⟨_, rfl, below_below BW (F3.out _ _ _ _), F2.out _ _ _ _, ?_⟩
        rw [RF.out, if_neg (by decide), if_neg (by decide), if_neg (by decide), if_neg (by decide), if_neg (by decide), if_pos (by trivial)]
        exact fres_same _ _ _ _
      · have e0 : (k == 0) = false := beq_false_of_ne (by omega)
        have e1 : (k == 1) = false := beq_false_of_ne (by omega)
        have e2 : (k == 2) = false := beq_false_of_ne (by omega)
        have e3 : (k == 3) = false := beq_false_of_ne (by omega)
        have e4 : (k == 4) = false := beq_false_of_ne (by omega)
        have e5 : (k == 5) = false := beq_false_of_ne (by omega)
        have RG := Bx.mk (show realF kind n b = realX n b from by
          rw [RF.out, if_neg (by omega), if_neg (by omega), if_neg (by omega), if_neg (by omega), if_neg (by omega), if_neg (by omega)])
        clear RF
        go_wp2_with (first | (go_at_call 19; with_reducible refine (W2 _).mono ?_; rintro e w' ⟨rfl, rfl⟩) | (go_at_call 19; with_reducible refine (W3 _).mono ?_; rintro e w' ⟨rfl, rfl⟩) | (go_at_call 19; with_reducible refine (W4 _).mono ?_; rintro e w' ⟨rfl, rfl⟩) | (go_at_call 19; with_reducible refine (W5 _).mono ?_; rintro e w' ⟨rfl, rfl⟩))
        go_ret
        exact ⟨_, rfl, BW, hs, by rw [RG.out]; exact SX.out⟩
end Go.Proofs.YtpggfgkajkgcoaaDoor
