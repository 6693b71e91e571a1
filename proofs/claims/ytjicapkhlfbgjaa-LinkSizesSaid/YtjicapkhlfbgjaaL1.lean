/- The walk of LinkSizes: it returns true, and writes nothing that was there. -/
import Derived.Test.YtjicapkhlfbgjaaSm
set_option linter.unusedVariables false
namespace Go.Proofs.Ytjicapkhlfbgjaa
open Go.RowKit

theorem rootA_in (m : Nat) (x : Int) (h0 : 0 ≤ x) (h1 : x < m) : rootA (zeros (-1) m) x = x := by
  have hv : isv (zeros (-1) m) x = true := isv_iff.2 ⟨h0, by rw [zeros_length]; exact h1⟩
  unfold rootA
  rw [if_pos hv]
  exact root_root h0 (by rw [zeros_length]; exact h1) (rd_zeros _ _ _ h0 h1)
theorem rootA_out (m : Nat) (x : Int) (h : x < 0 ∨ m ≤ x) : rootA (zeros (-1) m) x = -1 := by
  have hv : ¬ isv (zeros (-1) m) x = true := by
    rw [isv_iff, zeros_length]
    omega
  unfold rootA
  rw [if_neg hv]

set_option maxHeartbeats 1600000 in
theorem sizes_ax (n : Int) (v : Int) (hn : n < 0) (hw : 300 < (wi n 400)) (w : World) : Calls Try.prog 3 #[.int .i64 n, .int .i64 v] w fun e w' => e = .returned (.bool true) ∧ Below w.heap.size w w' := by
  have hw0 := wi_rng n 400 (by omega)
  obtain ⟨m, hm⟩ : ∃ m : Nat, (m : Int) = 0 := ⟨(0 : Int).toNat, by omega⟩
  obtain ⟨q, hq⟩ : ∃ q : Nat, (q : Int) = min (wi n 400) 300 := ⟨(min (wi n 400) 300 : Int).toNat, by omega⟩
  have A1 : (m : Int) ≤ 0 ∧ 0 ≤ (m : Int) := by omega
  have A2 : (q : Int) ≤ 300 ∧ 300 ≤ (q : Int) := by omega
  have D1 : (m : Int) = max 0 (min n 300) := by omega
  have D2 : (q : Int) = max 0 (min (wi n 400) 300) := by omega
  have E := Bx.mk (And.intro D1 D2)
  clear hm hq D1 D2
  obtain ⟨A1, A3⟩ := A1
  obtain ⟨A2, A4⟩ := A2
  have hz : ((300 : Int) == 0) = false := by decide
  go_enter Try.func3, Try.ntmps3
  go_wp2_with fail
  refine (known_any _).mono ?_
  rintro e w1 ⟨rfl, hB1⟩
  go_wp2_with fail
  refine (p_new n m E.out.1 _).mono ?_
  rintro e w2 ⟨g, rfl, hF, hB⟩
  have hB2 := below_below hB1 hB
  clear hB1 hB
  go_wp2_with fail
  refine (within_any n 400 (by omega) (by omega) _).mono ?_
  rintro e wv ⟨rfl, rfl⟩
  go_wp2_with fail
  refine (p_new (wi n 400) q E.out.2 _).mono ?_
  rintro e w4 ⟨g2, rfl, hG, hB⟩
  have hF4 := forest_kept hF hB
  have hB4 := below_below hB2 hB
  clear hF hB2 hB
  go_wp2_with fail
  refine (within_any n 400 (by omega) (by omega) _).mono ?_
  rintro e wv ⟨rfl, rfl⟩
  go_wp2_with fail
  refine (p_root 0 hF4 (good_zeros _)).mono ?_
  rintro e wr ⟨rfl, rfl⟩
  rw [rootA_out _ _ (by omega)]
  go_wp2_with fail
  refine (p_root (-1) hF4 (good_zeros _)).mono ?_
  rintro e wr ⟨rfl, rfl⟩
  rw [rootA_out _ _ (by omega)]
  go_wp2_with fail
  refine (p_root 300 hG (good_zeros _)).mono ?_
  rintro e wr ⟨rfl, rfl⟩
  rw [rootA_out _ _ (by omega)]
  go_wp2_with fail
  refine (p_root 299 hG (good_zeros _)).mono ?_
  rintro e wr ⟨rfl, rfl⟩
  rw [rootA_in _ _ (by omega) (by omega)]
  go_wp2
  go_ret
  exact ⟨rfl, hB4⟩
set_option maxHeartbeats 1600000 in
theorem sizes_ay (n : Int) (v : Int) (hn : n < 0) (hw : 0 < (wi n 400)) (hw2 : (wi n 400) ≤ 300) (w : World) : Calls Try.prog 3 #[.int .i64 n, .int .i64 v] w fun e w' => e = .returned (.bool true) ∧ Below w.heap.size w w' := by
  have hw0 := wi_rng n 400 (by omega)
  obtain ⟨m, hm⟩ : ∃ m : Nat, (m : Int) = 0 := ⟨(0 : Int).toNat, by omega⟩
  obtain ⟨q, hq⟩ : ∃ q : Nat, (q : Int) = min (wi n 400) 300 := ⟨(min (wi n 400) 300 : Int).toNat, by omega⟩
  have A1 : (m : Int) ≤ 0 ∧ 0 ≤ (m : Int) := by omega
  have A2 : (q : Int) ≤ (wi n 400) ∧ (wi n 400) ≤ (q : Int) := by omega
  have D1 : (m : Int) = max 0 (min n 300) := by omega
  have D2 : (q : Int) = max 0 (min (wi n 400) 300) := by omega
  have E := Bx.mk (And.intro D1 D2)
  clear hm hq D1 D2
  obtain ⟨A1, A3⟩ := A1
  obtain ⟨A2, A4⟩ := A2
  have hz : ((wi n 400) == 0) = false := by simp; omega
  go_enter Try.func3, Try.ntmps3
  go_wp2_with fail
  refine (known_any _).mono ?_
  rintro e w1 ⟨rfl, hB1⟩
  go_wp2_with fail
  refine (p_new n m E.out.1 _).mono ?_
  rintro e w2 ⟨g, rfl, hF, hB⟩
  have hB2 := below_below hB1 hB
  clear hB1 hB
  go_wp2_with fail
  refine (within_any n 400 (by omega) (by omega) _).mono ?_
  rintro e wv ⟨rfl, rfl⟩
  go_wp2_with fail
  refine (p_new (wi n 400) q E.out.2 _).mono ?_
  rintro e w4 ⟨g2, rfl, hG, hB⟩
  have hF4 := forest_kept hF hB
  have hB4 := below_below hB2 hB
  clear hF hB2 hB
  go_wp2_with fail
  refine (within_any n 400 (by omega) (by omega) _).mono ?_
  rintro e wv ⟨rfl, rfl⟩
  go_wp2_with fail
  refine (p_root 0 hF4 (good_zeros _)).mono ?_
  rintro e wr ⟨rfl, rfl⟩
  rw [rootA_out _ _ (by omega)]
  go_wp2_with fail
  refine (p_root (-1) hF4 (good_zeros _)).mono ?_
  rintro e wr ⟨rfl, rfl⟩
  rw [rootA_out _ _ (by omega)]
  go_wp2_with fail
  refine (p_root (wi n 400) hG (good_zeros _)).mono ?_
  rintro e wr ⟨rfl, rfl⟩
  rw [rootA_out _ _ (by omega)]
  go_wp2_with fail
  refine (p_root ((wi n 400) - 1) hG (good_zeros _)).mono ?_
  rintro e wr ⟨rfl, rfl⟩
  rw [rootA_in _ _ (by omega) (by omega)]
  go_wp2
  go_ret
  exact ⟨rfl, hB4⟩
set_option maxHeartbeats 1600000 in
theorem sizes_az (n : Int) (v : Int) (hn : n < 0) (hw : (wi n 400) = 0) (w : World) : Calls Try.prog 3 #[.int .i64 n, .int .i64 v] w fun e w' => e = .returned (.bool true) ∧ Below w.heap.size w w' := by
  have hw0 := wi_rng n 400 (by omega)
  obtain ⟨m, hm⟩ : ∃ m : Nat, (m : Int) = 0 := ⟨(0 : Int).toNat, by omega⟩
  obtain ⟨q, hq⟩ : ∃ q : Nat, (q : Int) = min (wi n 400) 300 := ⟨(min (wi n 400) 300 : Int).toNat, by omega⟩
  have A1 : (m : Int) ≤ 0 ∧ 0 ≤ (m : Int) := by omega
  have A2 : (q : Int) ≤ (wi n 400) ∧ (wi n 400) ≤ (q : Int) := by omega
  have D1 : (m : Int) = max 0 (min n 300) := by omega
  have D2 : (q : Int) = max 0 (min (wi n 400) 300) := by omega
  have E := Bx.mk (And.intro D1 D2)
  clear hm hq D1 D2
  obtain ⟨A1, A3⟩ := A1
  obtain ⟨A2, A4⟩ := A2
  have hz : ((wi n 400) == 0) = true := by simpa using hw
  have hw1 : (wi n 400) ≤ 0 := by omega
  clear hw
  go_enter Try.func3, Try.ntmps3
  go_wp2_with fail
  refine (known_any _).mono ?_
  rintro e w1 ⟨rfl, hB1⟩
  go_wp2_with fail
  refine (p_new n m E.out.1 _).mono ?_
  rintro e w2 ⟨g, rfl, hF, hB⟩
  have hB2 := below_below hB1 hB
  clear hB1 hB
  go_wp2_with fail
  refine (within_any n 400 (by omega) (by omega) _).mono ?_
  rintro e wv ⟨rfl, rfl⟩
  go_wp2_with fail
  refine (p_new (wi n 400) q E.out.2 _).mono ?_
  rintro e w4 ⟨g2, rfl, hG, hB⟩
  have hF4 := forest_kept hF hB
  have hB4 := below_below hB2 hB
  clear hF hB2 hB
  go_wp2_with fail
  refine (within_any n 400 (by omega) (by omega) _).mono ?_
  rintro e wv ⟨rfl, rfl⟩
  go_wp2_with fail
  refine (p_root 0 hF4 (good_zeros _)).mono ?_
  rintro e wr ⟨rfl, rfl⟩
  rw [rootA_out _ _ (by omega)]
  go_wp2_with fail
  refine (p_root (-1) hF4 (good_zeros _)).mono ?_
  rintro e wr ⟨rfl, rfl⟩
  rw [rootA_out _ _ (by omega)]
  go_wp2_with fail
  refine (p_root (wi n 400) hG (good_zeros _)).mono ?_
  rintro e wr ⟨rfl, rfl⟩
  rw [rootA_out _ _ (by omega)]
  go_wp2
  go_ret
  exact ⟨rfl, hB4⟩
set_option maxHeartbeats 1600000 in
theorem sizes_bz (v : Int)  (hw : (wi 0 400) = 0) (w : World) : Calls Try.prog 3 #[.int .i64 0, .int .i64 v] w fun e w' => e = .returned (.bool true) ∧ Below w.heap.size w w' := by
  have hw0 := wi_rng 0 400 (by omega)
  obtain ⟨m, hm⟩ : ∃ m : Nat, (m : Int) = 0 := ⟨(0 : Int).toNat, by omega⟩
  obtain ⟨q, hq⟩ : ∃ q : Nat, (q : Int) = min (wi 0 400) 300 := ⟨(min (wi 0 400) 300 : Int).toNat, by omega⟩
  have A1 : (m : Int) ≤ 0 ∧ 0 ≤ (m : Int) := by omega
  have A2 : (q : Int) ≤ (wi 0 400) ∧ (wi 0 400) ≤ (q : Int) := by omega
  have D1 : (m : Int) = max 0 (min 0 300) := by omega
  have D2 : (q : Int) = max 0 (min (wi 0 400) 300) := by omega
  have E := Bx.mk (And.intro D1 D2)
  clear hm hq D1 D2
  obtain ⟨A1, A3⟩ := A1
  obtain ⟨A2, A4⟩ := A2
  have hz : ((wi 0 400) == 0) = true := by simpa using hw
  have hw1 : (wi 0 400) ≤ 0 := by omega
  clear hw
  go_enter Try.func3, Try.ntmps3
  go_wp2_with fail
  refine (known_any _).mono ?_
  rintro e w1 ⟨rfl, hB1⟩
  go_wp2_with fail
  refine (p_new 0 m E.out.1 _).mono ?_
  rintro e w2 ⟨g, rfl, hF, hB⟩
  have hB2 := below_below hB1 hB
  clear hB1 hB
  go_wp2_with fail
  refine (within_any 0 400 (by omega) (by omega) _).mono ?_
  rintro e wv ⟨rfl, rfl⟩
  go_wp2_with fail
  refine (p_new (wi 0 400) q E.out.2 _).mono ?_
  rintro e w4 ⟨g2, rfl, hG, hB⟩
  have hF4 := forest_kept hF hB
  have hB4 := below_below hB2 hB
  clear hF hB2 hB
  go_wp2_with fail
  refine (within_any 0 400 (by omega) (by omega) _).mono ?_
  rintro e wv ⟨rfl, rfl⟩
  go_wp2_with fail
  refine (p_root 0 hF4 (good_zeros _)).mono ?_
  rintro e wr ⟨rfl, rfl⟩
  rw [rootA_out _ _ (by omega)]
  go_wp2_with fail
  refine (p_root (-1) hF4 (good_zeros _)).mono ?_
  rintro e wr ⟨rfl, rfl⟩
  rw [rootA_out _ _ (by omega)]
  go_wp2_with fail
  refine (p_root (wi 0 400) hG (good_zeros _)).mono ?_
  rintro e wr ⟨rfl, rfl⟩
  rw [rootA_out _ _ (by omega)]
  go_wp2
  go_ret
  exact ⟨rfl, hB4⟩
set_option maxHeartbeats 1600000 in
theorem sizes_cx (n : Int) (v : Int) (hn : 0 < n) (hn2 : n ≤ 300) (hw : 300 < (wi n 400)) (w : World) : Calls Try.prog 3 #[.int .i64 n, .int .i64 v] w fun e w' => e = .returned (.bool true) ∧ Below w.heap.size w w' := by
  have hw0 := wi_rng n 400 (by omega)
  obtain ⟨m, hm⟩ : ∃ m : Nat, (m : Int) = n := ⟨(n : Int).toNat, by omega⟩
  obtain ⟨q, hq⟩ : ∃ q : Nat, (q : Int) = min (wi n 400) 300 := ⟨(min (wi n 400) 300 : Int).toNat, by omega⟩
  have A1 : (m : Int) ≤ n ∧ n ≤ (m : Int) := by omega
  have A2 : (q : Int) ≤ 300 ∧ 300 ≤ (q : Int) := by omega
  have D1 : (m : Int) = max 0 (min n 300) := by omega
  have D2 : (q : Int) = max 0 (min (wi n 400) 300) := by omega
  have E := Bx.mk (And.intro D1 D2)
  clear hm hq D1 D2
  obtain ⟨A1, A3⟩ := A1
  obtain ⟨A2, A4⟩ := A2
  have hz : ((300 : Int) == 0) = false := by decide
  go_enter Try.func3, Try.ntmps3
  go_wp2_with fail
  refine (known_any _).mono ?_
  rintro e w1 ⟨rfl, hB1⟩
  go_wp2_with fail
  refine (p_new n m E.out.1 _).mono ?_
  rintro e w2 ⟨g, rfl, hF, hB⟩
  have hB2 := below_below hB1 hB
  clear hB1 hB
  go_wp2_with fail
  refine (within_any n 400 (by omega) (by omega) _).mono ?_
  rintro e wv ⟨rfl, rfl⟩
  go_wp2_with fail
  refine (p_new (wi n 400) q E.out.2 _).mono ?_
  rintro e w4 ⟨g2, rfl, hG, hB⟩
  have hF4 := forest_kept hF hB
  have hB4 := below_below hB2 hB
  clear hF hB2 hB
  have hv0 := wi_rng v n (by omega)
  have hkz : ((n : Int) == 0) = false := by simp; omega
  go_wp2_with fail
  refine (within_any v n (by omega) (by omega) _).mono ?_
  rintro e wv ⟨rfl, rfl⟩
  go_wp2_with fail
  refine (within_any n 400 (by omega) (by omega) _).mono ?_
  rintro e wv ⟨rfl, rfl⟩
  go_wp2_with fail
  refine (p_root n hF4 (good_zeros _)).mono ?_
  rintro e wr ⟨rfl, rfl⟩
  rw [rootA_out _ _ (by omega)]
  go_wp2_with fail
  refine (p_root (-1) hF4 (good_zeros _)).mono ?_
  rintro e wr ⟨rfl, rfl⟩
  rw [rootA_out _ _ (by omega)]
  go_wp2_with fail
  refine (p_root (wi v n) hF4 (good_zeros _)).mono ?_
  rintro e wr ⟨rfl, rfl⟩
  rw [rootA_in _ _ (by omega) (by omega)]
  go_wp2_with fail
  refine (p_root (n - 1) hF4 (good_zeros _)).mono ?_
  rintro e wr ⟨rfl, rfl⟩
  rw [rootA_in _ _ (by omega) (by omega)]
  go_wp2_with fail
  refine (p_root 300 hG (good_zeros _)).mono ?_
  rintro e wr ⟨rfl, rfl⟩
  rw [rootA_out _ _ (by omega)]
  go_wp2_with fail
  refine (p_root 299 hG (good_zeros _)).mono ?_
  rintro e wr ⟨rfl, rfl⟩
  rw [rootA_in _ _ (by omega) (by omega)]
  go_wp2
  go_ret
  exact ⟨rfl, hB4⟩
set_option maxHeartbeats 1600000 in
theorem sizes_cy (n : Int) (v : Int) (hn : 0 < n) (hn2 : n ≤ 300) (hw : 0 < (wi n 400)) (hw2 : (wi n 400) ≤ 300) (w : World) : Calls Try.prog 3 #[.int .i64 n, .int .i64 v] w fun e w' => e = .returned (.bool true) ∧ Below w.heap.size w w' := by
  have hw0 := wi_rng n 400 (by omega)
  obtain ⟨m, hm⟩ : ∃ m : Nat, (m : Int) = n := ⟨(n : Int).toNat, by omega⟩
  obtain ⟨q, hq⟩ : ∃ q : Nat, (q : Int) = min (wi n 400) 300 := ⟨(min (wi n 400) 300 : Int).toNat, by omega⟩
  have A1 : (m : Int) ≤ n ∧ n ≤ (m : Int) := by omega
  have A2 : (q : Int) ≤ (wi n 400) ∧ (wi n 400) ≤ (q : Int) := by omega
  have D1 : (m : Int) = max 0 (min n 300) := by omega
  have D2 : (q : Int) = max 0 (min (wi n 400) 300) := by omega
  have E := Bx.mk (And.intro D1 D2)
  clear hm hq D1 D2
  obtain ⟨A1, A3⟩ := A1
  obtain ⟨A2, A4⟩ := A2
  have hz : ((wi n 400) == 0) = false := by simp; omega
  go_enter Try.func3, Try.ntmps3
  go_wp2_with fail
  refine (known_any _).mono ?_
  rintro e w1 ⟨rfl, hB1⟩
  go_wp2_with fail
  refine (p_new n m E.out.1 _).mono ?_
  rintro e w2 ⟨g, rfl, hF, hB⟩
  have hB2 := below_below hB1 hB
  clear hB1 hB
  go_wp2_with fail
  refine (within_any n 400 (by omega) (by omega) _).mono ?_
  rintro e wv ⟨rfl, rfl⟩
  go_wp2_with fail
  refine (p_new (wi n 400) q E.out.2 _).mono ?_
  rintro e w4 ⟨g2, rfl, hG, hB⟩
  have hF4 := forest_kept hF hB
  have hB4 := below_below hB2 hB
  clear hF hB2 hB
  have hv0 := wi_rng v n (by omega)
  have hkz : ((n : Int) == 0) = false := by simp; omega
  go_wp2_with fail
  refine (within_any v n (by omega) (by omega) _).mono ?_
  rintro e wv ⟨rfl, rfl⟩
  go_wp2_with fail
  refine (within_any n 400 (by omega) (by omega) _).mono ?_
  rintro e wv ⟨rfl, rfl⟩
  go_wp2_with fail
  refine (p_root n hF4 (good_zeros _)).mono ?_
  rintro e wr ⟨rfl, rfl⟩
  rw [rootA_out _ _ (by omega)]
  go_wp2_with fail
  refine (p_root (-1) hF4 (good_zeros _)).mono ?_
  rintro e wr ⟨rfl, rfl⟩
  rw [rootA_out _ _ (by omega)]
  go_wp2_with fail
  refine (p_root (wi v n) hF4 (good_zeros _)).mono ?_
  rintro e wr ⟨rfl, rfl⟩
  rw [rootA_in _ _ (by omega) (by omega)]
  go_wp2_with fail
  refine (p_root (n - 1) hF4 (good_zeros _)).mono ?_
  rintro e wr ⟨rfl, rfl⟩
  rw [rootA_in _ _ (by omega) (by omega)]
  go_wp2_with fail
  refine (p_root (wi n 400) hG (good_zeros _)).mono ?_
  rintro e wr ⟨rfl, rfl⟩
  rw [rootA_out _ _ (by omega)]
  go_wp2_with fail
  refine (p_root ((wi n 400) - 1) hG (good_zeros _)).mono ?_
  rintro e wr ⟨rfl, rfl⟩
  rw [rootA_in _ _ (by omega) (by omega)]
  go_wp2
  go_ret
  exact ⟨rfl, hB4⟩
set_option maxHeartbeats 1600000 in
theorem sizes_cz (n : Int) (v : Int) (hn : 0 < n) (hn2 : n ≤ 300) (hw : (wi n 400) = 0) (w : World) : Calls Try.prog 3 #[.int .i64 n, .int .i64 v] w fun e w' => e = .returned (.bool true) ∧ Below w.heap.size w w' := by
  have hw0 := wi_rng n 400 (by omega)
  obtain ⟨m, hm⟩ : ∃ m : Nat, (m : Int) = n := ⟨(n : Int).toNat, by omega⟩
  obtain ⟨q, hq⟩ : ∃ q : Nat, (q : Int) = min (wi n 400) 300 := ⟨(min (wi n 400) 300 : Int).toNat, by omega⟩
  have A1 : (m : Int) ≤ n ∧ n ≤ (m : Int) := by omega
  have A2 : (q : Int) ≤ (wi n 400) ∧ (wi n 400) ≤ (q : Int) := by omega
  have D1 : (m : Int) = max 0 (min n 300) := by omega
  have D2 : (q : Int) = max 0 (min (wi n 400) 300) := by omega
  have E := Bx.mk (And.intro D1 D2)
  clear hm hq D1 D2
  obtain ⟨A1, A3⟩ := A1
  obtain ⟨A2, A4⟩ := A2
  have hz : ((wi n 400) == 0) = true := by simpa using hw
  have hw1 : (wi n 400) ≤ 0 := by omega
  clear hw
  go_enter Try.func3, Try.ntmps3
  go_wp2_with fail
  refine (known_any _).mono ?_
  rintro e w1 ⟨rfl, hB1⟩
  go_wp2_with fail
  refine (p_new n m E.out.1 _).mono ?_
  rintro e w2 ⟨g, rfl, hF, hB⟩
  have hB2 := below_below hB1 hB
  clear hB1 hB
  go_wp2_with fail
  refine (within_any n 400 (by omega) (by omega) _).mono ?_
  rintro e wv ⟨rfl, rfl⟩
  go_wp2_with fail
  refine (p_new (wi n 400) q E.out.2 _).mono ?_
  rintro e w4 ⟨g2, rfl, hG, hB⟩
  have hF4 := forest_kept hF hB
  have hB4 := below_below hB2 hB
  clear hF hB2 hB
  have hv0 := wi_rng v n (by omega)
  have hkz : ((n : Int) == 0) = false := by simp; omega
  go_wp2_with fail
  refine (within_any v n (by omega) (by omega) _).mono ?_
  rintro e wv ⟨rfl, rfl⟩
  go_wp2_with fail
  refine (within_any n 400 (by omega) (by omega) _).mono ?_
  rintro e wv ⟨rfl, rfl⟩
  go_wp2_with fail
  refine (p_root n hF4 (good_zeros _)).mono ?_
  rintro e wr ⟨rfl, rfl⟩
  rw [rootA_out _ _ (by omega)]
  go_wp2_with fail
  refine (p_root (-1) hF4 (good_zeros _)).mono ?_
  rintro e wr ⟨rfl, rfl⟩
  rw [rootA_out _ _ (by omega)]
  go_wp2_with fail
  refine (p_root (wi v n) hF4 (good_zeros _)).mono ?_
  rintro e wr ⟨rfl, rfl⟩
  rw [rootA_in _ _ (by omega) (by omega)]
  go_wp2_with fail
  refine (p_root (n - 1) hF4 (good_zeros _)).mono ?_
  rintro e wr ⟨rfl, rfl⟩
  rw [rootA_in _ _ (by omega) (by omega)]
  go_wp2_with fail
  refine (p_root (wi n 400) hG (good_zeros _)).mono ?_
  rintro e wr ⟨rfl, rfl⟩
  rw [rootA_out _ _ (by omega)]
  go_wp2
  go_ret
  exact ⟨rfl, hB4⟩
set_option maxHeartbeats 1600000 in
theorem sizes_dx (n : Int) (v : Int) (hn : 300 < n) (hw : 300 < (wi n 400)) (w : World) : Calls Try.prog 3 #[.int .i64 n, .int .i64 v] w fun e w' => e = .returned (.bool true) ∧ Below w.heap.size w w' := by
  have hw0 := wi_rng n 400 (by omega)
  obtain ⟨m, hm⟩ : ∃ m : Nat, (m : Int) = 300 := ⟨(300 : Int).toNat, by omega⟩
  obtain ⟨q, hq⟩ : ∃ q : Nat, (q : Int) = min (wi n 400) 300 := ⟨(min (wi n 400) 300 : Int).toNat, by omega⟩
  have A1 : (m : Int) ≤ 300 ∧ 300 ≤ (m : Int) := by omega
  have A2 : (q : Int) ≤ 300 ∧ 300 ≤ (q : Int) := by omega
  have D1 : (m : Int) = max 0 (min n 300) := by omega
  have D2 : (q : Int) = max 0 (min (wi n 400) 300) := by omega
  have E := Bx.mk (And.intro D1 D2)
  clear hm hq D1 D2
  obtain ⟨A1, A3⟩ := A1
  obtain ⟨A2, A4⟩ := A2
  have hz : ((300 : Int) == 0) = false := by decide
  go_enter Try.func3, Try.ntmps3
  go_wp2_with fail
  refine (known_any _).mono ?_
  rintro e w1 ⟨rfl, hB1⟩
  go_wp2_with fail
  refine (p_new n m E.out.1 _).mono ?_
  rintro e w2 ⟨g, rfl, hF, hB⟩
  have hB2 := below_below hB1 hB
  clear hB1 hB
  go_wp2_with fail
  refine (within_any n 400 (by omega) (by omega) _).mono ?_
  rintro e wv ⟨rfl, rfl⟩
  go_wp2_with fail
  refine (p_new (wi n 400) q E.out.2 _).mono ?_
  rintro e w4 ⟨g2, rfl, hG, hB⟩
  have hF4 := forest_kept hF hB
  have hB4 := below_below hB2 hB
  clear hF hB2 hB
  have hv0 := wi_rng v 300 (by omega)
  have hkz : ((300 : Int) == 0) = false := by simp
  go_wp2_with fail
  refine (within_any v 300 (by omega) (by omega) _).mono ?_
  rintro e wv ⟨rfl, rfl⟩
  go_wp2_with fail
  refine (within_any n 400 (by omega) (by omega) _).mono ?_
  rintro e wv ⟨rfl, rfl⟩
  go_wp2_with fail
  refine (p_root 300 hF4 (good_zeros _)).mono ?_
  rintro e wr ⟨rfl, rfl⟩
  rw [rootA_out _ _ (by omega)]
  go_wp2_with fail
  refine (p_root (-1) hF4 (good_zeros _)).mono ?_
  rintro e wr ⟨rfl, rfl⟩
  rw [rootA_out _ _ (by omega)]
  go_wp2_with fail
  refine (p_root (wi v 300) hF4 (good_zeros _)).mono ?_
  rintro e wr ⟨rfl, rfl⟩
  rw [rootA_in _ _ (by omega) (by omega)]
  go_wp2_with fail
  refine (p_root 299 hF4 (good_zeros _)).mono ?_
  rintro e wr ⟨rfl, rfl⟩
  rw [rootA_in _ _ (by omega) (by omega)]
  go_wp2_with fail
  refine (p_root 300 hG (good_zeros _)).mono ?_
  rintro e wr ⟨rfl, rfl⟩
  rw [rootA_out _ _ (by omega)]
  go_wp2_with fail
  refine (p_root 299 hG (good_zeros _)).mono ?_
  rintro e wr ⟨rfl, rfl⟩
  rw [rootA_in _ _ (by omega) (by omega)]
  go_wp2
  go_ret
  exact ⟨rfl, hB4⟩
set_option maxHeartbeats 1600000 in
theorem sizes_dy (n : Int) (v : Int) (hn : 300 < n) (hw : 0 < (wi n 400)) (hw2 : (wi n 400) ≤ 300) (w : World) : Calls Try.prog 3 #[.int .i64 n, .int .i64 v] w fun e w' => e = .returned (.bool true) ∧ Below w.heap.size w w' := by
  have hw0 := wi_rng n 400 (by omega)
  obtain ⟨m, hm⟩ : ∃ m : Nat, (m : Int) = 300 := ⟨(300 : Int).toNat, by omega⟩
  obtain ⟨q, hq⟩ : ∃ q : Nat, (q : Int) = min (wi n 400) 300 := ⟨(min (wi n 400) 300 : Int).toNat, by omega⟩
  have A1 : (m : Int) ≤ 300 ∧ 300 ≤ (m : Int) := by omega
  have A2 : (q : Int) ≤ (wi n 400) ∧ (wi n 400) ≤ (q : Int) := by omega
  have D1 : (m : Int) = max 0 (min n 300) := by omega
  have D2 : (q : Int) = max 0 (min (wi n 400) 300) := by omega
  have E := Bx.mk (And.intro D1 D2)
  clear hm hq D1 D2
  obtain ⟨A1, A3⟩ := A1
  obtain ⟨A2, A4⟩ := A2
  have hz : ((wi n 400) == 0) = false := by simp; omega
  go_enter Try.func3, Try.ntmps3
  go_wp2_with fail
  refine (known_any _).mono ?_
  rintro e w1 ⟨rfl, hB1⟩
  go_wp2_with fail
  refine (p_new n m E.out.1 _).mono ?_
  rintro e w2 ⟨g, rfl, hF, hB⟩
  have hB2 := below_below hB1 hB
  clear hB1 hB
  go_wp2_with fail
  refine (within_any n 400 (by omega) (by omega) _).mono ?_
  rintro e wv ⟨rfl, rfl⟩
  go_wp2_with fail
  refine (p_new (wi n 400) q E.out.2 _).mono ?_
  rintro e w4 ⟨g2, rfl, hG, hB⟩
  have hF4 := forest_kept hF hB
  have hB4 := below_below hB2 hB
  clear hF hB2 hB
  have hv0 := wi_rng v 300 (by omega)
  have hkz : ((300 : Int) == 0) = false := by simp
  go_wp2_with fail
  refine (within_any v 300 (by omega) (by omega) _).mono ?_
  rintro e wv ⟨rfl, rfl⟩
  go_wp2_with fail
  refine (within_any n 400 (by omega) (by omega) _).mono ?_
  rintro e wv ⟨rfl, rfl⟩
  go_wp2_with fail
  refine (p_root 300 hF4 (good_zeros _)).mono ?_
  rintro e wr ⟨rfl, rfl⟩
  rw [rootA_out _ _ (by omega)]
  go_wp2_with fail
  refine (p_root (-1) hF4 (good_zeros _)).mono ?_
  rintro e wr ⟨rfl, rfl⟩
  rw [rootA_out _ _ (by omega)]
  go_wp2_with fail
  refine (p_root (wi v 300) hF4 (good_zeros _)).mono ?_
  rintro e wr ⟨rfl, rfl⟩
  rw [rootA_in _ _ (by omega) (by omega)]
  go_wp2_with fail
  refine (p_root 299 hF4 (good_zeros _)).mono ?_
  rintro e wr ⟨rfl, rfl⟩
  rw [rootA_in _ _ (by omega) (by omega)]
  go_wp2_with fail
  refine (p_root (wi n 400) hG (good_zeros _)).mono ?_
  rintro e wr ⟨rfl, rfl⟩
  rw [rootA_out _ _ (by omega)]
  go_wp2_with fail
  refine (p_root ((wi n 400) - 1) hG (good_zeros _)).mono ?_
  rintro e wr ⟨rfl, rfl⟩
  rw [rootA_in _ _ (by omega) (by omega)]
  go_wp2
  go_ret
  exact ⟨rfl, hB4⟩
set_option maxHeartbeats 1600000 in
theorem sizes_dz (n : Int) (v : Int) (hn : 300 < n) (hw : (wi n 400) = 0) (w : World) : Calls Try.prog 3 #[.int .i64 n, .int .i64 v] w fun e w' => e = .returned (.bool true) ∧ Below w.heap.size w w' := by
  have hw0 := wi_rng n 400 (by omega)
  obtain ⟨m, hm⟩ : ∃ m : Nat, (m : Int) = 300 := ⟨(300 : Int).toNat, by omega⟩
  obtain ⟨q, hq⟩ : ∃ q : Nat, (q : Int) = min (wi n 400) 300 := ⟨(min (wi n 400) 300 : Int).toNat, by omega⟩
  have A1 : (m : Int) ≤ 300 ∧ 300 ≤ (m : Int) := by omega
  have A2 : (q : Int) ≤ (wi n 400) ∧ (wi n 400) ≤ (q : Int) := by omega
  have D1 : (m : Int) = max 0 (min n 300) := by omega
  have D2 : (q : Int) = max 0 (min (wi n 400) 300) := by omega
  have E := Bx.mk (And.intro D1 D2)
  clear hm hq D1 D2
  obtain ⟨A1, A3⟩ := A1
  obtain ⟨A2, A4⟩ := A2
  have hz : ((wi n 400) == 0) = true := by simpa using hw
  have hw1 : (wi n 400) ≤ 0 := by omega
  clear hw
  go_enter Try.func3, Try.ntmps3
  go_wp2_with fail
  refine (known_any _).mono ?_
  rintro e w1 ⟨rfl, hB1⟩
  go_wp2_with fail
  refine (p_new n m E.out.1 _).mono ?_
  rintro e w2 ⟨g, rfl, hF, hB⟩
  have hB2 := below_below hB1 hB
  clear hB1 hB
  go_wp2_with fail
  refine (within_any n 400 (by omega) (by omega) _).mono ?_
  rintro e wv ⟨rfl, rfl⟩
  go_wp2_with fail
  refine (p_new (wi n 400) q E.out.2 _).mono ?_
  rintro e w4 ⟨g2, rfl, hG, hB⟩
  have hF4 := forest_kept hF hB
  have hB4 := below_below hB2 hB
  clear hF hB2 hB
  have hv0 := wi_rng v 300 (by omega)
  have hkz : ((300 : Int) == 0) = false := by simp
  go_wp2_with fail
  refine (within_any v 300 (by omega) (by omega) _).mono ?_
  rintro e wv ⟨rfl, rfl⟩
  go_wp2_with fail
  refine (within_any n 400 (by omega) (by omega) _).mono ?_
  rintro e wv ⟨rfl, rfl⟩
  go_wp2_with fail
  refine (p_root 300 hF4 (good_zeros _)).mono ?_
  rintro e wr ⟨rfl, rfl⟩
  rw [rootA_out _ _ (by omega)]
  go_wp2_with fail
  refine (p_root (-1) hF4 (good_zeros _)).mono ?_
  rintro e wr ⟨rfl, rfl⟩
  rw [rootA_out _ _ (by omega)]
  go_wp2_with fail
  refine (p_root (wi v 300) hF4 (good_zeros _)).mono ?_
  rintro e wr ⟨rfl, rfl⟩
  rw [rootA_in _ _ (by omega) (by omega)]
  go_wp2_with fail
  refine (p_root 299 hF4 (good_zeros _)).mono ?_
  rintro e wr ⟨rfl, rfl⟩
  rw [rootA_in _ _ (by omega) (by omega)]
  go_wp2_with fail
  refine (p_root (wi n 400) hG (good_zeros _)).mono ?_
  rintro e wr ⟨rfl, rfl⟩
  rw [rootA_out _ _ (by omega)]
  go_wp2
  go_ret
  exact ⟨rfl, hB4⟩
theorem sizes_walk (n v : Int) (w : World) : Calls Try.prog 3 #[.int .i64 n, .int .i64 v] w fun e w' => e = .returned (.bool true) ∧ Below w.heap.size w w' := by
  have hw0 := wi_rng n 400 (by omega)
  rcases Int.lt_or_le 300 (wi n 400) with hx | hx
  · rcases Int.lt_or_le n 0 with h | h
    · exact sizes_ax n v h hx w
    · rcases Int.lt_or_le 300 n with k | k
      · exact sizes_dx n v k hx w
      · rcases Int.lt_or_le 0 n with p | p
        · exact sizes_cx n v p k hx w
        · obtain rfl : n = 0 := by omega
          exact sizes_bz v (by decide) w
  · rcases Int.lt_or_le 0 (wi n 400) with hy | hy
    · rcases Int.lt_or_le n 0 with h | h
      · exact sizes_ay n v h hy hx w
      · rcases Int.lt_or_le 300 n with k | k
        · exact sizes_dy n v k hy hx w
        · rcases Int.lt_or_le 0 n with p | p
          · exact sizes_cy n v p k hy hx w
          · obtain rfl : n = 0 := by omega
            exact sizes_bz v (by decide) w
    · have hz : wi n 400 = 0 := by omega
      rcases Int.lt_or_le n 0 with h | h
      · exact sizes_az n v h hz w
      · rcases Int.lt_or_le 300 n with k | k
        · exact sizes_dz n v k hz w
        · rcases Int.lt_or_le 0 n with p | p
          · exact sizes_cz n v p k hz w
          · obtain rfl : n = 0 := by omega
            exact sizes_bz v (by decide) w
end Go.Proofs.Ytjicapkhlfbgjaa
