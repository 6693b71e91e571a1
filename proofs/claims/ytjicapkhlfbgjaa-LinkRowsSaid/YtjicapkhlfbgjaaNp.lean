/- The making of a forest by the program. -/
import Derived.Test.YtjicapkhlfbgjaaNew
import Derived.Deep.RegionWith
namespace Go.Proofs.Ytjicapkhlfbgjaa
open Go.RowKit

def zeros (x : Int) (m : Nat) : List Int := List.replicate m x
theorem zeros_length (x : Int) (m : Nat) : (zeros x m).length = m := by simp [zeros]
theorem rd_zeros (x : Int) (m : Nat) (v : Int) (h0 : 0 ≤ v) (h1 : v < m) : rd (zeros x m) v = x := by
  have : v.toNat < m := by omega
  simp [rd, zeros, List.getD_eq_getElem?_getD, this]
theorem good_zeros (m : Nat) : Good (zeros (-1) m) := by
  intro v h0 h1
  rw [zeros_length] at h1
  rcases Int.lt_or_le v 0 with h | h
  · obtain rfl : v = -1 := by omega
    exact ⟨_, .root⟩
  · exact ⟨_, root_self h (by rw [zeros_length]; exact h1) (rd_zeros _ _ _ h h1)⟩
/-- What a making leaves. -/
def Made (T : TypeId) (w : World) (m : Nat) (e : Ending) (w' : World) : Prop :=
  ∃ g, e = .returned (.pointer (some ⟨g, 0, none⟩)) ∧ Forest T w' w.heap.size w'.heap.size g m (zeros (-1) m) (zeros 0 m) ∧ Below w.heap.size w w'
theorem lt_of_heap {w : World} {k : Nat} {o : Obj} (h : w.heap[k]? = some o) : k < w.heap.size := (Array.getElem?_eq_some_iff.1 h).1
theorem old (w : World) (o : Obj) (k : Nat) (h : k < w.heap.size) : (w.alloc o).heap[k]? = w.heap[k]? := Below.heap_alloc w o k h
theorem own_of {w : World} {base g m : Nat} {cur : List Value} {x : Int} (hg : base ≤ g) (hb : w.heap[g]? = some (.cells cur.toArray 3 (0, 0))) (hm : m ≤ 300) (hf : Filled m m (.int .i64 x) cur) :
    w.ownsRow base 3 1 (.slice (some ⟨g, 0, none⟩) m m) m (nums (zeros x m)) := by
  refine ⟨by simp [nums, zeros], .inr ⟨g, m, cur.toArray, rfl, hg, hb, Nat.le_refl _, by unfold maxLen; omega, by simp [hf.1], ?_⟩⟩
  rw [hf.full]
  simp [nums, zeros]
theorem filled_made (m : Nat) : Filled m m (.int .i64 0) (madeCells #[Value.int .i64 0] m).toList := by
  refine ⟨madeLen _ _, fun j hj => ?_⟩
  have h1 : j < (madeCells #[Value.int .i64 0] m).toList.length := by rw [madeLen]; exact hj
  rw [List.getElem?_eq_getElem h1]
  simp [madeCells, Nat.mod_one]
theorem made_at {T : TypeId} {w w' : World} {g bu bw m : Nat} {cur cur2 : List Value} (hm : m ≤ 300) (hB : Below w.heap.size w w')
    (hx : w'.heap[g]? = some (.cells #[.slice (some ⟨bu, 0, none⟩) m m, .slice (some ⟨bw, 0, none⟩) m m] T (0, 0)))
    (hu : w'.heap[bu]? = some (.cells cur.toArray 3 (0, 0))) (hf : Filled m m (.int .i64 (-1)) cur) (hw : w'.heap[bw]? = some (.cells cur2.toArray 3 (0, 0))) (hf2 : Filled m m (.int .i64 0) cur2)
    (h1 : w.heap.size ≤ g) (h2 : w.heap.size ≤ bu) (h3 : w.heap.size ≤ bw) (n1 : bu ≠ bw) (n2 : g ≠ bu) (n3 : g ≠ bw) : Made T w m (.returned (.pointer (some ⟨g, 0, none⟩))) w' :=
  ⟨g, rfl, ⟨bu, bw, m, m, hx, own_of h2 hu hm hf, own_of h3 hw hm hf2, zeros_length _ _, zeros_length _ _, ⟨h1, h2, h3⟩, ⟨lt_of_heap hx, lt_of_heap hu, lt_of_heap hw⟩, ⟨n1, n2, n3⟩, Nat.le_refl _, by omega⟩, hB⟩
theorem below_of {w a w' : World} {B : Nat} (h : Below B w a) (k : Below a.heap.size a w') (hs : B ≤ a.heap.size) : Below B w w' := h.trans (k.mono hs)

/-- One order: Repeat, then make. -/
theorem close1 {w w1 : World} {m : Nat} (hm : m ≤ 300) {c : Array Value} (F : Below (w.alloc (.cells c 3)).drew.heap.size (w.alloc (.cells c 3)).drew w1 ∧ (w.alloc (.cells c 3)).drew.heap.size < w1.heap.size ∧
      ∃ cur : List Value, w1.heap[(w.alloc (.cells c 3)).drew.heap.size]? = some (.cells cur.toArray 3 (0, 0)) ∧ Filled m m (.int .i64 (-1)) cur) :
    Made 52 w m (.returned (.pointer (some ⟨w1.heap.size + 1, 0, none⟩))) ((w1.alloc (.cells (madeCells #[.int .i64 0] m) 3)).alloc (.cells #[.slice (some ⟨w.heap.size + 1, 0, none⟩) m m, .slice (some ⟨w1.heap.size, 0, none⟩) m m] 52)) := by
  obtain ⟨hB, hs, cur, hc, hf⟩ := F
  have e : (w.alloc (.cells c 3)).drew.heap.size = w.heap.size + 1 := by simp
  rw [e] at hs hc
  have hB1 : Below w.heap.size w w1 := below_of ((Below.refl _ w).alloc (Nat.le_refl _) _).drew hB (by rw [e]; omega)
  have s1 : ∀ o, (w1.alloc o).heap.size = w1.heap.size + 1 := fun o => by simp
  have hs' : w.heap.size + 1 < w1.heap.size := hs
  refine made_at (bu := w.heap.size + 1) (bw := w1.heap.size) (cur2 := (madeCells #[.int .i64 0] m).toList) hm ((hB1.alloc (by omega) _).alloc (by rw [s1]; omega) _) ?_ ?_ hf ?_ (filled_made m) (by omega) (by omega) (by omega) (by omega) (by omega) (by omega)
  · rw [← s1 (.cells (madeCells #[.int .i64 0] m) 3)]; exact heap_new _ _
  · rw [old _ _ _ (by rw [s1]; omega), old _ _ _ (by omega)]; exact hc
  · rw [old _ _ _ (by rw [s1]; omega), Array.toArray_toList]; exact heap_new _ _
/-- The other ones: make, then Repeat. -/
theorem close2 {w a w1 : World} {m bw : Nat} (hm : m ≤ 300) (ha : Below w.heap.size w a) (e : a.heap.size = w.heap.size + 1 + 1) (hbw : a.heap[bw]? = some (.cells (madeCells #[.int .i64 0] m) 3 (0, 0))) (hb1 : w.heap.size ≤ bw)
    (F : Below a.drew.heap.size a.drew w1 ∧ a.drew.heap.size < w1.heap.size ∧
      ∃ cur : List Value, w1.heap[a.drew.heap.size]? = some (.cells cur.toArray 3 (0, 0)) ∧ Filled m m (.int .i64 (-1)) cur) :
    Made 52 w m (.returned (.pointer (some ⟨w1.heap.size, 0, none⟩))) (w1.alloc (.cells #[.slice (some ⟨w.heap.size + 1 + 1, 0, none⟩) m m, .slice (some ⟨bw, 0, none⟩) m m] 52)) := by
  obtain ⟨hB, hs, cur, hc, hf⟩ := F
  have e' : a.drew.heap.size = w.heap.size + 1 + 1 := e
  have hlt := lt_of_heap hbw
  rw [e'] at hs hc
  have hB1 : Below w.heap.size w w1 := below_of ha.drew hB (by rw [e']; omega)
  refine made_at (cur2 := (madeCells #[.int .i64 0] m).toList) hm (hB1.alloc (by omega) _) (heap_new _ _) ?_ hf ?_ (filled_made m) (by omega) (by omega) (by omega) (by omega) (by omega) (by omega)
  · rw [old _ _ _ (by omega)]; exact hc
  · rw [old _ _ _ (by omega), Array.toArray_toList, hB.block bw (by rw [e']; omega)]; exact hbw

set_option maxHeartbeats 800000 in
theorem p_new_mid (m : Nat) (hm : m ≤ 300) (h0 : 0 < m) (w : World) : Calls Try.prog 13 #[.int .i64 m] w (Made 52 w m) := by
  have hmk : ∀ w : World, (Instr.makeSlice 28 (.int .i64 m) (.int .i64 m)).run Try.prog w = .ok (.slice (some ⟨w.heap.size, 0, none⟩) m m) (w.alloc (.cells (madeCells #[.int .i64 0] m) 3)) :=
    run_make_row' (P := Try.prog) 28 3 (.int .i64 0) 8 Try.underlying28 info3 rfl .i64 .i64 m (by omega) (by omega)
  have hrp : ∀ (b : Nat) (w : World), b < w.heap.size → w.cell? ⟨b, 0, none⟩ = some (.int .i64 (-1)) → Calls Try.prog 29 #[.slice (some ⟨b, 0, none⟩) 1 1, .int .i64 m] w _ := fun b w hb hc => repeat_any b m (-1) (by omega) w hb hc
  have R := Bx.mk hrp
  clear hrp
  go_enter Try.func13, Try.ntmps13
  go_wp2
  go_region_with (go_at_call 29; refine (R.out _ _ (by simp <;> omega) (by simp [go_sem])).mono ?_; rintro e w1 ⟨rfl, hF⟩; have F := Bx.mk hF; clear hF)
  all_goals go_wp2
  all_goals go_ret
  · exact close1 (by omega) F.out
  · exact close2 (by omega) (((Below.refl _ w).alloc (Nat.le_refl _) _).alloc (by simp) _) (by simp) (by rw [← show (w.alloc (.cells #[.int .i64 (-1)] 3)).heap.size = w.heap.size + 1 from by simp]; exact heap_new _ _) (by omega) F.out
  · exact close2 (by omega) (((Below.refl _ w).alloc (Nat.le_refl _) _).alloc (by simp) _) (by simp) (by rw [old _ _ _ (by simp)]; exact heap_new _ _) (Nat.le_refl _) F.out
set_option maxHeartbeats 800000 in
theorem p_new_low (v : Int) (hv : v ≤ 0) (w : World) : Calls Try.prog 13 #[.int .i64 v] w (Made 52 w 0) := by
  have hmk : ∀ w : World, (Instr.makeSlice 28 (.int .i64 0) (.int .i64 0)).run Try.prog w = .ok (.slice (some ⟨w.heap.size, 0, none⟩) 0 0) (w.alloc (.cells (madeCells #[.int .i64 0] 0) 3)) :=
    run_make_row' (P := Try.prog) 28 3 (.int .i64 0) 8 Try.underlying28 info3 rfl .i64 .i64 0 (by omega) (by omega)
  have hrp : ∀ (b : Nat) (w : World), b < w.heap.size → w.cell? ⟨b, 0, none⟩ = some (.int .i64 (-1)) → Calls Try.prog 29 #[.slice (some ⟨b, 0, none⟩) 1 1, .int .i64 0] w _ := fun b w hb hc => repeat_any b 0 (-1) (by omega) w hb hc
  have R := Bx.mk hrp
  clear hrp
  go_enter Try.func13, Try.ntmps13
  go_wp2
  go_region_with (go_at_call 29; refine (R.out _ _ (by simp <;> omega) (by simp [go_sem])).mono ?_; rintro e w1 ⟨rfl, hF⟩; have F := Bx.mk hF; clear hF)
  all_goals go_wp2
  all_goals go_ret
  · exact close1 (by omega) F.out
  · exact close2 (by omega) (((Below.refl _ w).alloc (Nat.le_refl _) _).alloc (by simp) _) (by simp) (by rw [← show (w.alloc (.cells #[.int .i64 (-1)] 3)).heap.size = w.heap.size + 1 from by simp]; exact heap_new _ _) (by omega) F.out
  · exact close2 (by omega) (((Below.refl _ w).alloc (Nat.le_refl _) _).alloc (by simp) _) (by simp) (by rw [old _ _ _ (by simp)]; exact heap_new _ _) (Nat.le_refl _) F.out
set_option maxHeartbeats 800000 in
theorem p_new_high (v : Int) (hv : 300 < v) (w : World) : Calls Try.prog 13 #[.int .i64 v] w (Made 52 w 300) := by
  have hmk : ∀ w : World, (Instr.makeSlice 28 (.int .i64 300) (.int .i64 300)).run Try.prog w = .ok (.slice (some ⟨w.heap.size, 0, none⟩) 300 300) (w.alloc (.cells (madeCells #[.int .i64 0] 300) 3)) :=
    run_make_row' (P := Try.prog) 28 3 (.int .i64 0) 8 Try.underlying28 info3 rfl .i64 .i64 300 (by omega) (by omega)
  have hrp : ∀ (b : Nat) (w : World), b < w.heap.size → w.cell? ⟨b, 0, none⟩ = some (.int .i64 (-1)) → Calls Try.prog 29 #[.slice (some ⟨b, 0, none⟩) 1 1, .int .i64 300] w _ := fun b w hb hc => repeat_any b 300 (-1) (by omega) w hb hc
  have R := Bx.mk hrp
  clear hrp
  go_enter Try.func13, Try.ntmps13
  go_wp2
  go_region_with (go_at_call 29; refine (R.out _ _ (by simp <;> omega) (by simp [go_sem])).mono ?_; rintro e w1 ⟨rfl, hF⟩; have F := Bx.mk hF; clear hF)
  all_goals go_wp2
  all_goals go_ret
  · exact close1 (by omega) F.out
  · exact close2 (by omega) (((Below.refl _ w).alloc (Nat.le_refl _) _).alloc (by simp) _) (by simp) (by rw [← show (w.alloc (.cells #[.int .i64 (-1)] 3)).heap.size = w.heap.size + 1 from by simp]; exact heap_new _ _) (by omega) F.out
  · exact close2 (by omega) (((Below.refl _ w).alloc (Nat.le_refl _) _).alloc (by simp) _) (by simp) (by rw [old _ _ _ (by simp)]; exact heap_new _ _) (Nat.le_refl _) F.out

/-- link.New. -/
theorem p_new (v : Int) (m : Nat) (hm : (m : Int) = max 0 (min v 300)) (w : World) : Calls Try.prog 13 #[.int .i64 v] w (Made 52 w m) := by
  rcases Int.lt_or_le 0 v with h | h
  · rcases Int.lt_or_le 300 v with k | k
    · obtain rfl : m = 300 := by omega
      exact p_new_high v k w
    · obtain rfl : v = m := by omega
      exact p_new_mid m (by omega) (by omega) w
  · obtain rfl : m = 0 := by omega
    exact p_new_low v h w
end Go.Proofs.Ytjicapkhlfbgjaa
