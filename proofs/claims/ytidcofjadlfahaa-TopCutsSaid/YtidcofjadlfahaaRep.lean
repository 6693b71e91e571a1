/- slices.Repeat of a row of one. -/
import Derived.Test.YtidcofjadlfahaaGr
import Derived.Laws.CopyOwn
import Derived.Laws.BitsAllLaws
import Derived.Laws.Shifts
import Derived.Deep.RegionLaw
import Derived.Deep.OwnRows
namespace Go.Proofs.Ytidcofjadlfahaa
open Go.RowKit

theorem low32 (m : Nat) (h : m < 4294967296) : bits BinOp.and IntKind.u64 (m : Int) 4294967295 = m := by
  have := u64_and_nat m 4294967295 (by omega) (by omega)
  rw [show ((4294967295 : Nat) : Int) = 4294967295 from rfl] at this
  rw [this, show (4294967295 : Nat) = 2 ^ 32 - 1 from rfl, Nat.and_two_pow_sub_one_eq_mod, Nat.mod_eq_of_lt (by omega)]
theorem mul64 (m : Nat) (h1 : m ≤ 300) (w : World) : Calls Try.prog 66 #[.int .u64 1, .int .u64 m] w fun e w' => e = .returned (.tuple #[.int .u64 0, .int .u64 m]) ∧ w = w' := by
  have b1 : bits BinOp.and IntKind.u64 1 4294967295 = 1 := low32 1 (by omega)
  have b0 : bits BinOp.and IntKind.u64 0 4294967295 = 0 := low32 0 (by omega)
  have b2 := low32 m (by omega)
  have d : (m : Int) / 4294967296 = 0 := by omega
  go_enter Try.func66, Try.ntmps66
  go_wp2
  go_ret2
  exact ⟨rfl, rfl⟩
theorem mul (m : Nat) (h1 : m ≤ 300) (w : World) : Calls Try.prog 64 #[.int .u64 1, .int .u64 m] w fun e w' => e = .returned (.tuple #[.int .u64 0, .int .u64 m]) ∧ w = w' := by
  go_enter Try.func64, Try.ntmps64
  go_wp2_with (go_at_call 66; refine (mul64 m h1 _).mono ?_; rintro e w' ⟨rfl, rfl⟩)
  go_ret2
  exact ⟨rfl, rfl⟩

/-- A row whose first k cells are x. -/
def Filled (k m : Nat) (X : Value) (cur : List Value) : Prop := cur.length = m ∧ ∀ j, j < k → cur[j]? = some X
theorem Filled.full {m : Nat} {X : Value} {cur : List Value} (h : Filled m m X cur) : cur = List.replicate m X := by
  apply List.ext_getElem?
  intro i
  rw [List.getElem?_replicate]
  split
  · exact h.2 i (by omega)
  · rw [List.getElem?_eq_none (by rw [h.1]; omega)]
theorem Filled.splice {k m c : Nat} {X : Value} {cur cs : List Value} (h : Filled k m X cur) (hc : cs = List.replicate c X) (hk : k + c ≤ m) : Filled (k + c) m X (splice cur k cs) := by
  subst hc
  refine ⟨by rw [length_splice _ _ _ (by simp [h.1]; omega), h.1], fun j hj => ?_⟩
  unfold Go.splice
  by_cases h1 : j < k
  · rw [List.getElem?_append_left (by simp [h.1]; omega), List.getElem?_take_of_lt h1, h.2 j h1]
  · rw [List.getElem?_append_right (by simp [h.1]; omega), List.getElem?_append_left (by simp [h.1]; omega), List.getElem?_replicate, if_pos (by simp [h.1]; omega)]
theorem rep_one {n : Nat} {X : Value} : ∀ v, v ∈ List.replicate n X → v = X := fun _ h => (List.mem_replicate.1 h).2
theorem heap_new (w : World) (o : Obj) : (w.alloc o).heap[w.heap.size]? = some o := heap_alloc_new w o
/-- The cells ds lie at the head of block g. -/
def AtHead (w : World) (g : Nat) (ds : List Value) : Prop := ∀ j v, ds[j]? = some v → w.cell? ((⟨g, 0, none⟩ : Addr).add j) = some v
theorem AtHead.get {w : World} {g : Nat} {ds : List Value} (h : AtHead w g ds) : ∀ j v, ds[j]? = some v → w.cell? ((⟨g, 0, none⟩ : Addr).add j) = some v := h
theorem madeLen (z : Value) (m : Nat) : (madeCells #[z] m).toList.length = m := by simp [madeCells]

set_option maxHeartbeats 400000 in
/-- slices.Repeat of a row of one. -/
theorem repeat_any (b m : Nat) (x : Int) (h1 : m ≤ 300) (w : World) (hb : b < w.heap.size) (hc : w.cell? ⟨b, 0, none⟩ = some (.int .i64 x)) :
    Calls Try.prog 60 #[.slice (some ⟨b, 0, none⟩) 1 1, .int .i64 m] w fun e w' => e = .returned (.slice (some ⟨w.heap.size, 0, none⟩) m m) ∧ Below w.heap.size w w' ∧ w.heap.size < w'.heap.size ∧ ∃ cur : List Value, w'.heap[w.heap.size]? = some (.cells cur.toArray 3 (0, 0)) ∧ Filled m m (.int .i64 x) cur := by
  have hmk := run_make_row' (P := Try.prog) 22 3 (.int .i64 0) 8 Try.underlying22 info3 rfl .i64 .i64 m (by omega) (by omega)
  obtain ⟨c, hcm⟩ : ∃ c, c = Nat.min 1 m := ⟨_, rfl⟩
  obtain ⟨cs, hcs⟩ : ∃ cs, cs = List.replicate c (Value.int .i64 x) := ⟨_, rfl⟩
  obtain ⟨cur, hcur⟩ : ∃ cur, cur = (madeCells #[.int .i64 0] m).toList := ⟨_, rfl⟩
  have hcl : cs.length = c := by rw [hcs]; simp
  have hcu : cur.length = m := by rw [hcur]; exact madeLen _ _
  have hcm' : c ≤ 1 ∧ c ≤ m ∧ (1 ≤ m → 1 ≤ c) := by
    have : Nat.min 1 m = min 1 m := rfl
    omega
  have A1 := Bx.mk (And.intro hcm (And.intro hcs (And.intro hcur (And.intro hcl (And.intro hcu hcm')))))
  have Q1 := Bx.mk (show (w.alloc (.cells (madeCells #[.int .i64 0] m) 3)).heap[w.heap.size]? = some (.cells cur.toArray 3 (0, 0)) by rw [hcur, Array.toArray_toList]; exact heap_new _ _)
  have Q2 := Bx.mk (show cs.length = Nat.min 1 m by rw [hcl, hcm])
  have Q3 : AtHead (w.alloc (.cells (madeCells #[.int .i64 0] m) 3)) b cs := by
    intro j v hj
    have hj1 : j < cs.length := (List.getElem?_eq_some_iff.1 hj).1
    obtain rfl : j = 0 := by omega
    have hv : v = .int .i64 x := by
      rw [hcs, List.getElem?_replicate, if_pos (by omega)] at hj
      exact (Option.some.inj hj).symm
    rw [hv, ← hc]
    exact World.cell?_alloc_past _ _ _ hb
  have Q4 := Bx.mk (show 0 + cs.length ≤ cur.length by omega)
  have Q5 := Bx.mk (show ∀ v ∈ cs, v.oneCell' = true by intro v hv; rw [hcs] at hv; rw [rep_one v hv]; rfl)
  have Q6 := Bx.mk (show Below w.heap.size w (w.alloc (.cells (madeCells #[.int .i64 0] m) 3)) from (Below.refl _ _).alloc (Nat.le_refl _) _)
  clear hcm hcs hcur hcl hcu hcm'
  go_enter Try.func60, Try.ntmps60
  go_wp2_with (first | (go_at_call 64; refine (mul m h1 _).mono ?_; rintro e w' ⟨rfl, rfl⟩) | (with_reducible refine wpList_copy_splice rfl (.tmp 31) (.tmp 32) 22 22 rfl 3 Try.underlying22 (by kernel_rfl) _ _ _ _ _ _ rfl rfl w.heap.size 0 cur 3 Q1.out cs Q2.out (fun _ => ⟨rfl, _, rfl, Q3.get⟩) Q4.out Q5.out w.heap.size w Q6.out (Nat.le_refl _) ?_))
  intro w1 hg1 hb1
  have hsz : w.heap.size < w1.heap.size := (Array.getElem?_eq_some_iff.1 hg1.out).1
  have hF : Filled c m (.int .i64 x) (splice cur 0 cs) := by
    obtain ⟨a1, a2, a3, a4, a5, a6⟩ := A1.out
    have := (show Filled 0 m (.int .i64 x) cur from ⟨a5, fun j hj => by omega⟩).splice a2 (by omega)
    simpa using this
  have G := Bx.mk (And.intro hg1.out (And.intro hF (And.intro hb1 hsz)))
  clear hg1 hF hb1 hsz
  go_wp2
  go_loopg [8] (m - cs.length) (fun q a wr => ∃ k : Nat, q = m - k ∧ a = .int .i64 k ∧ k ≤ m ∧ (1 ≤ m → 1 ≤ k) ∧ ∃ cu : List Value, wr.heap[w.heap.size]? = some (.cells cu.toArray 3 (0, 0)) ∧ Filled k m (.int .i64 x) cu ∧ Below w.heap.size w wr ∧ w.heap.size < wr.heap.size)
  case atStart => exact ⟨cs.length, rfl, rfl, by obtain ⟨a1, a2, a3, a4, a5, a6⟩ := A1.out; omega, by obtain ⟨a1, a2, a3, a4, a5, a6⟩ := A1.out; omega, _, G.out.1, by rw [A1.out.2.2.2.1]; exact G.out.2.1, G.out.2.2.1, G.out.2.2.2⟩
  case round =>
    obtain ⟨k, hq, rfl, hk, hk1, cu, hcu, hfl, hbl, hs⟩ := hrel
    have Q := Bx.mk hq
    clear hq
    have R := Bx.mk (And.intro hcu (And.intro hfl (And.intro hbl hs)))
    clear hcu hfl hbl hs
    by_cases hlt : k < m
    · obtain ⟨d, hd⟩ : ∃ d, d = Nat.min k (m - k) := ⟨_, rfl⟩
      obtain ⟨ds, hds⟩ : ∃ ds, ds = List.replicate d (Value.int .i64 x) := ⟨_, rfl⟩
      have hdl : ds.length = d := by rw [hds]; simp
      have hd' : d = min k (m - k) := hd
      obtain ⟨hcu, hfl, hbl, hs⟩ := R.out
      have H1 := Bx.mk (show wr.drew.heap[w.heap.size]? = some (.cells cu.toArray 3 (0, 0)) from hcu)
      have H2 := Bx.mk (show ds.length = Nat.min k (m - k) by rw [hdl, hd])
      have H3 : AtHead wr.drew w.heap.size ds := by
        intro j v hj
        have hj1 : j < ds.length := (List.getElem?_eq_some_iff.1 hj).1
        have hv : v = .int .i64 x := by
          rw [hds, List.getElem?_replicate, if_pos (by omega)] at hj
          exact (Option.some.inj hj).symm
        rw [hv]
        have ha : (⟨w.heap.size, 0, none⟩ : Addr).add j = ⟨w.heap.size, j, none⟩ := by unfold Addr.add; split <;> simp_all
        rw [ha]
        show wr.cell? _ = _
        simp only [World.cell?, hcu]
        simpa using hfl.2 j (by omega)
      have H4 := Bx.mk (show k + ds.length ≤ cu.length by rw [hfl.1]; omega)
      have H5 := Bx.mk (show ∀ v ∈ ds, v.oneCell' = true by intro v hv; rw [hds] at hv; rw [rep_one v hv]; rfl)
      have H6 := Bx.mk (show Below w.heap.size w wr.drew from hbl.drew)
      have D := Bx.mk (And.intro hd' (And.intro hds hdl))
      have hwr : IntKind.i64.wrap ((k : Int) + (ds.length : Int)) = (k : Int) + (ds.length : Int) := IntWalk.i64_in _ (by omega)
      clear hd hds hdl hd' hcu hfl hbl hs
      have hne : ¬ m = k := by omega
      go_wp2
      go_region_law ((refine step_copy_splice rfl (.tmp 41) (.tmp 44) 22 22 rfl 3 Try.underlying22 (by kernel_rfl) (some ⟨w.heap.size, k, none⟩) (some ⟨w.heap.size, 0, none⟩) (m - k) (m - k) k m (by simp [Act.eval, Act.put]) (by simp [Act.eval, Act.put]) w.heap.size k cu 3 H1.out ds H2.out (fun _ => ⟨rfl, _, rfl, H3.get⟩) H4.out H5.out w.heap.size w H6.out (Nat.le_refl _) ?_; intro w4 hg4 hb4))
      go_wp2
      obtain ⟨hd, hds, hdl⟩ := D.out
      have hfl := R.out.2.1
      have hsz : w.heap.size < w4.heap.size := (Array.getElem?_eq_some_iff.1 hg4.out).1
      have hq := Q.out
      go_roundg (m - (k + ds.length))
      case rel => exact ⟨k + ds.length, rfl, by go_num, by omega, by omega, _, hg4.out, by rw [hdl]; exact hfl.splice hds (by omega), hb4, hsz⟩
      case measure => omega
    · go_wp2
      go_ret
      obtain ⟨hcu, hfl, hbl, hs⟩ := R.out
      obtain rfl : k = m := by omega
      exact ⟨rfl, hbl, hs, _, hcu, hfl⟩
theorem repeat_own (b m : Nat) (x : Int) (h1 : m ≤ 300) (w : World) (hb : b < w.heap.size) (hc : w.cell? ⟨b, 0, none⟩ = some (.int .i64 x)) (B : Nat) (hB : B ≤ w.heap.size) :
    Calls Try.prog 60 #[.slice (some ⟨b, 0, none⟩) 1 1, .int .i64 m] w fun e w' => e = .returned (.slice (some ⟨w.heap.size, 0, none⟩) m m) ∧ OwnN w' B w.heap.size m m (List.replicate m x) ∧ Below w.heap.size w w' := by
  refine (repeat_any b m x h1 w hb hc).mono ?_
  rintro e w' ⟨rfl, hB1, hs, cur, hh, hf⟩
  refine ⟨rfl, ⟨by simp, ?_⟩, hB1⟩
  have hcur := hf.full
  subst hcur
  exact ⟨by simp [nums], Or.inr ⟨w.heap.size, m, (List.replicate m (Value.int .i64 x)).toArray, rfl, hB, hh, Nat.le_refl _, by unfold maxLen; omega, by simp, by simp [nums]⟩⟩
end Go.Proofs.Ytidcofjadlfahaa
