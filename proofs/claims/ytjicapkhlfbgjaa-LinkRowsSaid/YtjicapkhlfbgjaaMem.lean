/- How a forest lies in memory, and what a call on it may turn. -/
import Derived.Test.YtjicapkhlfbgjaaRows
import Derived.Test.YtjicapkhlfbgjaaPure
import Derived.WalkKit
import Derived.WalkLawsBesides
import Derived.WalkSpells
namespace Go.Proofs.Ytjicapkhlfbgjaa
open Go.RowKit

/-- A fact that the walk does not look into. -/
structure Bx (p : Prop) : Prop where
  out : p
def nums (xs : List Int) : List Value := xs.map (Value.int .i64)
theorem nums_length (xs : List Int) : (nums xs).length = xs.length := by simp [nums]
theorem nums_st (xs : List Int) (i x : Int) : (nums xs).set i.toNat (.int .i64 x) = nums (st xs i x) := by simp [nums, st, List.map_set]

/-- Outside the blocks from lo to hi (less one) nothing that was there has turned. -/
structure Rng (lo hi : Nat) (w w' : World) : Prop where
  os : w'.os = w.os
  tape : w'.tape = w.tape
  output : w'.output = w.output
  size : w.heap.size ≤ w'.heap.size
  block : ∀ k, k < w.heap.size → (k < lo ∨ hi ≤ k) → w'.heap[k]? = w.heap[k]?
theorem Rng.refl (lo hi : Nat) (w : World) : Rng lo hi w w := ⟨rfl, rfl, rfl, Nat.le_refl _, fun _ _ _ => rfl⟩
theorem Rng.trans {lo hi : Nat} {a b c : World} (h : Rng lo hi a b) (k : Rng lo hi b c) : Rng lo hi a c :=
  ⟨k.os.trans h.os, k.tape.trans h.tape, k.output.trans h.output, Nat.le_trans h.size k.size, fun i hi hr => (k.block i (by have := h.size; omega) hr).trans (h.block i hi hr)⟩
theorem Rng.drew {lo hi : Nat} {a w : World} (h : Rng lo hi a w) : Rng lo hi a w.drew := ⟨h.os, h.tape, h.output, h.size, h.block⟩
theorem Rng.alloc {lo hi : Nat} {a w : World} (h : Rng lo hi a w) (o : Obj) : Rng lo hi a (w.alloc o) :=
  h.trans ⟨rfl, rfl, rfl, by simp, fun k hk _ => Below.heap_alloc _ _ _ (by omega)⟩
theorem Rng.setCell {lo hi : Nat} {a w : World} (h : Rng lo hi a w) {p : Addr} (h1 : lo ≤ p.block) (h2 : p.block < hi) (u : Value) : Rng lo hi a (w.setCell p u) :=
  h.trans ⟨rfl, rfl, rfl, by simp [World.setCell], fun k hk hr => Below.heap_setCell _ _ _ _ (by omega)⟩
theorem Rng.below {lo hi B : Nat} {w w' : World} (h : Rng lo hi w w') (hB : B ≤ lo) (hs : B ≤ w.heap.size) : Below B w w' :=
  ⟨h.os, h.tape, h.output, h.size, fun k hk => h.block k (by omega) (.inl (by omega))⟩
theorem Rng.wide {lo hi lo' hi' : Nat} {w w' : World} (h : Rng lo hi w w') (h1 : lo' ≤ lo) (h2 : hi ≤ hi') : Rng lo' hi' w w' :=
  ⟨h.os, h.tape, h.output, h.size, fun k hk hr => h.block k hk (by omega)⟩
theorem Rng.cell {lo hi : Nat} {w w' : World} (h : Rng lo hi w w') {p : Addr} (hp : p.block < w.heap.size) (hr : p.block < lo ∨ hi ≤ p.block) : w'.cell? p = w.cell? p := World.cell?_of_block (w := w) (h.block p.block hp hr)

/-- A forest: two rows of n numbers behind a struct of type T, all in the blocks from lo to hi (less one). -/
structure ForestAt (T : TypeId) (w : World) (lo hi g bu bw cu cw n : Nat) (U W : List Int) : Prop where
  box : w.heap[g]? = some (.cells #[.slice (some ⟨bu, 0, none⟩) n cu, .slice (some ⟨bw, 0, none⟩) n cw] T (0, 0))
  ru : w.ownsRow lo 3 1 (.slice (some ⟨bu, 0, none⟩) n cu) n (nums U)
  rw_ : w.ownsRow lo 3 1 (.slice (some ⟨bw, 0, none⟩) n cw) n (nums W)
  lu : U.length = n
  lw : W.length = n
  ge : lo ≤ g ∧ lo ≤ bu ∧ lo ≤ bw
  lt : g < hi ∧ bu < hi ∧ bw < hi
  ne : bu ≠ bw ∧ g ≠ bu ∧ g ≠ bw
  size : hi ≤ w.heap.size
  len : n ≤ 9223372036854775807
def Forest (T : TypeId) (w : World) (lo hi g n : Nat) (U W : List Int) : Prop := ∃ bu bw cu cw, ForestAt T w lo hi g bu bw cu cw n U W

theorem nums_at {U : List Int} (v : Int) (h0 : 0 ≤ v) (h1 : v < U.length) : (nums U)[v.toNat]? = some (.int .i64 (rd U v)) := by
  have : v.toNat < U.length := by omega
  simp [nums, rd, List.getD_eq_getElem?_getD, List.getElem?_eq_getElem this]
section
variable {T : TypeId} {w : World} {lo hi g bu bw cu cw n : Nat} {U W : List Int}
theorem ForestAt.c0 (h : ForestAt T w lo hi g bu bw cu cw n U W) : w.cell? ⟨g, 0, none⟩ = some (.slice (some ⟨bu, 0, none⟩) n cu) := by simp [World.cell?, h.box]
theorem ForestAt.c1 (h : ForestAt T w lo hi g bu bw cu cw n U W) : w.cell? ⟨g, 1, none⟩ = some (.slice (some ⟨bw, 0, none⟩) n cw) := by simp [World.cell?, h.box]
theorem ForestAt.celu (h : ForestAt T w lo hi g bu bw cu cw n U W) (v : Int) (h0 : 0 ≤ v) (h1 : v < n) : w.cell? ⟨bu, v.toNat, none⟩ = some (.int .i64 (rd U v)) := by
  rw [h.ru.cellAt v.toNat (by omega), nums_at v h0 (by rw [h.lu]; exact h1)]
theorem ForestAt.celw (h : ForestAt T w lo hi g bu bw cu cw n U W) (v : Int) (h0 : 0 ≤ v) (h1 : v < n) : w.cell? ⟨bw, v.toNat, none⟩ = some (.int .i64 (rd W v)) := by
  rw [h.rw_.cellAt v.toNat (by omega), nums_at v h0 (by rw [h.lw]; exact h1)]
theorem ForestAt.fu (h : ForestAt T w lo hi g bu bw cu cw n U W) (v : Int) : w.frozen? ⟨bu, v.toNat, none⟩ = false := h.ru.frozenAt v.toNat
theorem ForestAt.fw (h : ForestAt T w lo hi g bu bw cu cw n U W) (v : Int) : w.frozen? ⟨bw, v.toNat, none⟩ = false := h.rw_.frozenAt v.toNat
theorem ForestAt.other (h : ForestAt T w lo hi g bu bw cu cw n U W) {lo' hi' : Nat} {w' : World} (hr : Rng lo' hi' w w') (hd : hi ≤ lo' ∨ hi' ≤ lo) : ForestAt T w' lo hi g bu bw cu cw n U W := by
  have hg : ∀ k, lo ≤ k → k < hi → w'.heap[k]? = w.heap[k]? := fun k a b => hr.block k (by have := h.size; omega) (by omega)
  refine ⟨(hg g h.ge.1 h.lt.1).trans h.box, ?_, ?_, h.lu, h.lw, h.ge, h.lt, h.ne, Nat.le_trans h.size hr.size, h.len⟩
  · obtain ⟨a, b⟩ := h.ru
    refine ⟨a, ?_⟩
    rcases b with b | ⟨g', cap, cur, hv, b⟩
    · exact .inl b
    · refine .inr ⟨g', cap, cur, hv, ?_⟩
      injection hv with e1 _ _
      injection e1 with e1
      injection e1 with e1
      subst e1
      rw [hg bu h.ge.2.1 h.lt.2.1]
      exact b
  · obtain ⟨a, b⟩ := h.rw_
    refine ⟨a, ?_⟩
    rcases b with b | ⟨g', cap, cur, hv, b⟩
    · exact .inl b
    · refine .inr ⟨g', cap, cur, hv, ?_⟩
      injection hv with e1 _ _
      injection e1 with e1
      injection e1 with e1
      subst e1
      rw [hg bw h.ge.2.2 h.lt.2.2]
      exact b
theorem ForestAt.drew (h : ForestAt T w lo hi g bu bw cu cw n U W) : ForestAt T w.drew lo hi g bu bw cu cw n U W :=
  h.other (lo' := hi) (hi' := hi) (Rng.refl _ _ _).drew (.inl (Nat.le_refl _))
theorem ForestAt.drewN (h : ForestAt T w lo hi g bu bw cu cw n U W) (m : Nat) : ForestAt T (w.drewN m) lo hi g bu bw cu cw n U W :=
  h.other (lo' := hi) (hi' := hi) ⟨rfl, rfl, rfl, Nat.le_refl _, fun _ _ _ => rfl⟩ (.inl (Nat.le_refl _))
theorem ForestAt.alloc (h : ForestAt T w lo hi g bu bw cu cw n U W) (o : Obj) : ForestAt T (w.alloc o) lo hi g bu bw cu cw n U W :=
  h.other (lo' := hi) (hi' := hi) ((Rng.refl _ _ _).alloc o) (.inl (Nat.le_refl _))
theorem own_far {base : Nat} {e : TypeId} {s k c m : Nat} {xs : List Value} (h : w.ownsRow base e s (.slice (some ⟨k, 0, none⟩) m c) m xs) {p : Addr} (hp : p.block ≠ k) (u : Value) :
    (w.setCell p u).ownsRow base e s (.slice (some ⟨k, 0, none⟩) m c) m xs := by
  obtain ⟨a, b⟩ := h
  refine ⟨a, ?_⟩
  rcases b with b | ⟨g', cap, cur, hv, hg, hh, r⟩
  · exact .inl b
  · refine .inr ⟨g', cap, cur, hv, hg, ?_, r⟩
    injection hv with e1 _ _
    injection e1 with e1
    injection e1 with e1
    subst e1
    rw [Below.heap_setCell _ _ _ _ (by omega)]
    exact hh
theorem size_setCell (p : Addr) (u : Value) : (w.setCell p u).heap.size = w.heap.size := by simp [World.setCell]
theorem ForestAt.setU (h : ForestAt T w lo hi g bu bw cu cw n U W) (v x : Int) : ForestAt T (w.setCell ⟨bu, v.toNat, none⟩ (.int .i64 x)) lo hi g bu bw cu cw n (st U v x) W := by
  have hs := (h.ru.stored v.toNat (.int .i64 x)).1
  rw [nums_st] at hs
  exact ⟨by rw [Below.heap_setCell _ _ _ _ h.ne.2.1]; exact h.box, hs, own_far h.rw_ h.ne.1 _, by rw [st_length, h.lu], h.lw, h.ge, h.lt, h.ne, by rw [size_setCell]; exact h.size, h.len⟩
theorem ForestAt.setW (h : ForestAt T w lo hi g bu bw cu cw n U W) (v x : Int) : ForestAt T (w.setCell ⟨bw, v.toNat, none⟩ (.int .i64 x)) lo hi g bu bw cu cw n U (st W v x) := by
  have hs := (h.rw_.stored v.toNat (.int .i64 x)).1
  rw [nums_st] at hs
  exact ⟨by rw [Below.heap_setCell _ _ _ _ h.ne.2.2]; exact h.box, own_far h.ru h.ne.1.symm _, hs, h.lu, by rw [st_length, h.lw], h.ge, h.lt, h.ne, by rw [size_setCell]; exact h.size, h.len⟩
theorem Forest.other (h : Forest T w lo hi g n U W) {lo' hi' : Nat} {w' : World} (hr : Rng lo' hi' w w') (hd : hi ≤ lo' ∨ hi' ≤ lo) : Forest T w' lo hi g n U W := by
  obtain ⟨bu, bw, cu, cw, k⟩ := h
  exact ⟨bu, bw, cu, cw, k.other hr hd⟩
end

end Go.Proofs.Ytjicapkhlfbgjaa
