/- Rows of numbers and of truths in memory: those that came in, those that a call made itself. -/
import Derived.Test.YtidcofjadlfahaaRows
import Derived.WalkKit
import Derived.WalkLawsBesides
import Derived.WalkSpells
import Derived.Deep.LoopGhost
import Derived.Deep.CutRange
import Derived.BigQuiet
import Derived.Deep.QuietTactic
import Derived.RegionTactic
import Derived.BigRegion
import Derived.Maps.AppendAt
import Derived.OwnWalk
import Derived.Laws.OwnMore
import Derived.Laws.MakeOwn
import Derived.StillTailTactics
import Derived.Deep.RegionWith
import Derived.Deep.RegionLaw
import Derived.Deep.AppendLies
import Derived.Laws.BitsAllLaws
import Derived.Laws.Shifts
import Derived.Deep.OwnRows
set_option linter.unusedVariables false
namespace Go.Proofs.Ytidcofjadlfahaa
open Go.RowKit

/-- A fact that the walk does not look into. -/
structure Bx (p : Prop) : Prop where
  out : p
/-- What a row holds at a place; a row with one place turned. -/
def rd (xs : List Int) (i : Int) : Int := xs.getD i.toNat 0
def st (xs : List Int) (i x : Int) : List Int := xs.set i.toNat x
def rb (xs : List Bool) (i : Int) : Bool := xs.getD i.toNat false
def sb (xs : List Bool) (i : Int) (x : Bool) : List Bool := xs.set i.toNat x
theorem st_length (xs : List Int) (i x : Int) : (st xs i x).length = xs.length := by simp [st]
theorem sb_length (xs : List Bool) (i : Int) (x : Bool) : (sb xs i x).length = xs.length := by simp [sb]
theorem rd_st (xs : List Int) (i j x : Int) (hi : 0 ≤ i) (hl : i < xs.length) (hj : 0 ≤ j) : rd (st xs i x) j = if j = i then x else rd xs j := by
  unfold rd st
  simp only [List.getD_eq_getElem?_getD, List.getElem?_set]
  by_cases h : j = i
  · subst h
    have : j.toNat < xs.length := by omega
    simp [this]
  · rw [if_neg (by omega), if_neg h]
theorem rb_sb (xs : List Bool) (i j : Int) (x : Bool) (hi : 0 ≤ i) (hl : i < xs.length) (hj : 0 ≤ j) : rb (sb xs i x) j = if j = i then x else rb xs j := by
  unfold rb sb
  simp only [List.getD_eq_getElem?_getD, List.getElem?_set]
  by_cases h : j = i
  · subst h
    have : j.toNat < xs.length := by omega
    simp [this]
  · rw [if_neg (by omega), if_neg h]
theorem rd_st_same (xs : List Int) (i x : Int) (hi : 0 ≤ i) (hl : i < xs.length) : rd (st xs i x) i = x := by rw [rd_st _ _ _ _ hi hl hi, if_pos rfl]
theorem rd_st_ne (xs : List Int) (i j x : Int) (hi : 0 ≤ i) (hl : i < xs.length) (hj : 0 ≤ j) (h : j ≠ i) : rd (st xs i x) j = rd xs j := by rw [rd_st _ _ _ _ hi hl hj, if_neg h]
theorem rows_ext {xs ys : List Int} (hl : xs.length = ys.length) (h : ∀ i : Int, 0 ≤ i → i < xs.length → rd xs i = rd ys i) : xs = ys := by
  apply List.ext_getElem hl
  intro i h1 h2
  have := h i (by omega) (by omega)
  simpa [rd, List.getD_eq_getElem?_getD, List.getElem?_eq_getElem h1, List.getElem?_eq_getElem h2] using this
theorem rd_app (xs : List Int) (x i : Int) (h0 : 0 ≤ i) : rd (xs ++ [x]) i = if i < xs.length then rd xs i else if i = xs.length then x else 0 := by
  unfold rd
  simp only [List.getD_eq_getElem?_getD]
  by_cases h : i < xs.length
  · rw [if_pos h, List.getElem?_append_left (by omega)]
  · rw [if_neg h, List.getElem?_append_right (by omega)]
    by_cases e : i = xs.length
    · rw [if_pos e]
      have : i.toNat - xs.length = 0 := by omega
      simp [this]
    · rw [if_neg e]
      have : i.toNat - xs.length ≠ 0 := by omega
      simp [this]

def nums (xs : List Int) : List Value := xs.map (Value.int .i64)
def bools (xs : List Bool) : List Value := xs.map Value.bool
theorem nums_length (xs : List Int) : (nums xs).length = xs.length := by simp [nums]
theorem bools_length (xs : List Bool) : (bools xs).length = xs.length := by simp [bools]
theorem nums_st (xs : List Int) (i x : Int) : (nums xs).set i.toNat (.int .i64 x) = nums (st xs i x) := by simp [nums, st, List.map_set]
theorem bools_sb (xs : List Bool) (i : Int) (x : Bool) : (bools xs).set i.toNat (.bool x) = bools (sb xs i x) := by simp [bools, sb, List.map_set]
theorem nums_app (xs : List Int) (x : Int) : nums xs ++ [.int .i64 x] = nums (xs ++ [x]) := by simp [nums]
theorem nums_at {U : List Int} (v : Int) (h0 : 0 ≤ v) (h1 : v < U.length) : (nums U)[v.toNat]? = some (.int .i64 (rd U v)) := by
  have : v.toNat < U.length := by omega
  simp [nums, rd, List.getD_eq_getElem?_getD, List.getElem?_eq_getElem this]
theorem bools_at {U : List Bool} (v : Int) (h0 : 0 ≤ v) (h1 : v < U.length) : (bools U)[v.toNat]? = some (.bool (rb U v)) := by
  have : v.toNat < U.length := by omega
  simp [bools, rb, List.getD_eq_getElem?_getD, List.getElem?_eq_getElem this]
theorem info3 : (Try.prog.info? 3).map (fun i => (i.zero, i.size, i.bytes)) = some (some (.int .i64 0), 1, 8) := by kernel_rfl

/-- A row of numbers that can be read. -/
def RowOf (w : World) (a : Option Addr) (xs : List Int) : Prop := ∀ i : Int, 0 ≤ i → i < xs.length → ∃ b o, a = some ⟨b, o, none⟩ ∧ b < w.heap.size ∧ w.cell? ⟨b, o + i.toNat, none⟩ = some (.int .i64 (rd xs i))
theorem RowOf.keep {w w' : World} {a : Option Addr} {xs : List Int} (h : RowOf w a xs) (hb : Below w.heap.size w w') : RowOf w' a xs := by
  intro i h0 h1
  obtain ⟨b, o, e, hl, hc⟩ := h i h0 h1
  exact ⟨b, o, e, Nat.lt_of_lt_of_le hl hb.size, by rw [World.cell?_of_block (w := w) (hb.block b hl)]; exact hc⟩
theorem RowOf.at {w w' : World} {a : Option Addr} {xs : List Int} (h : RowOf w a xs) (hb : Below w.heap.size w w') (i : Int) (h0 : 0 ≤ i) (h1 : i < xs.length) : ∃ b o, a = some ⟨b, o, none⟩ ∧ w'.cell? ⟨b, o + i.toNat, none⟩ = some (.int .i64 (rd xs i)) := by
  obtain ⟨b, o, e, _, hc⟩ := h.keep hb i h0 h1
  exact ⟨b, o, e, hc⟩
theorem RowOf.nil (w : World) (a : Option Addr) : RowOf w a [] := fun i h0 h1 => by simp at h1; omega

/-- A row of numbers that the call made itself, in a block from B on. -/
def Own (w : World) (B : Nat) (v : Value) (xs : List Int) : Prop := w.ownsRow B 3 1 v xs.length (nums xs)
def BOwn (w : World) (B : Nat) (v : Value) (xs : List Bool) : Prop := w.ownsRow B 4 1 v xs.length (bools xs)
theorem grown_of {w w' : World} (hb : Below w.heap.size w w') : w.grownBy w' none := ⟨hb.os, hb.tape, hb.output, hb.size, fun i hi _ => hb.block i hi⟩
theorem Own.keep {w w' : World} {B : Nat} {v : Value} {xs : List Int} (h : Own w B v xs) (hb : Below w.heap.size w w') : Own w' B v xs := by
  rcases hv : v.ownBlock with _ | k
  · exact World.ownsRow.kept h (grown_of hb) (.inl hv)
  · exact World.ownsRow.kept h (grown_of hb) (.inr (by rw [hv]; simp))
theorem BOwn.keep {w w' : World} {B : Nat} {v : Value} {xs : List Bool} (h : BOwn w B v xs) (hb : Below w.heap.size w w') : BOwn w' B v xs := by
  rcases hv : v.ownBlock with _ | k
  · exact World.ownsRow.kept h (grown_of hb) (.inl hv)
  · exact World.ownsRow.kept h (grown_of hb) (.inr (by rw [hv]; simp))
theorem Own.low {w : World} {B B' : Nat} {v : Value} {xs : List Int} (h : Own w B v xs) (hB : B' ≤ B) : Own w B' v xs := by
  obtain ⟨a, b⟩ := h
  refine ⟨a, ?_⟩
  rcases b with b | ⟨g, cap, cur, hv, hg, r⟩
  · exact .inl b
  · exact .inr ⟨g, cap, cur, hv, Nat.le_trans hB hg, r⟩
/-- Such a row, its block and its length told. -/
def OwnN (w : World) (B g cap n : Nat) (xs : List Int) : Prop := xs.length = n ∧ w.ownsRow B 3 1 (.slice (some ⟨g, 0, none⟩) n cap) n (nums xs)
def BOwnN (w : World) (B g cap n : Nat) (xs : List Bool) : Prop := xs.length = n ∧ w.ownsRow B 4 1 (.slice (some ⟨g, 0, none⟩) n cap) n (bools xs)
section
variable {w w' : World} {B g cap n : Nat} {xs : List Int} {ys : List Bool}
theorem OwnN.own (h : OwnN w B g cap n xs) : Own w B (.slice (some ⟨g, 0, none⟩) n cap) xs := by
  obtain ⟨rfl, h⟩ := h
  exact h
theorem BOwnN.own (h : BOwnN w B g cap n ys) : BOwn w B (.slice (some ⟨g, 0, none⟩) n cap) ys := by
  obtain ⟨rfl, h⟩ := h
  exact h
theorem OwnN.cell (h : OwnN w B g cap n xs) (i : Int) (h0 : 0 ≤ i) (h1 : i < n) : w.cell? ⟨g, i.toNat, none⟩ = some (.int .i64 (rd xs i)) := by
  rw [h.2.cellAt i.toNat (by omega), nums_at i h0 (by rw [h.1]; exact h1)]
theorem BOwnN.cell (h : BOwnN w B g cap n ys) (i : Int) (h0 : 0 ≤ i) (h1 : i < n) : w.cell? ⟨g, i.toNat, none⟩ = some (.bool (rb ys i)) := by
  rw [h.2.cellAt i.toNat (by omega), bools_at i h0 (by rw [h.1]; exact h1)]
theorem OwnN.fz (h : OwnN w B g cap n xs) (i : Int) : w.frozen? ⟨g, i.toNat, none⟩ = false := h.2.frozenAt i.toNat
theorem BOwnN.fz (h : BOwnN w B g cap n ys) (i : Int) : w.frozen? ⟨g, i.toNat, none⟩ = false := h.2.frozenAt i.toNat
theorem OwnN.rng (h : OwnN w B g cap n xs) : B ≤ g ∧ g < w.heap.size := h.2.lt g rfl
theorem BOwnN.rng (h : BOwnN w B g cap n ys) : B ≤ g ∧ g < w.heap.size := h.2.lt g rfl
theorem OwnN.set (h : OwnN w B g cap n xs) (i x : Int) : OwnN (w.setCell ⟨g, i.toNat, none⟩ (.int .i64 x)) B g cap n (st xs i x) := by
  have hs := (h.2.stored i.toNat (.int .i64 x)).1
  rw [nums_st] at hs
  exact ⟨by rw [st_length, h.1], hs⟩
theorem BOwnN.set (h : BOwnN w B g cap n ys) (i : Int) (x : Bool) : BOwnN (w.setCell ⟨g, i.toNat, none⟩ (.bool x)) B g cap n (sb ys i x) := by
  have hs := (h.2.stored i.toNat (.bool x)).1
  rw [bools_sb] at hs
  exact ⟨by rw [sb_length, h.1], hs⟩
theorem own_far {base : Nat} {e : TypeId} {s k c m : Nat} {zs : List Value} (h : w.ownsRow base e s (.slice (some ⟨k, 0, none⟩) m c) m zs) {p : Addr} (hp : p.block ≠ k) (u : Value) :
    (w.setCell p u).ownsRow base e s (.slice (some ⟨k, 0, none⟩) m c) m zs :=
  World.ownsRow.kept h (row := some p.block) ⟨rfl, rfl, rfl, by simp [World.setCell], fun i hi hne => by rw [Below.heap_setCell _ _ _ _ (fun e => hne (by rw [e]))]⟩ (.inr (by simp [Value.ownBlock]; exact fun e => hp e.symm))
theorem OwnN.far (h : OwnN w B g cap n xs) {p : Addr} (hp : p.block ≠ g) (u : Value) : OwnN (w.setCell p u) B g cap n xs := ⟨h.1, own_far h.2 hp u⟩
theorem BOwnN.far (h : BOwnN w B g cap n ys) {p : Addr} (hp : p.block ≠ g) (u : Value) : BOwnN (w.setCell p u) B g cap n ys := ⟨h.1, own_far h.2 hp u⟩
theorem OwnN.keep (h : OwnN w B g cap n xs) (hb : Below w.heap.size w w') : OwnN w' B g cap n xs := ⟨h.1, World.ownsRow.kept h.2 (grown_of hb) (.inr (by simp [Value.ownBlock]))⟩
theorem BOwnN.keep (h : BOwnN w B g cap n ys) (hb : Below w.heap.size w w') : BOwnN w' B g cap n ys := ⟨h.1, World.ownsRow.kept h.2 (grown_of hb) (.inr (by simp [Value.ownBlock]))⟩
theorem OwnN.row (h : OwnN w B g cap n xs) : RowOf w (some ⟨g, 0, none⟩) xs := fun i h0 h1 => ⟨g, 0, rfl, h.rng.2, by rw [Nat.zero_add]; exact h.cell i h0 (by rw [← h.1]; exact h1)⟩
theorem OwnN.grown (h : OwnN w B g cap n xs) {row : Option Nat} (hg : w.grownBy w' row) (hn : row ≠ some g) : OwnN w' B g cap n xs := ⟨h.1, World.ownsRow.kept h.2 hg (.inr (by simp [Value.ownBlock]; exact fun e => hn e.symm))⟩
theorem BOwnN.grown (h : BOwnN w B g cap n ys) {row : Option Nat} (hg : w.grownBy w' row) (hn : row ≠ some g) : BOwnN w' B g cap n ys := ⟨h.1, World.ownsRow.kept h.2 hg (.inr (by simp [Value.ownBlock]; exact fun e => hn e.symm))⟩
end
/-- Nil, or a block of its own. -/
theorem Own.cases {w : World} {B : Nat} {v : Value} {xs : List Int} (h : Own w B v xs) :
    (v = .slice none 0 0 ∧ xs = []) ∨ ∃ g cap, v = .slice (some ⟨g, 0, none⟩) xs.length cap ∧ xs.length ≤ cap ∧ cap ≤ maxLen ∧ OwnN w B g cap xs.length xs := by
  obtain ⟨a, b⟩ := h
  rcases b with ⟨b, c⟩ | ⟨g, cap, cur, hv, hg, hh, r, s, t⟩
  · exact .inl ⟨b, List.length_eq_zero_iff.1 c⟩
  · subst hv
    exact .inr ⟨g, cap, rfl, r, s, rfl, a, .inr ⟨g, cap, cur, rfl, hg, hh, r, s, t⟩⟩
/-- As one that came in. -/
theorem Own.row {w : World} {B : Nat} {v : Value} {xs : List Int} (h : Own w B v xs) : ∃ a cap, v = .slice a xs.length cap ∧ RowOf w a xs := by
  rcases h.cases with ⟨rfl, rfl⟩ | ⟨g, cap, rfl, _, _, k⟩
  · exact ⟨none, 0, rfl, RowOf.nil _ _⟩
  · exact ⟨_, cap, rfl, k.row⟩
theorem Own.nil (w : World) (B : Nat) : Own w B (.slice none 0 0) [] := World.ownsRow_nil _ _ _ _
theorem below_below {w a w' : World} (h : Below w.heap.size w a) (k : Below a.heap.size a w') : Below w.heap.size w w' :=
  h.trans ⟨k.os, k.tape, k.output, k.size, fun i hi => k.block i (Nat.lt_of_lt_of_le hi h.size)⟩
theorem below_alloc {w a : World} (h : Below w.heap.size w a) (o : Obj) : Below w.heap.size w (a.alloc o) := h.alloc h.size o
theorem below_grown {w a w' : World} (h : Below w.heap.size w a) {row : Option Nat} (hg : a.grownBy w' row) (hr : ∀ k, row = some k → w.heap.size ≤ k) : Below w.heap.size w w' :=
  h.trans ⟨hg.os, hg.tape, hg.output, hg.size, fun k hk => hg.block k (Nat.lt_of_lt_of_le hk h.size) (fun e => by have := hr k e.symm; omega)⟩
theorem below_set {w a : World} (h : Below w.heap.size w a) {p : Addr} (hp : w.heap.size ≤ p.block) (u : Value) : Below w.heap.size w (a.setCell p u) :=
  h.trans ⟨rfl, rfl, rfl, by simp [World.setCell], fun k hk => Below.heap_setCell _ _ _ _ (by omega)⟩
theorem below_drewN {w a : World} (h : Below w.heap.size w a) (n : Nat) : Below w.heap.size w (a.drewN n) := ⟨h.os, h.tape, h.output, h.size, h.block⟩
theorem size_set (w : World) (p : Addr) (u : Value) : (w.setCell p u).heap.size = w.heap.size := by simp [World.setCell]
end Go.Proofs.Ytidcofjadlfahaa
