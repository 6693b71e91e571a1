/- Rows of floats in memory. -/
import Derived.Test.YtpggfgkajkgcoaaDoorG1
set_option linter.unusedVariables false
set_option linter.unusedSimpArgs false
namespace Go.Proofs.YtpggfgkajkgcoaaDoor
open Go.RowKit

def fd (xs : List Nat) (i : Int) : Nat := xs.getD i.toNat 0
def fset (xs : List Nat) (i : Int) (x : Nat) : List Nat := xs.set i.toNat x
theorem fset_length (xs : List Nat) (i : Int) (x : Nat) : (fset xs i x).length = xs.length := by simp [fset]
theorem fd_fset (xs : List Nat) (i j : Int) (x : Nat) (hi : 0 ≤ i) (hl : i < xs.length) (hj : 0 ≤ j) : fd (fset xs i x) j = if j = i then x else fd xs j := by
  unfold fd fset
  simp only [List.getD_eq_getElem?_getD, List.getElem?_set]
  by_cases h : j = i
  · subst h
    have : j.toNat < xs.length := by omega
    simp [this]
  · rw [if_neg (by omega), if_neg h]
theorem fd_fset_same (xs : List Nat) (i : Int) (x : Nat) (hi : 0 ≤ i) (hl : i < xs.length) : fd (fset xs i x) i = x := by rw [fd_fset _ _ _ _ hi hl hi, if_pos rfl]
theorem fd_fset_ne (xs : List Nat) (i j : Int) (x : Nat) (hi : 0 ≤ i) (hl : i < xs.length) (hj : 0 ≤ j) (h : j ≠ i) : fd (fset xs i x) j = fd xs j := by rw [fd_fset _ _ _ _ hi hl hj, if_neg h]
theorem frows_ext {xs ys : List Nat} (hl : xs.length = ys.length) (h : ∀ i : Int, 0 ≤ i → i < xs.length → fd xs i = fd ys i) : xs = ys := by
  apply List.ext_getElem hl
  intro i h1 h2
  have := h i (by omega) (by omega)
  simpa [fd, List.getD_eq_getElem?_getD, List.getElem?_eq_getElem h1, List.getElem?_eq_getElem h2] using this
theorem fd_app (xs : List Nat) (x : Nat) (i : Int) (h0 : 0 ≤ i) : fd (xs ++ [x]) i = if i < xs.length then fd xs i else if i = xs.length then x else 0 := by
  unfold fd
  simp only [List.getD_eq_getElem?_getD]
  by_cases h : i < xs.length
  · rw [if_pos h, List.getElem?_append_left (by omega)]
  · rw [if_neg h, List.getElem?_append_right (by omega)]
    by_cases e : i = xs.length
    · rw [if_pos e]
      have : i.toNat - xs.length = 0 := by omega
      simp [this]
    · rw [if_neg e]
      have : i.toNat - xs.length ≠ 0 := by omega
      simp [this]
def flts (xs : List Nat) : List Value := xs.map (Value.float .f64)
theorem flts_length (xs : List Nat) : (flts xs).length = xs.length := by simp [flts]
theorem flts_fset (xs : List Nat) (i : Int) (x : Nat) : (flts xs).set i.toNat (.float .f64 x) = flts (fset xs i x) := by simp [flts, fset, List.map_set]
theorem flts_app (xs : List Nat) (x : Nat) : flts xs ++ [.float .f64 x] = flts (xs ++ [x]) := by simp [flts]
theorem flts_at {U : List Nat} (v : Int) (h0 : 0 ≤ v) (h1 : v < U.length) : (flts U)[v.toNat]? = some (.float .f64 (fd U v)) := by
  have : v.toNat < U.length := by omega
  simp [flts, fd, List.getD_eq_getElem?_getD, List.getElem?_eq_getElem this]
def FRow (w : World) (a : Option Addr) (xs : List Nat) : Prop := ∀ i : Int, 0 ≤ i → i < xs.length → ∃ b o, a = some ⟨b, o, none⟩ ∧ b < w.heap.size ∧ w.cell? ⟨b, o + i.toNat, none⟩ = some (.float .f64 (fd xs i))
theorem FRow.keep {w w' : World} {a : Option Addr} {xs : List Nat} (h : FRow w a xs) (hb : Below w.heap.size w w') : FRow w' a xs := by
  intro i h0 h1
  obtain ⟨b, o, e, hl, hc⟩ := h i h0 h1
  exact ⟨b, o, e, Nat.lt_of_lt_of_le hl hb.size, by rw [World.cell?_of_block (w := w) (hb.block b hl)]; exact hc⟩
theorem FRow.at {w w' : World} {a : Option Addr} {xs : List Nat} (h : FRow w a xs) (hb : Below w.heap.size w w') (i : Int) (h0 : 0 ≤ i) (h1 : i < xs.length) : ∃ b o, a = some ⟨b, o, none⟩ ∧ w'.cell? ⟨b, o + i.toNat, none⟩ = some (.float .f64 (fd xs i)) := by
  obtain ⟨b, o, e, _, hc⟩ := h.keep hb i h0 h1
  exact ⟨b, o, e, hc⟩
theorem FRow.nil (w : World) (a : Option Addr) : FRow w a [] := fun i h0 h1 => by simp at h1; omega
def FOwn (w : World) (B : Nat) (v : Value) (xs : List Nat) : Prop := w.ownsRow B 22 1 v xs.length (flts xs)
theorem FOwn.keep {w w' : World} {B : Nat} {v : Value} {xs : List Nat} (h : FOwn w B v xs) (hb : Below w.heap.size w w') : FOwn w' B v xs := by
  rcases hv : v.ownBlock with _ | k
  · exact World.ownsRow.kept h (grown_of hb) (.inl hv)
  · exact World.ownsRow.kept h (grown_of hb) (.inr (by rw [hv]; simp))
theorem FOwn.low {w : World} {B B' : Nat} {v : Value} {xs : List Nat} (h : FOwn w B v xs) (hB : B' ≤ B) : FOwn w B' v xs := by
  obtain ⟨a, b⟩ := h
  refine ⟨a, ?_⟩
  rcases b with b | ⟨g, cap, cur, hv, hg, r⟩
  · exact .inl b
  · exact .inr ⟨g, cap, cur, hv, Nat.le_trans hB hg, r⟩
def FOwnN (w : World) (B g cap n : Nat) (xs : List Nat) : Prop := xs.length = n ∧ w.ownsRow B 22 1 (.slice (some ⟨g, 0, none⟩) n cap) n (flts xs)
section
variable {w w' : World} {B g cap n : Nat} {xs : List Nat}
theorem FOwnN.own (h : FOwnN w B g cap n xs) : FOwn w B (.slice (some ⟨g, 0, none⟩) n cap) xs := by
  obtain ⟨rfl, h⟩ := h
  exact h
theorem FOwnN.cell (h : FOwnN w B g cap n xs) (i : Int) (h0 : 0 ≤ i) (h1 : i < n) : w.cell? ⟨g, i.toNat, none⟩ = some (.float .f64 (fd xs i)) := by
  rw [h.2.cellAt i.toNat (by omega), flts_at i h0 (by rw [h.1]; exact h1)]
theorem FOwnN.fz (h : FOwnN w B g cap n xs) (i : Int) : w.frozen? ⟨g, i.toNat, none⟩ = false := h.2.frozenAt i.toNat
theorem FOwnN.rng (h : FOwnN w B g cap n xs) : B ≤ g ∧ g < w.heap.size := h.2.lt g rfl
theorem FOwnN.set (h : FOwnN w B g cap n xs) (i : Int) (x : Nat) : FOwnN (w.setCell ⟨g, i.toNat, none⟩ (.float .f64 x)) B g cap n (fset xs i x) := by
  have hs := (h.2.stored i.toNat (.float .f64 x)).1
  rw [flts_fset] at hs
  exact ⟨by rw [fset_length, h.1], hs⟩
theorem FOwnN.far (h : FOwnN w B g cap n xs) {p : Addr} (hp : p.block ≠ g) (u : Value) : FOwnN (w.setCell p u) B g cap n xs := ⟨h.1, own_far h.2 hp u⟩
theorem FOwnN.keep (h : FOwnN w B g cap n xs) (hb : Below w.heap.size w w') : FOwnN w' B g cap n xs := ⟨h.1, World.ownsRow.kept h.2 (grown_of hb) (.inr (by simp [Value.ownBlock]))⟩
theorem FOwnN.row (h : FOwnN w B g cap n xs) : FRow w (some ⟨g, 0, none⟩) xs := fun i h0 h1 => ⟨g, 0, rfl, h.rng.2, by rw [Nat.zero_add]; exact h.cell i h0 (by rw [← h.1]; exact h1)⟩
theorem FOwnN.grown (h : FOwnN w B g cap n xs) {row : Option Nat} (hg : w.grownBy w' row) (hn : row ≠ some g) : FOwnN w' B g cap n xs := ⟨h.1, World.ownsRow.kept h.2 hg (.inr (by simp [Value.ownBlock]; exact fun e => hn e.symm))⟩
end
theorem FOwn.cases {w : World} {B : Nat} {v : Value} {xs : List Nat} (h : FOwn w B v xs) :
    (v = .slice none 0 0 ∧ xs = []) ∨ ∃ g cap, v = .slice (some ⟨g, 0, none⟩) xs.length cap ∧ xs.length ≤ cap ∧ cap ≤ maxLen ∧ FOwnN w B g cap xs.length xs := by
  obtain ⟨a, b⟩ := h
  rcases b with ⟨b, c⟩ | ⟨g, cap, cur, hv, hg, hh, r, s, t⟩
  · exact .inl ⟨b, List.length_eq_zero_iff.1 c⟩
  · subst hv
    exact .inr ⟨g, cap, rfl, r, s, rfl, a, .inr ⟨g, cap, cur, rfl, hg, hh, r, s, t⟩⟩
theorem FOwn.row {w : World} {B : Nat} {v : Value} {xs : List Nat} (h : FOwn w B v xs) : ∃ a cap, v = .slice a xs.length cap ∧ FRow w a xs := by
  rcases h.cases with ⟨rfl, rfl⟩ | ⟨g, cap, rfl, _, _, k⟩
  · exact ⟨none, 0, rfl, FRow.nil _ _⟩
  · exact ⟨_, cap, rfl, k.row⟩
theorem FOwn.nil (w : World) (B : Nat) : FOwn w B (.slice none 0 0) [] := World.ownsRow_nil _ _ _ _
/-- Every one is a word. -/
def FW (xs : List Nat) : Prop := ∀ i : Int, fd xs i < 18446744073709551616
end Go.Proofs.YtpggfgkajkgcoaaDoor
