/- A row of numbers that came in, and what the walks of the laws share. -/
import Derived.Test.YtjicapkhlfbgjaaSt
set_option linter.unusedVariables false
namespace Go.Proofs.Ytjicapkhlfbgjaa
open Go.RowKit

/-- What the walk is told of a row of numbers. -/
def IsRow (k : IntKind) (w : World) (a : Option Addr) (len cap : Nat) (zs : List Int) : Prop :=
  (a = none ∧ len = 0 ∧ cap = 0 ∧ zs = []) ∨
  ∃ x, a = some x ∧ len ≤ cap ∧ cap ≤ maxLen ∧ zs.length = cap ∧ (∀ i, i < zs.length → w.cell? (x.add i) = some (.int k (zs.getD i 0))) ∧ ∀ n ∈ zs, (Lit.int k n).wf = true
/-- Each of the first len cells can be read. -/
def RowOf (w : World) (a : Option Addr) (len : Nat) (zs : List Int) : Prop := ∀ i, i < len → ∃ b o, a = some ⟨b, o, none⟩ ∧ b < w.heap.size ∧ w.cell? ⟨b, o + i, none⟩ = some (.int .i64 (zs.getD i 0))
theorem IsRow.of {w : World} {a : Option Addr} {len cap : Nat} {zs : List Int} (h : IsRow .i64 w a len cap zs) : RowOf w a len zs := by
  intro i hi
  rcases h with ⟨_, rfl, _⟩ | ⟨⟨b, o, spot⟩, rfl, hl, hm, hz, hcell, _⟩
  · omega
  · have hc := hcell i (by omega)
    have hs : spot = none := by
      have := World.cell?_spot (hcell 0 (by omega))
      simpa [Addr.add] using this
    subst hs
    have hc' : w.cell? ⟨b, o + i, none⟩ = some (.int .i64 (zs.getD i 0)) := by
      rw [← hc]
      congr 1
      unfold Addr.add
      split
      · rename_i h
        simp
      · rfl
    refine ⟨b, o, rfl, ?_, hc'⟩
    rcases Nat.lt_or_ge b w.heap.size with h | h
    · exact h
    · rw [World.cell?, Array.getElem?_eq_none h] at hc'
      cases hc'
theorem IsRow.le {w : World} {a : Option Addr} {len cap : Nat} {zs : List Int} (h : IsRow .i64 w a len cap zs) : len ≤ maxLen := by
  rcases h with ⟨_, rfl, _⟩ | ⟨_, _, hl, hm, _⟩
  · exact Nat.zero_le _
  · omega
theorem RowOf.at {w w' : World} {a : Option Addr} {len : Nat} {zs : List Int} (h : RowOf w a len zs) (hb : Below w.heap.size w w') (i : Nat) (hi : i < len) : ∃ b o, a = some ⟨b, o, none⟩ ∧ w'.cell? ⟨b, o + i, none⟩ = some (.int .i64 (zs.getD i 0)) := by
  obtain ⟨b, o, e, hl, hc⟩ := h i hi
  exact ⟨b, o, e, by rw [World.cell?_of_block (w := w) (hb.block b hl)]; exact hc⟩
end Go.Proofs.Ytjicapkhlfbgjaa
