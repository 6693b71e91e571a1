/- Rows of numbers that came in, as the laws are told of them. -/
import Derived.Test.YtidcofjadlfahaaBa
set_option linter.unusedVariables false
namespace Go.Proofs.Ytidcofjadlfahaa
open Go.RowKit

/-- What the walk is told of a row of numbers. -/
def IsRow (k : IntKind) (w : World) (a : Option Addr) (len cap : Nat) (zs : List Int) : Prop :=
  (a = none ∧ len = 0 ∧ cap = 0 ∧ zs = []) ∨
  ∃ x, a = some x ∧ len ≤ cap ∧ cap ≤ maxLen ∧ zs.length = cap ∧ (∀ i, i < zs.length → w.cell? (x.add i) = some (.int k (zs.getD i 0))) ∧ ∀ n ∈ zs, (Lit.int k n).wf = true
theorem IsRow.take {w : World} {a : Option Addr} {len cap : Nat} {zs : List Int} (h : IsRow .i64 w a len cap zs) : RowOf w a (zs.take len) ∧ (zs.take len).length = len ∧ len ≤ maxLen := by
  rcases h with ⟨_, rfl, _, rfl⟩ | ⟨⟨b, o, spot⟩, rfl, hl, hm, hz, hcell, _⟩
  · exact ⟨RowOf.nil _ _, rfl, Nat.zero_le _⟩
  · have hlen : (zs.take len).length = len := by rw [List.length_take]; omega
    refine ⟨fun i h0 h1 => ?_, hlen, by omega⟩
    have hi : i.toNat < zs.length := by omega
    have hc := hcell i.toNat hi
    have hs : spot = none := by
      have := World.cell?_spot (hcell 0 (by omega))
      simpa [Addr.add] using this
    subst hs
    have hr : rd (zs.take len) i = zs.getD i.toNat 0 := by
      unfold rd
      rw [List.getD_eq_getElem?_getD, List.getD_eq_getElem?_getD, List.getElem?_take_of_lt (by omega)]
    have hc' : w.cell? ⟨b, o + i.toNat, none⟩ = some (.int .i64 (rd (zs.take len) i)) := by
      rw [hr, ← hc]
      congr 1
      unfold Addr.add
      split
      · rename_i h
        simp
      · rfl
    refine ⟨b, o, rfl, ?_, hc'⟩
    rcases Nat.lt_or_ge b w.heap.size with h | h
    · exact h
    · rw [World.cell?, Array.getElem?_eq_none h] at hc'
      cases hc'
end Go.Proofs.Ytidcofjadlfahaa
