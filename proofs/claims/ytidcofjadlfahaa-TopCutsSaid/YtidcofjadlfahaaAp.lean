/- Rows of numbers appended to rows that a call made itself. -/
import Derived.Test.YtidcofjadlfahaaGr
import Derived.Deep.AppendLies
set_option linter.unusedVariables false
namespace Go.Proofs.Ytidcofjadlfahaa
open Go.RowKit

theorem row_cells {w : World} {a : Option Addr} {xs : List Int} (h : RowOf w a xs) (hp : 0 < xs.length) : ∃ b o, a = some ⟨b, o, none⟩ ∧ b < w.heap.size ∧ ∀ j u, (nums xs)[j]? = some u → w.cell? ((⟨b, o, none⟩ : Addr).add j) = some u := by
  obtain ⟨b, o, rfl, hb, _⟩ := h 0 (by omega) (by omega)
  refine ⟨b, o, rfl, hb, fun j u hj => ?_⟩
  have hl : j < xs.length := by
    rcases Nat.lt_or_ge j xs.length with k | k
    · exact k
    · rw [List.getElem?_eq_none (by rw [nums_length]; exact k)] at hj
      cases hj
  obtain ⟨b', o', e, _, hc⟩ := h j (by omega) (by omega)
  obtain ⟨rfl, rfl⟩ : b = b' ∧ o = o' := by simpa using e
  have := nums_at (U := xs) j (by omega) (by omega)
  rw [Int.toNat_natCast] at this hc
  rw [this] at hj
  injection hj with hj
  subst hj
  by_cases e0 : j = 0
  · subst e0
    simpa [Addr.add] using hc
  · simpa [Addr.add, e0] using hc
theorem row_new (w : World) (xs : List Int) : RowOf (w.alloc (.cells (nums xs).toArray 3)) (some ⟨w.heap.size, 0, none⟩) xs := fun i h0 h1 => by
  have hb := box_new w (nums xs).toArray 3
  refine ⟨_, _, rfl, by simp, ?_⟩
  have := hb.cell i.toNat
  rw [Nat.zero_add, this, List.getElem?_toArray, nums_at i h0 h1]
theorem own_lit (w : World) (B : Nat) (xs : List Int) (h : B ≤ w.heap.size) (hl : xs.length ≤ 1000) : OwnN (w.alloc (.cells (nums xs).toArray 3)) B w.heap.size xs.length xs.length xs := by
  have := World.ownsRow_lit (base := B) (e := 3) (size := 1) w (nums xs).toArray xs.length h (by unfold maxLen; omega) (by simp [nums_length])
  exact ⟨rfl, by simpa using this⟩
theorem app_any {ops : Array Oper} {rest : List Oper} {o : Oper} {a : Act} {Q : Exit → Act → World → Prop} {W : World} (hgd : o.guard = none) (s x : Operand)
    (ho : o.op = .call { callee := .builtin .append, args := #[s, x], argTypes := #[22, 22] }) (B : Nat) (v : Value) (xs ys : List Int) (hs : a.eval s = v) (hown : Own W B v xs)
    (ax : Option Addr) (c m : Nat) (hm : ys.length = m) (hx : a.eval x = .slice ax m c) (hr : RowOf W ax ys) (hp : 0 < m) (h1 : xs.length + m ≤ 1000) (hB : B ≤ W.heap.size) (n : Nat) (hn : xs.length + m = n)
    (h : ∀ g cap w', OwnN w' B g cap n (xs ++ ys) → W.grownBy w' v.ownBlock → (v.ownBlock = some g ∨ g = W.heap.size) → wpList Try.prog ops Q rest (a.put o.dst (.slice (some ⟨g, 0, none⟩) n cap)) w') :
    wpList Try.prog ops Q (o :: rest) a W := by
  obtain ⟨i0, hi, hz0, hz1, hz2⟩ := info_parts info3
  subst hm
  obtain ⟨b, off, rfl, hb, hc⟩ := row_cells hr hp
  refine wpList_plain hgd fun K hK => ?_
  refine wp_append_lies W s x 22 ho B 3 i0 (.int .i64 0) 1 8 Try.underlying22 hi hz0 hz1 hz2 rfl (by omega) v xs.length (nums xs) hs hown ⟨b, off, none⟩ ys.length c (nums ys) hx (by rw [nums_length, Nat.mul_one]) hc (by simp [nums, Value.oneCell']) hp (by unfold maxLen; omega) (by omega) hB _ rfl ?_
  intro g cap w' hown' hgrow hat hlt
  subst hn
  refine hK _ _ (h g cap w' ⟨by simp, ?_⟩ hgrow hat)
  rw [show nums (xs ++ ys) = nums xs ++ nums ys from by simp [nums]]
  exact hown'
theorem below_app {w W w1 : World} {v : Value} {B : Nat} {xs : List Int} (hB : Below w.heap.size w W) (ho : Own W B v xs) (hw : w.heap.size ≤ B) (hg : W.grownBy w1 v.ownBlock) : Below w.heap.size w w1 :=
  below_grown hB hg (fun k hk => by have := (World.ownsRow.lt ho k hk).1; omega)
theorem grown_set (w : World) (p : Addr) (u : Value) : w.grownBy (w.setCell p u) (some p.block) := ⟨rfl, rfl, rfl, by rw [size_set]; exact Nat.le_refl _, fun k hk hne => Below.heap_setCell _ _ _ _ (fun e => hne (by rw [e]))⟩
end Go.Proofs.Ytidcofjadlfahaa
