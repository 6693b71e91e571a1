/- The test of a tree, as a truth; an append that must grow. -/
import Derived.Test.YtjeddcijefnbfaaT0
import Derived.Deep.RegionLawGrows
set_option linter.unusedVariables false
set_option linter.unusedSimpArgs false
namespace Go.Proofs.Ytjeddcijefnbfaa
open Go.RowKit

noncomputable def treeB (T up : List Int) (m : Nat) (r : Int) : Bool := @decide (IsTree T up m r) (Classical.propDecidable _)
theorem treeB_of {T up : List Int} {m : Nat} {r : Int} {b : Bool} (h : b = true ↔ IsTree T up m r) : b = treeB T up m r := by
  unfold treeB
  by_cases c : IsTree T up m r
  · rw [h.2 c]
    exact (@decide_eq_true _ (Classical.propDecidable _) c).symm
  · have hb : b = false := by
      cases hb : b with
      | false => rfl
      | true => exact absurd (h.1 hb) c
    rw [hb]
    exact (@decide_eq_false _ (Classical.propDecidable _) c).symm
theorem treeB_len {T up : List Int} {m : Nat} {r : Int} (h : up.length ≠ m) : treeB T up m r = false :=
  @decide_eq_false _ (Classical.propDecidable _) (fun t => h t.len)
section
variable {aT aX aC aU : Option Addr} {cT cX cC cU : Nat} {T X C up : List Int} {m : Nat} {r : Int} {w : World}
theorem right_b (hT : RowOf w aT T) (hU : RowOf w aU up) (he : (T.length : Int) % 2 = 0) (hl : T.length ≤ 240) (hm0 : 0 < m) (hm : m ≤ 60) (hul : up.length ≤ 1000)
    (ht : ∀ d : Int, 0 ≤ d → d < T.length → 0 ≤ rd T d ∧ rd T d < m) :
    Calls Try.prog 18 #[.agg #[.int .i64 m, .slice aT T.length cT, .slice aX X.length cX, .slice aC C.length cC], .slice aU up.length cU, .int .i64 r] w fun e w' => e = .returned (.bool (treeB T up m r)) ∧ Below w.heap.size w w' := by
  refine (right_any hT hU he hl hm0 hm hul ht).mono ?_
  rintro e w' ⟨b, rfl, hb, hB⟩
  exact ⟨by rw [treeB_of hb], hB⟩
theorem rright_b (hT : RowOf w aT T) (hU : RowOf w aU up) (he : (T.length : Int) % 2 = 0) (hl : T.length ≤ 240) (hm0 : 0 < m) (hm : m ≤ 60) (hul : up.length ≤ 1000)
    (ht : ∀ d : Int, 0 ≤ d → d < T.length → 0 ≤ rd T d ∧ rd T d < m) :
    Calls Try.prog 23 #[.agg #[.int .i64 m, .slice aT T.length cT, .slice aX X.length cX, .slice aC C.length cC], .slice aU up.length cU, .int .i64 r] w fun e w' => e = .returned (.bool (treeB T up m r)) ∧ Below w.heap.size w w' := by
  refine (rright_any hT hU he hl hm0 hm hul ht).mono ?_
  rintro e w' ⟨b, rfl, hb, hB⟩
  exact ⟨by rw [treeB_of hb], hB⟩
end
/-- A row that is full, and one number more: a new block. -/
theorem step_grow {ops : Array Oper} {o : Oper} {a : Act} {W : World} {K : Act → World → Prop} {Q : Exit → Act → World → Prop} {E : Prop}
    (hw : Region.wanted o (yielded ops a.tmps) = true) (s x : Operand) (hop : o.op = Op.call { callee := Callee.builtin Builtin.append, args := #[s, x], argTypes := #[22, 22] })
    (g n cap : Nat) (xs : List Int) (hs : a.eval s = .slice (some ⟨g, 0, none⟩) n cap) (hl : xs.length = n) (hr : RowOf W (some ⟨g, 0, none⟩) xs) (hp : 0 < n) (hn : n ≤ 900) (hfull : cap = n)
    (ax : Option Addr) (c : Nat) (y : Int) (hx : a.eval x = .slice ax 1 c) (hy : RowOf W ax [y])
    (hK : ∀ g' cap' w', OwnN w' W.heap.size g' cap' (n + 1) (xs ++ [y]) → Below W.heap.size W w' → K (a.put o.dst (.slice (some ⟨g', 0, none⟩) (n + 1) cap')) w') :
    if Region.wanted o (yielded ops a.tmps) = true then Oper.wp Try.prog o a W K Q else E := by
  obtain ⟨i0, hi, hz0, hz1, hz2⟩ := info_parts info3
  obtain ⟨bx, ox, rfl, _, hcx⟩ := row_cells hy (by simp)
  obtain ⟨b0, o0, e0, _, hc0⟩ := row_cells hr (by omega)
  obtain ⟨rfl, rfl⟩ : g = b0 ∧ 0 = o0 := by simpa using e0
  rw [if_pos hw]
  obtain ⟨v', w', hrun, r1, r2⟩ := run_append_arg_grows (P := Try.prog) W 22 o.type 3 i0 (.int .i64 0) 1 8 Try.underlying22 hi hz0 hz1 hz2 rfl (by omega) ⟨g, 0, none⟩ n cap (nums xs) (by rw [nums_length]; omega) hc0 ⟨bx, ox, none⟩ 1 c (nums [y]) rfl hcx (by omega) (by unfold maxLen; omega) (by omega)
  unfold Oper.wp
  simp [execOp, hop, resolve, invoke, builtin, hs, hx, hrun, Result.andThen]
  have hO : Own w' W.heap.size v' (xs ++ [y]) := by
    unfold Own
    rw [show (xs ++ [y]).length = n + 1 from by simp [hl], show nums (xs ++ [y]) = nums xs ++ nums [y] from by simp [nums]]
    exact r1
  rcases hO.cases with ⟨_, h0⟩ | ⟨g', cap', rfl, _, _, k⟩
  · simp at h0
  · have hlen : (xs ++ [y]).length = n + 1 := by simp [hl]
    rw [hlen] at k ⊢
    exact hK g' cap' w' k (below_grown (Below.refl _ _) r2 (fun k hk => by cases hk))
end Go.Proofs.Ytjeddcijefnbfaa
