/- slices.Index, Contains, Clip, Clone of rows of numbers. -/
import Derived.Test.YtidcofjadlfahaaAp
import Derived.Test.YtidcofjadlfahaaHd
set_option linter.unusedVariables false
set_option linter.unusedSimpArgs false
namespace Go.Proofs.Ytidcofjadlfahaa
open Go.RowKit

/-- Nil, or at the head of a block of the call's own, whatever capacity it is told with. -/
def OwnK (w : World) (B : Nat) (v : Value) (xs : List Int) : Prop := (v = .slice none 0 0 ∧ xs = []) ∨ ∃ g cap0 cap, v = .slice (some ⟨g, 0, none⟩) xs.length cap ∧ OwnN w B g cap0 xs.length xs
theorem Own.k {w : World} {B : Nat} {v : Value} {xs : List Int} (h : Own w B v xs) : OwnK w B v xs := by
  rcases h.cases with h | ⟨g, cap, rfl, _, _, k⟩
  · exact .inl h
  · exact .inr ⟨g, cap, cap, rfl, k⟩
theorem OwnK.row {w : World} {B : Nat} {v : Value} {xs : List Int} (h : OwnK w B v xs) : ∃ a cap, v = .slice a xs.length cap ∧ RowOf w a xs := by
  rcases h with ⟨rfl, rfl⟩ | ⟨g, _, cap, rfl, k⟩
  · exact ⟨none, 0, rfl, RowOf.nil _ _⟩
  · exact ⟨_, cap, rfl, k.row⟩
theorem OwnK.keep {w w' : World} {B : Nat} {v : Value} {xs : List Int} (h : OwnK w B v xs) (hb : Below w.heap.size w w') : OwnK w' B v xs := by
  rcases h with h | ⟨g, c, cap, e, k⟩
  · exact .inl h
  · exact .inr ⟨g, c, cap, e, k.keep hb⟩
theorem OwnN.low {w : World} {B B' g cap n : Nat} {xs : List Int} (h : OwnN w B g cap n xs) (hB : B' ≤ B) : OwnN w B' g cap n xs := by
  obtain ⟨rfl, h⟩ := h
  exact ⟨rfl, Own.low (xs := xs) h hB⟩
theorem OwnK.low {w : World} {B B' : Nat} {v : Value} {xs : List Int} (h : OwnK w B v xs) (hB : B' ≤ B) : OwnK w B' v xs := by
  rcases h with h | ⟨g, c, cap, e, k⟩
  · exact .inl h
  · exact .inr ⟨g, c, cap, e, k.low hB⟩
def hasB (xs : List Int) (x : Int) : Bool := decide (x ∈ xs)

section
variable {a : Option Addr} {c : Nat} {xs : List Int} {w : World}
theorem clip_any {v : Value} {B : Nat} (h : Own w B v xs) (hl : xs.length ≤ 1000) :
    Calls Try.prog 55 #[v] w fun e w' => ∃ v', e = .returned v' ∧ OwnK w B v' xs ∧ w = w' := by
  rcases h.cases with ⟨rfl, rfl⟩ | ⟨g, cap, rfl, hc1, hc2, k⟩
  · go_enter Try.func55, Try.ntmps55
    go_wp2
    go_ret
    exact ⟨_, rfl, .inl ⟨rfl, rfl⟩, rfl⟩
  · have K := Bx.mk k
    unfold maxLen at hc2
    clear h k
    obtain ⟨n, hn⟩ : ∃ n, xs.length = n := ⟨_, rfl⟩
    rw [hn] at hl hc1 ⊢
    have HN := Bx.mk hn
    clear hn
    go_enter Try.func55, Try.ntmps55
    go_wp2
    refine bodyPost_ret (a := _) (results_tmp (fn := Try.f55) (t := 2) rfl _ _ _) rfl ?_
    exact ⟨_, rfl, .inr ⟨g, cap, n, by rw [HN.out]; rfl, K.out⟩, rfl⟩
theorem clone_any {v : Value} {B : Nat} (h : Own w B v xs) (hl : xs.length ≤ 900) (hnil : xs = [] → v = .slice none 0 0) :
    Calls Try.prog 40 #[v] w fun e w' => ∃ v', e = .returned v' ∧ Own w' w.heap.size v' xs ∧ Below w.heap.size w w' := by
  rcases h.cases with ⟨rfl, rfl⟩ | ⟨g, cap, rfl, hc1, hc2, k⟩
  · have hE := fun (w : World) => Lib.run_eql_slice_nil (P := Try.prog) w 22 3 none 0 0 0 0 Try.underlying22
    go_enter Try.func40, Try.ntmps40
    go_wp2
    go_ret
    exact ⟨_, rfl, Own.nil _ _, Below.refl _ _⟩
  · have hp : 0 < xs.length := by
      rcases Nat.eq_zero_or_pos xs.length with h0 | h0
      · have := hnil (List.length_eq_zero_iff.1 h0)
        simp at this
      · exact h0
    have hr := k.row.keep (below_alloc (Below.refl _ _) (.cells #[] 3))
    have k0 := below_alloc (Below.refl w.heap.size w) (.cells #[] 3)
    have o0 := (own_lit w w.heap.size [] (Nat.le_refl _) (by simp)).own
    have hE := fun (w : World) => Lib.run_eql_slice_nil (P := Try.prog) w 22 3 (some ⟨g, 0, none⟩) xs.length cap 0 0 Try.underlying22
    clear k h hnil
    go_enter Try.func40, Try.ntmps40
    go_wp2_with (at_builtin; refine app_any rfl (.tmp 5) (.tmp 6) rfl w.heap.size _ [] xs rfl o0 (some ⟨g, 0, none⟩) cap xs.length rfl rfl hr hp (by simp; omega) (by simp) xs.length (by simp) ?_; intro g1 p1 w1 q1 gr1 _; have b1 := below_app k0 o0 (Nat.le_refl _) gr1; have q2 := Bx.mk q1; clear q1 gr1 o0 hr)
    go_ret
    exact ⟨_, rfl, q2.out.own, b1⟩
end
end Go.Proofs.Ytidcofjadlfahaa
