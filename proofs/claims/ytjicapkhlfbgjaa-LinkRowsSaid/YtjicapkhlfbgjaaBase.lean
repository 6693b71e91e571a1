/- What all walks over forests share. -/
import Derived.Test.YtjicapkhlfbgjaaMem
import Derived.Deep.LoopGhost
import Derived.ScopeJumps
import Derived.BigQuiet
import Derived.Deep.QuietTactic
import Derived.RegionTactic
import Derived.BigRegion
import Derived.Outline
namespace Go.Proofs.Ytjicapkhlfbgjaa
open Go.RowKit

theorem wp_scope_ghost {P : Program} {a : Act} {w : World} {Q : Exit → Act → World → Prop} {c rest : Code} (l : Nat) (J : Nat → Act → World → Prop) (hf : findLabel c l = some rest)
    (first : c.wp P (Exit.jump l (fun a w => ∃ n, J n a w) Q) a w)
    (pass : ∀ n a w, J n a w → rest.wp P (Exit.jump l (fun a' w' => ∃ n', n' < n ∧ J n' a' w') Q) a w) : (Code.scope c).wp P Q a w := by
  refine wp_scope_jumps l (fun a w => ∃ n, J n a w) (fun a w => leastOf (fun n => J n a w)) hf first ?_
  intro a w hI
  refine wp_mono (pass _ a w (leastOf_spec hI).1) ?_
  intro e a' w' hq
  cases e with
  | goto l' =>
    obtain ⟨h1, n', hlt, hI'⟩ := hq
    exact ⟨h1, ⟨n', hI'⟩, Nat.lt_of_le_of_lt ((leastOf_spec (p := fun n => J n a' w') ⟨n', hI'⟩).2 n' hI') hlt⟩
  | normal => exact hq
  | exit id => exact hq
  | ret => exact hq
  | panic ch => exact hq
  | outgrown => exact hq

theorem way_more {U : List Int} {x : Int} {l : List Int} (h : Way U x l) (h0 : 0 ≤ x) (hne : (rd U x != -1) = true) : ∃ s, l.length = s.length + 1 ∧ Way U (rd U x) s ∧ lastD l = lastD s ∧ 0 ≤ rd U x := by
  obtain ⟨s, rfl, k⟩ := h.cons h0
  have hne' : rd U x ≠ -1 := by simpa using hne
  rcases k.inv with ⟨a, _⟩ | ⟨a, b, t, rfl, _⟩
  · exact absurd a hne'
  · exact ⟨_, rfl, k, by rw [lastD_cons, if_neg (by simp)], a⟩
theorem way_here {U : List Int} {x : Int} {l : List Int} (h : Way U x l) (h0 : 0 ≤ x) (hne : (rd U x != -1) = false) : lastD l = x := by
  obtain ⟨s, rfl, k⟩ := h.cons h0
  have hne' : rd U x = -1 := by simpa using hne
  rcases k.inv with ⟨_, rfl⟩ | ⟨a, _⟩
  · rfl
  · omega
theorem root_more {U : List Int} {v : Int} {n : Nat} (hg : Good U) (hr : rootV U v = lastD (way U v)) (hl : U.length = n) (h0 : 0 ≤ v) (h1 : v < n) (hne : (rd U v != -1) = true) :
    Way U (rd U v) (way U (rd U v)) ∧ (way U (rd U v)).length = (way U (rd U v)).length ∧ 0 ≤ rd U v ∧ lastD (way U (rd U v)) = rootV U v := by
  obtain ⟨s, e1, e2, e3, e4⟩ := way_more (hg.way v (by omega) (by omega)) h0 hne
  rw [e2.way, hr, e3]
  exact ⟨e2, rfl, e4, rfl⟩
theorem root_here {U : List Int} {v : Int} {n : Nat} (hr : rootV U v = lastD (way U v)) (hl : U.length = n) (h0 : 0 ≤ v) (h1 : v < n) (hne : (rd U v != -1) = false) (hg : Good U) : rootV U v = v := by
  rw [hr, way_here (hg.way v (by omega) (by omega)) h0 hne]
section
variable {w : World} {lo hi g n : Nat} {U W : List Int}
/-- What a call on a forest that may write leaves. -/
def Left (T : TypeId) (lo hi g n : Nat) (w : World) (U W : List Int) (w' : World) : Prop := Forest T w' lo hi g n U W ∧ Rng lo hi w w'
theorem left_same {T : TypeId} (h : Forest T w lo hi g n U W) : Left T lo hi g n w U W w := ⟨h, Rng.refl _ _ _⟩
theorem left_set {T : TypeId} {bu bw cu cw : Nat} (k : ForestAt T w lo hi g bu bw cu cw n U W) (v x y : Int) :
    Left T lo hi g n w (st U v x) (st W v y) ((w.setCell ⟨bu, v.toNat, none⟩ (.int .i64 x)).setCell ⟨bw, v.toNat, none⟩ (.int .i64 y)).drew :=
  ⟨⟨bu, bw, cu, cw, ((k.setU v x).setW v y).drew⟩, (((Rng.refl lo hi w).setCell k.ge.2.1 k.lt.2.1 _).setCell k.ge.2.2 k.lt.2.2 _).drew⟩
end
end Go.Proofs.Ytjicapkhlfbgjaa
