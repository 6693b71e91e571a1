/- One forest through a law, and the plain facts that LinkLeast asks. -/
import Derived.Test.YtjicapkhlfbgjaaDu
set_option linter.unusedVariables false
namespace Go.Proofs.Ytjicapkhlfbgjaa
open Go.RowKit

/-- The program's forest alone, in the blocks from lo to hi. -/
structure Solo (w0 w : World) (lo hi f n : Nat) (U W : List Int) : Prop where
  ge : w0.heap.size ≤ lo
  F : Forest 52 w lo hi f n U W
  B : Below w0.heap.size w0 w
section
variable {w0 w w' : World} {lo hi f n : Nat} {U W U1 W1 : List Int}
theorem Solo.p (h : Solo w0 w lo hi f n U W) (l : Left 52 lo hi f n w U1 W1 w') : Solo w0 w' lo hi f n U1 W1 :=
  ⟨h.ge, l.1, h.B.trans (l.2.below h.ge h.B.size)⟩
theorem Solo.drew (h : Solo w0 w lo hi f n U W) : Solo w0 w.drew lo hi f n U W :=
  ⟨h.ge, h.F.other (Rng.refl 0 0 _).drew (.inr (Nat.zero_le _)), h.B.trans ((Rng.refl lo lo _).drew.below h.ge h.B.size)⟩
end

/-- Of no more than n numbers none comes twice. -/
theorem few : ∀ (n : Nat) (l : List Int), l.Nodup → (∀ z, z ∈ l → 0 ≤ z ∧ z < n) → l.length ≤ n
  | 0, l, _, h => by
    cases l with
    | nil => simp
    | cons v l => have := h v (by simp); omega
  | n + 1, l, hn, h => by
    have h1 : (l.erase (n : Int)).length ≤ n := by
      refine few n _ (hn.erase _) (fun z hz => ?_)
      have hz' := (List.Nodup.mem_erase_iff hn).1 hz
      have := h z hz'.2
      have : z ≠ n := hz'.1
      omega
    have h2 : l.length ≤ (l.erase (n : Int)).length + 1 := by
      rw [List.length_erase]
      split <;> omega
    omega
theorem way_le {U : List Int} {v : Int} {m : Nat} (hg : Good U) (h0 : 0 ≤ v) (h1 : v < U.length) (hl : U.length = m := by omega) : (way U v).length ≤ m := by
  have h := hg.way v (by omega) h1
  exact few m _ h.nodup (fun z hz => by have := h.mem hz; omega)

/-- How what was told of the least fits the rest of the way. -/
def Fit (W : List Int) (ta tw : Int) (tb : Bool) (d : List Int) (met : Bool) : Prop :=
  (met = false ∧ tb = false ∧ ta = 0 ∧ tw = 0 ∧ d = []) ∨
  (met = false ∧ tb = true ∧ tw = rd W ta ∧ ∃ p s, d = p ++ ta :: s ∧ (∀ z, z ∈ p → tw ≤ rd W z) ∧ ∀ z, z ∈ s → tw < rd W z) ∨
  (met = true ∧ tb = true ∧ tw = rd W ta ∧ ∀ z, z ∈ d → tw < rd W z)
theorem least_fit {U W : List Int} {v ta tw : Int} {tb : Bool} (hg : Good U) (h0 : 0 ≤ v) (h1 : v < U.length) (ht : leastT U W v = (ta, tw, tb)) : Fit W ta tw tb (way U v).dropLast false := by
  unfold leastT at ht
  rw [if_pos (isv_iff.2 ⟨h0, h1⟩)] at ht
  rcases leastL_spec W (way U v) (0, 0, false) with ⟨e, k⟩ | ⟨p, y, s, e, e', k1, k2, k3⟩
  · rw [ht] at e
    simp only [Prod.mk.injEq] at e
    obtain ⟨rfl, rfl, rfl⟩ := e
    refine .inl ⟨rfl, rfl, rfl, rfl, ?_⟩
    cases hd : (way U v).dropLast with
    | nil => rfl
    | cons y l =>
      have := (k y (by rw [hd]; simp)).1
      cases this
  · rw [ht] at e'
    simp only [Prod.mk.injEq] at e'
    obtain ⟨rfl, rfl, rfl⟩ := e'
    exact .inr (.inl ⟨rfl, rfl, rfl, p, s, e, k1, k2⟩)
theorem fit_end {U W : List Int} {y ta tw : Int} {tb met : Bool} {l : List Int} (h : Way U y l) (h0 : 0 ≤ y) (hu : hasUp U y = false) (hf : Fit W ta tw tb l.dropLast met) :
    (met = false ∧ tb = false ∧ ta = 0 ∧ tw = 0) ∨ (met = true ∧ tb = true) := by
  obtain ⟨s, rfl, hs⟩ := h.cons h0
  have hy := h.mem (x := y) (by simp)
  have hr : rd U y = -1 := by
    have hv : isv U y = true := isv_iff.2 hy
    simpa [hasUp, hv] using hu
  have hs0 : s = [] := by
    rcases hs.inv with ⟨_, e⟩ | ⟨e, _⟩
    · exact e
    · omega
  subst hs0
  rcases hf with ⟨a, b, c, d, _⟩ | ⟨_, _, _, p, s, e, _⟩ | ⟨a, b, _⟩
  · exact .inl ⟨a, b, c, d⟩
  · simp at e
  · exact .inr ⟨a, b⟩
theorem fit_next {U W : List Int} {y ta tw : Int} {tb met : Bool} {l : List Int} (hg : Good U) (h : Way U y l) (h0 : 0 ≤ y) (h1 : y < U.length) (hu : hasUp U y = true) (hf : Fit W ta tw tb l.dropLast met) :
    ∃ l2, l.length = l2.length + 1 ∧ 0 ≤ upA U y ∧ Way U (upA U y) l2 ∧ ¬ wtA U W y < tw ∧
      (y = ta → met = false ∧ wtA U W y = tw ∧ tb = true ∧ Fit W ta tw tb l2.dropLast true) ∧
      (y ≠ ta → (met = true → ¬ wtA U W y ≤ tw) ∧ Fit W ta tw tb l2.dropLast met) := by
  obtain ⟨hn, hr0, hr1, hup⟩ := up_facts hg h0 h1 hu
  have hv : isv U y = true := isv_iff.2 ⟨h0, h1⟩
  have hwt : wtA U W y = rd W y := by simp [wtA, hv, hn]
  obtain ⟨s, rfl, hs⟩ := h.cons h0
  obtain ⟨s2, rfl, _⟩ := hs.cons hr0
  have hnd := h.nodup
  rw [hup, hwt]
  refine ⟨_, rfl, hr0, hs, ?_⟩
  rw [List.dropLast_cons_cons] at hf
  have hyn : y ∉ rd U y :: s2 := (List.nodup_cons.1 hnd).1
  have hsub : ∀ z, z ∈ (rd U y :: s2).dropLast → z ∈ rd U y :: s2 := fun z hz => List.dropLast_subset _ hz
  rcases hf with ⟨_, _, _, _, e⟩ | ⟨rfl, rfl, e1, p, s, e, k1, k2⟩ | ⟨rfl, rfl, e1, k⟩
  · simp at e
  · cases p with
    | nil =>
      simp only [List.nil_append, List.cons.injEq] at e
      obtain ⟨rfl, e⟩ := e
      refine ⟨by omega, fun _ => ⟨rfl, e1.symm, rfl, .inr (.inr ⟨rfl, rfl, e1, fun z hz => k2 z (by rw [← e]; exact hz)⟩)⟩, fun h => absurd rfl h⟩
    | cons z p =>
      simp only [List.cons_append, List.cons.injEq] at e
      obtain ⟨rfl, e⟩ := e
      have hz := k1 y (by simp)
      refine ⟨by omega, fun hh => ?_, fun _ => ⟨(by intro h; cases h), .inr (.inl ⟨rfl, rfl, e1, p, s, e, fun z hz => k1 z (List.mem_cons_of_mem _ hz), k2⟩)⟩⟩
      exact absurd (hsub ta (by rw [e]; simp)) (by rw [← hh]; exact hyn)
  · have hk := k y (by simp)
    refine ⟨by omega, fun hh => ?_, fun _ => ⟨fun _ => by omega, .inr (.inr ⟨rfl, rfl, e1, fun z hz => k z (List.mem_cons_of_mem _ hz)⟩)⟩⟩
    subst hh
    omega
end Go.Proofs.Ytjicapkhlfbgjaa
