/- Two arrays of sixteen beside a forest, and the plain facts that LinkAdds asks. -/
import Derived.Test.YtjicapkhlfbgjaaSo
set_option linter.unusedVariables false
namespace Go.Proofs.Ytjicapkhlfbgjaa
open Go.RowKit

def Arr (w : World) (b : Nat) (T : TypeId) (g : Nat → Value) : Prop := w.heap[b]? = some (.cells ((List.range 16).map g).toArray T (0, 0))
section
variable {w w' : World} {b : Nat} {T : TypeId} {g : Nat → Value}
theorem Arr.cell (h : Arr w b T g) (i : Nat) (hi : i < 16) : w.cell? ⟨b, i, none⟩ = some (g i) := by
  unfold Arr at h
  simp [World.cell?, h, hi]
theorem Arr.fz (h : Arr w b T g) (i : Nat) : w.frozen? ⟨b, i, none⟩ = false := by
  unfold Arr at h
  simp [World.frozen?, h]
theorem Arr.lt (h : Arr w b T g) : b < w.heap.size := by
  unfold Arr at h
  rcases Nat.lt_or_ge b w.heap.size with k | k
  · exact k
  · rw [Array.getElem?_eq_none k] at h
    cases h
theorem Arr.congr {g' : Nat → Value} (h : Arr w b T g) (e : ∀ i, i < 16 → g i = g' i) : Arr w b T g' := by
  unfold Arr at *
  rw [h]
  congr 3
  exact List.map_congr_left (fun i hi => e i (List.mem_range.1 hi))
theorem Arr.set (h : Arr w b T g) (i : Nat) (v : Value) : Arr (w.setCell ⟨b, i, none⟩ v) b T (fun j => if j = i then v else g j) := by
  unfold Arr at *
  simp only [World.setCell, Array.getElem?_modify, h, if_true, Option.map_some]
  simp only [Option.isSome_none, Bool.false_eq_true, if_false, List.setIfInBounds_toArray]
  congr 3
  apply List.ext_getElem
  · simp
  · intro j h1 h2
    simp only [List.getElem_set, List.getElem_map, List.getElem_range]
    by_cases e : i = j
    · subst e
      simp
    · rw [if_neg e, if_neg (fun k => e k.symm)]
theorem Arr.rng {lo hi : Nat} (h : Arr w b T g) (hr : Rng lo hi w w') (hd : b < lo ∨ hi ≤ b) : Arr w' b T g := by
  have hl := h.lt
  unfold Arr at *
  rw [hr.block b hl hd, h]
theorem Arr.other (h : Arr w b T g) {p : Addr} (hp : p.block ≠ b) (v : Value) : Arr (w.setCell p v) b T g := by
  unfold Arr at *
  rw [Below.heap_setCell _ _ _ _ (fun e => hp e.symm), h]
end

theorem Forest.sz {T : TypeId} {w : World} {lo hi f n : Nat} {U W : List Int} (h : Forest T w lo hi f n U W) : lo ≤ hi ∧ hi ≤ w.heap.size := by
  obtain ⟨_, _, _, _, k⟩ := h
  exact ⟨by have := k.ge.1; have := k.lt.1; omega, k.size⟩

/-- A forest, and two arrays behind it. -/
structure Ads (w0 w : World) (lo hi f n : Nat) (U W : List Int) (A B : Nat) (G H : Nat → Value) : Prop where
  S : Solo w0 w lo hi f n U W
  a : Arr w A 44 G
  b : Arr w B 45 H
  ha : hi ≤ A
  hb : hi ≤ B
  ne : A ≠ B
  le : lo ≤ hi
section
variable {w0 w w' : World} {lo hi f n A B : Nat} {U W U1 W1 : List Int} {G H : Nat → Value}
theorem Solo.kept (h : Solo w0 w lo hi f n U W) {lo' hi' : Nat} (hr : Rng lo' hi' w w') (h1 : hi ≤ lo') (h2 : lo ≤ hi) : Solo w0 w' lo hi f n U W :=
  ⟨h.ge, h.F.other hr (.inl h1), h.B.trans (hr.below (by have := h.ge; omega) h.B.size)⟩
theorem Ads.p (h : Ads w0 w lo hi f n U W A B G H) (l : Left 52 lo hi f n w U1 W1 w') : Ads w0 w' lo hi f n U1 W1 A B G H :=
  ⟨h.S.p l, h.a.rng l.2 (.inr h.ha), h.b.rng l.2 (.inr h.hb), h.ha, h.hb, h.ne, h.le⟩
theorem Ads.seta (h : Ads w0 w lo hi f n U W A B G H) (i : Nat) (v : Value) : Ads w0 (w.setCell ⟨A, i, none⟩ v) lo hi f n U W A B (fun j => if j = i then v else G j) H :=
  ⟨h.S.kept ((Rng.refl hi (A + 1) w).setCell (p := ⟨A, i, none⟩) h.ha (Nat.lt_succ_self A) v) (Nat.le_refl _) h.le, h.a.set i v, h.b.other h.ne v, h.ha, h.hb, h.ne, h.le⟩
theorem Ads.setb (h : Ads w0 w lo hi f n U W A B G H) (i : Nat) (v : Value) : Ads w0 (w.setCell ⟨B, i, none⟩ v) lo hi f n U W A B G (fun j => if j = i then v else H j) :=
  ⟨h.S.kept ((Rng.refl hi (B + 1) w).setCell (p := ⟨B, i, none⟩) h.hb (Nat.lt_succ_self B) v) (Nat.le_refl _) h.le, h.a.other h.ne.symm v, h.b.set i v, h.ha, h.hb, h.ne, h.le⟩
theorem Ads.congr (h : Ads w0 w lo hi f n U W A B G H) {G' H' : Nat → Value} (e1 : ∀ i, i < 16 → G i = G' i) (e2 : ∀ i, i < 16 → H i = H' i) : Ads w0 w lo hi f n U W A B G' H' :=
  ⟨h.S, h.a.congr e1, h.b.congr e2, h.ha, h.hb, h.ne, h.le⟩
theorem Ads.drew (h : Ads w0 w lo hi f n U W A B G H) : Ads w0 w.drew lo hi f n U W A B G H :=
  ⟨h.S.drew, h.a.rng (Rng.refl 0 0 w).drew (.inr (Nat.zero_le _)), h.b.rng (Rng.refl 0 0 w).drew (.inr (Nat.zero_le _)), h.ha, h.hb, h.ne, h.le⟩
end
/-- The weights ahead of the adding, of the first i. -/
def gw (U W : List Int) (i : Nat) (j : Nat) : Value := .int .i64 (if j < i then wtA U W j else 0)
/-- What is on a way. -/
def gu (D : List Int) (j : Nat) : Value := .bool (decide ((j : Int) ∈ D))
theorem ads_start {w0 w : World} {lo hi f n : Nat} {U W : List Int} (h : Solo w0 w lo hi f n U W) (hle : lo ≤ hi) (hs : hi ≤ w.heap.size) (o1 o2 : Obj)
    (e1 : o1 = .cells ((List.range 16).map (gw U W 0)).toArray 44) (e2 : o2 = .cells ((List.range 16).map (gu [])).toArray 45) :
    Ads w0 ((w.alloc o1).alloc o2) lo hi f n U W w.heap.size (w.heap.size + 1) (gw U W 0) (gu []) := by
  subst e1
  subst e2
  have hr : Rng hi hi w ((w.alloc (.cells ((List.range 16).map (gw U W 0)).toArray 44)).alloc (.cells ((List.range 16).map (gu [])).toArray 45)) := ((Rng.refl hi hi w).alloc _).alloc _
  refine ⟨h.kept hr (Nat.le_refl _) hle, ?_, ?_, hs, by omega, by omega, hle⟩
  · unfold Arr World.alloc
    simp [Array.getElem?_push]
  · have := Array.getElem?_push_size (xs := w.heap.push (.cells ((List.range 16).map (gw U W 0)).toArray 44)) (x := .cells ((List.range 16).map (gu [])).toArray 45)
    rw [Array.size_push] at this
    exact this
theorem gw_next {U W : List Int} (i : Nat) : ∀ j, j < 16 → (if j = i then (Value.int .i64 (wtA U W i)) else gw U W i j) = gw U W (i + 1) j := by
  intro j _
  unfold gw
  by_cases e : j = i
  · subst e
    simp
  · rw [if_neg e]
    congr 1
    by_cases k : j < i
    · rw [if_pos k, if_pos (by omega)]
    · rw [if_neg k, if_neg (by omega)]
theorem gu_next {D : List Int} (y : Int) (h0 : 0 ≤ y) : ∀ j, j < 16 → (if j = y.toNat then (Value.bool true) else gu D j) = gu (D ++ [y]) j := by
  intro j _
  unfold gu
  by_cases e : j = y.toNat
  · subst e
    have : ((y.toNat : Nat) : Int) = y := by omega
    simp [this]
  · rw [if_neg e]
    congr 1
    have : ¬ (j : Int) = y := by omega
    simp [this]
theorem add_after {U W : List Int} {a b z : Int} (hg : Good U) (h0 : 0 ≤ a) (h1 : a < U.length) (hl : W.length = U.length) (hz : 0 ≤ z) (hz1 : z < U.length) :
    wtA U (addedW U W a b) z = if z ∈ (way U a).dropLast then wrap64 (wtA U W z + b) else wtA U W z := by
  have hv : isv U a = true := isv_iff.2 ⟨h0, h1⟩
  have hvz : isv U z = true := isv_iff.2 ⟨hz, hz1⟩
  have hw := hg.way a (by omega) h1
  have e : rd (addedW U W a b) z = if z ∈ (way U a).dropLast then wrap64 (rd W z + b) else rd W z := by
    unfold addedW
    rw [if_pos hv]
    exact addL_rd b _ W hw.nodup (fun y hy => by have := hw.mem hy; omega) z hz
  unfold wtA
  simp only [hvz, Bool.true_and]
  by_cases hn : rd U z = -1
  · have hno : z ∉ (way U a).dropLast := by
      intro hm
      obtain ⟨p, e⟩ := hw.at_root (List.dropLast_subset _ hm) hn
      have hnd := hw.nodup
      rw [e, List.dropLast_concat] at hm
      rw [e] at hnd
      simp [List.nodup_append] at hnd
      exact hnd.2 z hm rfl
    simp [hn, hno]
  · have hb : (rd U z != -1) = true := by simpa using hn
    simp only [hb, if_true]
    exact e
theorem up_next {U : List Int} {y : Int} {l : List Int} (hg : Good U) (h : Way U y l) (h0 : 0 ≤ y) (h1 : y < U.length) (hu : hasUp U y = true) :
    ∃ l2, l.length = l2.length + 1 ∧ 0 ≤ upA U y ∧ upA U y < U.length ∧ Way U (upA U y) l2 ∧ l.dropLast = y :: l2.dropLast := by
  obtain ⟨hn, hr0, hr1, hup⟩ := up_facts hg h0 h1 hu
  obtain ⟨s, rfl, hs⟩ := h.cons h0
  obtain ⟨s2, rfl, _⟩ := hs.cons hr0
  rw [hup]
  exact ⟨_, rfl, hr0, hr1, hs, List.dropLast_cons_cons⟩
theorem up_end {U : List Int} {y : Int} {l : List Int} (h : Way U y l) (h0 : 0 ≤ y) (hu : hasUp U y = false) : l.dropLast = [] := by
  obtain ⟨s, rfl, hs⟩ := h.cons h0
  have hy := h.mem (x := y) (by simp)
  have hr : rd U y = -1 := by
    have hv : isv U y = true := isv_iff.2 hy
    simpa [hasUp, hv] using hu
  have hs0 : s = [] := by
    rcases hs.inv with ⟨_, e⟩ | ⟨e, _⟩
    · exact e
    · omega
  rw [hs0]
  rfl
end Go.Proofs.Ytjicapkhlfbgjaa
