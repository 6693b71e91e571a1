/- A row of vertices, each hung on the one ahead of it: plain facts that LinkRows asks. -/
import Derived.Test.YtjicapkhlfbgjaaSo
set_option linter.unusedVariables false
namespace Go.Proofs.Ytjicapkhlfbgjaa
open Go.RowKit

/-- From k down to 0. -/
def down : Nat → List Int
  | 0 => [0]
  | k + 1 => ((k + 1 : Nat) : Int) :: down k
theorem down_mem : ∀ (k : Nat) (z : Int), z ∈ down k ↔ 0 ≤ z ∧ z ≤ k
  | 0, z => by
    simp only [down, List.mem_singleton]
    omega
  | k + 1, z => by
    simp only [down, List.mem_cons, down_mem k z]
    omega
theorem down_ne (k : Nat) : down k ≠ [] := by cases k <;> simp [down]
theorem down_desc : ∀ k : Nat, (down k).Pairwise (· > ·)
  | 0 => by simp [down]
  | k + 1 => by
    rw [down, List.pairwise_cons]
    refine ⟨fun z hz => ?_, down_desc k⟩
    have := (down_mem k z).1 hz
    omega
theorem down_last (k : Nat) : lastD (down k) = 0 := by
  induction k with
  | zero => rfl
  | succ k ih => rw [down, lastD_cons, if_neg (down_ne k), ih]
theorem down_drop : ∀ (k : Nat) (z : Int), z ∈ (down k).dropLast ↔ 1 ≤ z ∧ z ≤ k
  | 0, z => by
    simp only [down, List.dropLast_singleton, List.not_mem_nil, false_iff]
    omega
  | k + 1, z => by
    have e : (down (k + 1)).dropLast = ((k + 1 : Nat) : Int) :: (down k).dropLast := by
      rw [down]
      cases h : down k with
      | nil => exact absurd h (down_ne k)
      | cons x l => rw [List.dropLast_cons_cons]
    rw [e, List.mem_cons, down_drop k z]
    omega

/-- The first i vertices are a row. -/
structure Chain (m : Nat) (zs U W : List Int) (i : Int) : Prop where
  lu : U.length = m
  lw : W.length = m
  good : Good U
  up : ∀ z : Int, 0 ≤ z → z < m → rd U z = if 1 ≤ z ∧ z < i then z - 1 else -1
  wt : ∀ z : Int, 0 ≤ z → z < m → rd W z = if 1 ≤ z ∧ z < i then wi (zs.getD (z - 1).toNat 0) 100 else 0
theorem chain_start (m : Nat) (zs : List Int) : Chain m zs (zeros (-1) m) (zeros 0 m) 1 :=
  ⟨zeros_length _ _, zeros_length _ _, good_zeros m, fun z h0 h1 => by rw [rd_zeros _ _ _ h0 h1, if_neg (by omega)], fun z h0 h1 => by rw [rd_zeros _ _ _ h0 h1, if_neg (by omega)]⟩
section
variable {m : Nat} {zs U W : List Int} {i : Int}
theorem Chain.down (h : Chain m zs U W i) : ∀ k : Nat, (k : Int) < i → (k : Int) < m → Way U k (down k)
  | 0, _, hm => .step (by omega) (by rw [h.lu]; exact hm) (by rw [h.up _ (by omega) hm, if_neg (by omega)]; exact .root)
  | k + 1, hk, hm => by
    refine .step (by omega) (by rw [h.lu]; exact hm) ?_
    rw [h.up _ (by omega) hm, if_pos (by omega), show ((k + 1 : Nat) : Int) - 1 = k from by omega]
    exact Chain.down h k (by omega) (by omega)
theorem Chain.next (h : Chain m zs U W i) (h0 : 1 ≤ i) (h1 : i < m) :
    linkE U i (i - 1) = 0 ∧ Chain m zs (linkU U i (i - 1)) (linkW U W i (i - 1) (wi (zs.getD (i - 1).toNat 0) 100)) (i + 1) := by
  obtain ⟨k, hk⟩ : ∃ k : Nat, (k : Int) = i - 1 := ⟨(i - 1).toNat, by omega⟩
  have hw := h.down k (by omega) (by omega)
  have e : linkE U i (i - 1) = 0 := by
    have i1 : isv U i = true := isv_iff.2 ⟨by omega, by rw [h.lu]; exact h1⟩
    have i2 : isv U (i - 1) = true := isv_iff.2 ⟨by omega, by rw [h.lu]; omega⟩
    unfold linkE
    rw [if_neg (by simp [i1, i2]), if_neg (by rw [h.up i (by omega) h1, if_neg (by omega)]; simp), if_neg]
    rw [← hk, hw.root_eq, down_last]
    omega
  refine ⟨e, by rw [linkU_length, h.lu], by rw [linkW_length, h.lw], h.good.link _ _, fun z a b => ?_, fun z a b => ?_⟩
  · rw [linkU, if_pos e, rd_st _ _ _ _ (by omega) (by rw [h.lu]; exact h1) a]
    by_cases hz : z = i
    · rw [if_pos hz, if_pos (by omega), hz]
    · rw [if_neg hz, h.up z a b]
      by_cases k1 : 1 ≤ z ∧ z < i
      · rw [if_pos k1, if_pos (by omega)]
      · rw [if_neg k1, if_neg (by omega)]
  · rw [linkW, if_pos e, rd_st _ _ _ _ (by omega) (by rw [h.lw]; exact h1) a]
    by_cases hz : z = i
    · rw [if_pos hz, if_pos (by omega), hz]
    · rw [if_neg hz, h.wt z a b]
      by_cases k1 : 1 ≤ z ∧ z < i
      · rw [if_pos k1, if_pos (by omega)]
      · rw [if_neg k1, if_neg (by omega)]
/-- What is told of the least edge of the whole row. -/
theorem Chain.least (h : Chain m zs U W i) (hi : i = m) (h0 : 0 < m) {ta tw : Int} {tb : Bool} (ht : leastT U W ((m : Int) - 1) = (ta, tw, tb)) :
    (m = 1 ∧ tb = false) ∨ (1 < m ∧ tb = true ∧ ∀ z : Int, 1 ≤ z → z < m → tw ≤ wi (zs.getD (z - 1).toNat 0) 100 ∧ (z < ta → tw < wi (zs.getD (z - 1).toNat 0) 100)) := by
  obtain ⟨k, hk⟩ : ∃ k : Nat, (k : Int) = (m : Int) - 1 := ⟨m - 1, by omega⟩
  have hw := h.down k (by omega) (by omega)
  have hwt : ∀ z : Int, 1 ≤ z → z < m → rd W z = wi (zs.getD (z - 1).toNat 0) 100 := fun z a b => by rw [h.wt z (by omega) b, if_pos (by omega)]
  unfold leastT at ht
  rw [← hk, if_pos (isv_iff.2 ⟨by omega, by rw [h.lu]; omega⟩), hw.way] at ht
  rcases leastL_spec W (Ytjicapkhlfbgjaa.down k) (0, 0, false) with ⟨e, q⟩ | ⟨p, y, s, e, e', k1, k2, k3⟩
  · rw [ht] at e
    simp only [Prod.mk.injEq] at e
    refine .inl ⟨?_, e.2.2⟩
    rcases Nat.lt_or_ge 1 m with hm | hm
    · have := (q 1 ((down_drop k 1).2 (by omega))).1
      cases this
    · omega
  · rw [ht] at e'
    simp only [Prod.mk.injEq] at e'
    obtain ⟨rfl, rfl, rfl⟩ := e'
    have hd : (Ytjicapkhlfbgjaa.down k).dropLast.Pairwise (· > ·) := List.Pairwise.sublist (List.dropLast_sublist _) (down_desc k)
    have hy := (down_drop k ta).1 (by rw [e]; simp)
    refine .inr ⟨by omega, rfl, fun z a b => ?_⟩
    have hz : z ∈ p ++ ta :: s := by rw [← e]; exact (down_drop k z).2 (by omega)
    rw [← hwt z a b]
    rw [e, List.pairwise_append] at hd
    rcases List.mem_append.1 hz with hz | hz
    · have := hd.2.2 z hz ta (by simp)
      exact ⟨k1 z hz, fun _ => by omega⟩
    · rcases List.mem_cons.1 hz with rfl | hz
      · exact ⟨Int.le_refl _, fun _ => by omega⟩
      · have := k2 z hz
        exact ⟨by omega, fun _ => this⟩
theorem turn_down : ∀ (k : Nat) (U : List Int) (last z : Int), (k : Int) < U.length → 0 ≤ z → z < U.length →
    rd (turnU U (Ytjicapkhlfbgjaa.down k) last) z = if z ≤ k then (if z = k then last else z + 1) else rd U z
  | 0, U, last, z, hk, h0, h1 => by
    rw [Ytjicapkhlfbgjaa.down, turnU, turnU, rd_st _ _ _ _ (by omega) (by omega) h0]
    by_cases e : z = 0
    · rw [if_pos e, if_pos (by omega), if_pos (by omega)]
    · rw [if_neg e, if_neg (by omega)]
  | k + 1, U, last, z, hk, h0, h1 => by
    rw [Ytjicapkhlfbgjaa.down, turnU, turn_down k _ _ _ (by rw [st_length]; omega) h0 (by rw [st_length]; exact h1)]
    by_cases e : z ≤ k
    · have e3 : z ≤ ((k + 1 : Nat) : Int) := by omega
      have e4 : ¬ z = ((k + 1 : Nat) : Int) := by omega
      rw [if_pos e, if_pos e3, if_neg e4]
      by_cases e2 : z = k
      · rw [if_pos e2]
        omega
      · rw [if_neg e2]
    · rw [if_neg e, rd_st _ _ _ _ (by omega) (by omega) h0]
      by_cases e2 : z = ((k + 1 : Nat) : Int)
      · have e3 : z ≤ ((k + 1 : Nat) : Int) := by omega
        rw [if_pos e2, if_pos e3, if_pos e2]
      · have e3 : ¬ z ≤ ((k + 1 : Nat) : Int) := by omega
        rw [if_neg e2, if_neg e3]
/-- The row, turned to t. -/
theorem Chain.turned (h : Chain m zs U W i) (hi : i = m) {t : Int} (h0 : 0 ≤ t) (h1 : t < m) :
    ∀ z : Int, 0 ≤ z → z < m → rd (turnedU U t) z = if z = t then -1 else if z < t then z + 1 else z - 1 := by
  intro z a b
  obtain ⟨k, rfl⟩ : ∃ k : Nat, t = k := ⟨t.toNat, by omega⟩
  unfold turnedU
  rw [if_pos (isv_iff.2 ⟨h0, by rw [h.lu]; exact h1⟩), (h.down k (by omega) h1).way, turn_down k _ _ _ (by rw [h.lu]; exact h1) a (by rw [h.lu]; exact b)]
  by_cases e : z = k
  · have e3 : z ≤ (k : Int) := by omega
    rw [if_pos e3, if_pos e, if_pos e]
  · rw [if_neg e, if_neg e]
    by_cases e2 : z < k
    · have e3 : z ≤ (k : Int) := by omega
      rw [if_pos e3, if_pos e2]
    · have e3 : ¬ z ≤ (k : Int) := by omega
      have e4 : 1 ≤ z ∧ z < i := by omega
      rw [if_neg e3, if_neg e2, h.up z a b, if_pos e4]
end
/-- Going up by ones, or down by ones, to where it ends. -/
theorem run_up (U : List Int) : ∀ (k : Nat) (x e : Int), e = x + k → 0 ≤ x → e < U.length → (∀ z, x ≤ z → z < e → rd U z = z + 1) → rd U e = -1 → ∃ l, Way U x l ∧ lastD l = e
  | 0, x, e, he, h0, h1, _, hr => by
    obtain rfl : e = x := by omega
    exact ⟨[e], .step h0 h1 (by rw [hr]; exact .root), rfl⟩
  | k + 1, x, e, he, h0, h1, hz, hr => by
    obtain ⟨l, hl, hd⟩ := run_up U k (x + 1) e (by omega) (by omega) h1 (fun z a b => hz z (by omega) b) hr
    refine ⟨x :: l, .step h0 (by omega) (by rw [hz x (by omega) (by omega)]; exact hl), ?_⟩
    obtain ⟨s, rfl, _⟩ := hl.cons (by omega)
    rw [lastD_cons, if_neg (by simp), hd]
theorem run_down (U : List Int) : ∀ (k : Nat) (x e : Int), x = e + k → 0 ≤ e → x < U.length → (∀ z, e < z → z ≤ x → rd U z = z - 1) → rd U e = -1 → ∃ l, Way U x l ∧ lastD l = e
  | 0, x, e, he, h0, h1, _, hr => by
    obtain rfl : e = x := by omega
    exact ⟨[e], .step h0 h1 (by rw [hr]; exact .root), rfl⟩
  | k + 1, x, e, he, h0, h1, hz, hr => by
    obtain ⟨l, hl, hd⟩ := run_down U k (x - 1) e (by omega) h0 (by omega) (fun z a b => hz z a (by omega)) hr
    refine ⟨x :: l, .step (by omega) h1 (by rw [hz x (by omega) (by omega)]; exact hl), ?_⟩
    obtain ⟨s, rfl, _⟩ := hl.cons (by omega)
    rw [lastD_cons, if_neg (by simp), hd]
/-- Cut at c: who hangs on whom. -/
theorem parted {m : Nat} {U : List Int} {t c : Int} (hl : U.length = m) (ht0 : 0 ≤ t) (ht1 : t < m) (hc0 : 0 ≤ c) (hc1 : c < m) (hne : c ≠ t)
    (hu : ∀ z : Int, 0 ≤ z → z < m → rd U z = if z = t then -1 else if z < t then z + 1 else z - 1) :
    cutE U c = 0 ∧ ∀ z : Int, 0 ≤ z → z < m →
      rootA (cutU U c) z = if (c < t ∧ z ≤ c) ∨ (t < c ∧ c ≤ z) then c else t := by
  have hv : isv U c = true := isv_iff.2 ⟨hc0, by omega⟩
  have hcn : rd U c ≠ -1 := by
    rw [hu c hc0 hc1, if_neg hne]
    split <;> omega
  have e0 : cutE U c = 0 := by simp [cutE, hv, hcn]
  refine ⟨e0, fun z h0 h1 => ?_⟩
  rw [cutU, if_pos e0]
  have hl2 : (st U c (-1)).length = m := by rw [st_length, hl]
  have hu2 : ∀ z : Int, 0 ≤ z → z < m → z ≠ c → rd (st U c (-1)) z = if z = t then -1 else if z < t then z + 1 else z - 1 := fun z a b k => by
    rw [rd_st _ _ _ _ hc0 (by omega) a, if_neg k, hu z a b]
  have hc2 : rd (st U c (-1)) c = -1 := rd_st_same _ _ _ hc0 (by omega)
  have ht2 : rd (st U c (-1)) t = -1 := by rw [hu2 t ht0 ht1 (fun e => hne e.symm), if_pos rfl]
  have fin : ∀ e : Int, (∃ l, Way (st U c (-1)) z l ∧ lastD l = e) → rootA (st U c (-1)) z = e := by
    rintro e ⟨l, a, b⟩
    rw [rootA_of h0 (by omega), a.root_eq, b]
  by_cases hk : (c < t ∧ z ≤ c) ∨ (t < c ∧ c ≤ z)
  · rw [if_pos hk]
    apply fin
    rcases hk with ⟨a, b⟩ | ⟨a, b⟩
    · exact run_up _ (c - z).toNat z c (by omega) h0 (by omega) (fun y p q => by rw [hu2 y (by omega) (by omega) (by omega), if_neg (by omega), if_pos (by omega)]) hc2
    · exact run_down _ (z - c).toNat z c (by omega) hc0 (by omega) (fun y p q => by rw [hu2 y (by omega) (by omega) (by omega), if_neg (by omega), if_neg (by omega)]) hc2
  · rw [if_neg hk]
    apply fin
    rcases Int.lt_or_le z t with a | a
    · exact run_up _ (t - z).toNat z t (by omega) h0 (by omega) (fun y p q => by rw [hu2 y (by omega) (by omega) (by omega), if_neg (by omega), if_pos (by omega)]) ht2
    · exact run_down _ (z - t).toNat z t (by omega) ht0 (by omega) (fun y p q => by rw [hu2 y (by omega) (by omega) (by omega), if_neg (by omega), if_neg (by omega)]) ht2
theorem Chain.root0 {m : Nat} {zs U W : List Int} {i : Int} (h : Chain m zs U W i) (hi : i = m) {t : Int} (h0 : 0 ≤ t) (h1 : t < m) : cutE (turnedU U t) t = 7 ∧ rootA (turnedU U t) 0 = t := by
  have hu := h.turned hi h0 h1
  have hl : (turnedU U t).length = m := by rw [turnedU_length, h.lu]
  have hv : isv (turnedU U t) t = true := isv_iff.2 ⟨h0, by omega⟩
  have hr : rd (turnedU U t) t = -1 := by rw [hu t h0 h1, if_pos rfl]
  refine ⟨by simp [cutE, hv, hr], ?_⟩
  obtain ⟨l, a, b⟩ := run_up (turnedU U t) t.toNat 0 t (by omega) (by omega) (by omega) (fun y p q => by rw [hu y (by omega) (by omega), if_neg (by omega), if_pos q]) hr
  rw [rootA_of (by omega) (by omega), a.root_eq, b]
end Go.Proofs.Ytjicapkhlfbgjaa
