/- Rounds of vertices: plain facts. -/
import Derived.Test.YtjeddcijefnbfaaTf
import Derived.Test.YtjeddcijefnbfaaTc
set_option linter.unusedVariables false
set_option linter.unusedSimpArgs false
namespace Go.Proofs.Ytjeddcijefnbfaa
open Go.RowKit

/-- The round of k vertices: where its darts begin, which one is next, what they hold. -/
def cT (k : Nat) : List Int := (List.range k).flatMap fun (e : Nat) => [(e : Int), (((e + 1) % k : Nat) : Int)]
def cX (k : Nat) : List Int := (List.range k).flatMap fun (v : Nat) => [((2 * ((v + k - 1) % k) + 1 : Nat) : Int), ((2 * ((v + 1) % k) : Nat) : Int)]
def cC (k : Nat) : List Int := List.replicate (2 * k) 0
/-- How many of the first darts begin where one does. -/
def cnt (T : List Int) (x : Int) : Nat → Nat
  | 0 => 0
  | i + 1 => cnt T x i + if rd T i = x then 1 else 0
/-- A pass over the first darts, that draws names together. -/
def passP (T : List Int) (of : List Int) : Nat → List Int × Bool
  | 0 => (of, false)
  | d + 1 =>
    let p := passP T of d
    if rd p.1 (rd T (ot d)) > rd p.1 (rd T d) then (st p.1 (rd T (ot d)) (rd p.1 (rd T d)), true) else p
def idsN (k : Nat) : List Int := (List.range k).map fun (i : Nat) => (i : Int)
/-- All that is told of a round, for the kernel. -/
def kOk (k : Nat) : Bool :=
  decide ((cT k).length = 2 * k) && decide ((cX k).length = 2 * k) &&
  (List.range (2 * k)).all (fun (d : Nat) => decide (0 ≤ rd (cT k) d ∧ rd (cT k) d < k ∧ 0 ≤ rd (cX k) d ∧ rd (cX k) d < ((2 * k : Nat) : Int) ∧ rd (cT k) (rd (cX k) d) = rd (cT k) d ∧ rd (cX k) (rd (cX k) d) = d ∧ rd (cX k) d ≠ d ∧ cnt (cT k) (rd (cT k) d) (2 * k) = 2 ∧ 0 ≤ ot d ∧ ot d < ((2 * k : Nat) : Int))) &&
  decide (passP (cT k) (idsN k) (2 * k) = (List.replicate k 0, true)) && decide (passP (cT k) (List.replicate k 0) (2 * k) = (List.replicate k 0, false)) &&
  (List.range k).all (fun (v : Nat) => decide (rd (cT k) (2 * v) = v ∧ rd (cT k) (2 * v + 1) = ((v + 1) % k : Int) ∧ rd (cX k) (2 * v) = 2 * ((v + k - 1) % k : Int) + 1 ∧ rd (cX k) (2 * ((v + k - 1) % k : Int) + 1) = 2 * v))
theorem kOk_all : ∀ k : Fin 12, 3 ≤ k.val → kOk k.val = true := by decide +kernel
/-- The way that is longest. -/
def farK (k r : Nat) : Nat := (List.range k).foldl (fun (m v : Nat) => max m (wayL (cT k) (spanL (cT k) k r) k v).length) 0
def farOk (k : Nat) : Bool := (List.range k).all fun (r : Nat) => decide (farK k r = k / 2)
theorem far_all : ∀ k : Fin 12, 3 ≤ k.val → farOk k.val = true := by decide +kernel
structure Round (k : Nat) : Prop where
  lT : (cT k).length = 2 * k
  lX : (cX k).length = 2 * k
  t0 : ∀ d : Int, 0 ≤ d → d < (2 * k : Nat) → 0 ≤ rd (cT k) d ∧ rd (cT k) d < k
  x0 : ∀ d : Int, 0 ≤ d → d < (2 * k : Nat) → 0 ≤ rd (cX k) d ∧ rd (cX k) d < (2 * k : Nat)
  tx : ∀ d : Int, 0 ≤ d → d < (2 * k : Nat) → rd (cT k) (rd (cX k) d) = rd (cT k) d
  xx : ∀ d : Int, 0 ≤ d → d < (2 * k : Nat) → rd (cX k) (rd (cX k) d) = d ∧ rd (cX k) d ≠ d
  two : ∀ d : Int, 0 ≤ d → d < (2 * k : Nat) → cnt (cT k) (rd (cT k) d) (2 * k) = 2
  o0 : ∀ d : Int, 0 ≤ d → d < (2 * k : Nat) → 0 ≤ ot d ∧ ot d < (2 * k : Nat)
  p1 : passP (cT k) (idsN k) (2 * k) = (List.replicate k 0, true)
  p2 : passP (cT k) (List.replicate k 0) (2 * k) = (List.replicate k 0, false)
  laid : ∀ v : Int, 0 ≤ v → v < k → rd (cT k) (2 * v) = v ∧ rd (cT k) (2 * v + 1) = (v + 1) % k ∧ rd (cX k) (2 * v) = 2 * ((v + k - 1) % k) + 1 ∧ rd (cX k) (2 * ((v + k - 1) % k) + 1) = 2 * v
theorem round_k {k : Nat} (h0 : 3 ≤ k) (h1 : k ≤ 11) : Round k := by
  have h := kOk_all ⟨k, by omega⟩ h0
  simp only [kOk, Bool.and_eq_true, decide_eq_true_eq, List.all_eq_true, List.mem_range] at h
  obtain ⟨⟨⟨⟨⟨a, b⟩, c⟩, d⟩, e⟩, f⟩ := h
  refine ⟨a, b, fun x hx0 hx1 => ?_, fun x hx0 hx1 => ?_, fun x hx0 hx1 => ?_, fun x hx0 hx1 => ?_, fun x hx0 hx1 => ?_, fun x hx0 hx1 => ?_, d, e, fun v hv0 hv1 => ?_⟩
  · have C := c x.toNat (by omega)
    rw [Int.toNat_of_nonneg hx0] at C
    exact ⟨C.1, C.2.1⟩
  · have C := c x.toNat (by omega)
    rw [Int.toNat_of_nonneg hx0] at C
    exact ⟨C.2.2.1, C.2.2.2.1⟩
  · have C := c x.toNat (by omega)
    rw [Int.toNat_of_nonneg hx0] at C
    exact C.2.2.2.2.1
  · have C := c x.toNat (by omega)
    rw [Int.toNat_of_nonneg hx0] at C
    exact ⟨C.2.2.2.2.2.1, C.2.2.2.2.2.2.1⟩
  · have C := c x.toNat (by omega)
    rw [Int.toNat_of_nonneg hx0] at C
    exact C.2.2.2.2.2.2.2.1
  · have C := c x.toNat (by omega)
    rw [Int.toNat_of_nonneg hx0] at C
    exact C.2.2.2.2.2.2.2.2
  · have F := f v.toNat (by omega)
    rw [Int.toNat_of_nonneg hv0] at F
    exact F
theorem Round.perm {k : Nat} (R : Round k) : Perm (cX k).length (rd (cX k)) := by
  rw [R.lX]
  refine ⟨fun d h0 h1 => R.x0 d h0 h1, fun d e h0 h1 h2 h3 h => ?_⟩
  have a := (R.xx d h0 h1).1
  have b := (R.xx e h2 h3).1
  rw [h] at a
  omega
theorem Round.even {k : Nat} (R : Round k) {u : Int} (h0 : 0 ≤ u) (h1 : u < k) : phi (cX k) (2 * u) = 2 * ((u + 1) % k) ∧ phi (cX k) (2 * u + 1) = 2 * ((u + k - 1) % k) + 1 := by
  have hk : (0 : Int) < k := by omega
  have e0 : ot (2 * u) = 2 * u + 1 := by unfold ot; omega
  have e1 : ot (2 * u + 1) = 2 * u := by unfold ot; omega
  unfold phi
  rw [e0, e1]
  refine ⟨?_, (R.laid u h0 h1).2.2.1⟩
  have q0 := Int.emod_nonneg (u + 1) (show (k : Int) ≠ 0 by omega)
  have q1 := Int.emod_lt_of_pos (u + 1) hk
  have := (R.laid ((u + 1) % k) q0 q1).2.2.2
  have e2 : ((u + 1) % k + k - 1) % k = u := by
    by_cases h : u + 1 < k
    · rw [Int.emod_eq_of_lt (a := u + 1) (by omega) h, show u + 1 + (k : Int) - 1 = u + k from by omega, Int.add_emod_right, Int.emod_eq_of_lt h0 h1]
    · rw [show u + 1 = (k : Int) from by omega, Int.emod_self, show (0 : Int) + k - 1 = u from by omega, Int.emod_eq_of_lt h0 h1]
  rw [e2] at this
  exact this
theorem Round.faces {k : Nat} (R : Round k) (h3 : 3 ≤ k) : faceN (cX k) = 2 := by
  have F := faces_all R.perm (by rw [R.lX]; omega)
  have len := R.lX
  have hk : (0 : Int) < k := by omega
  have don : ∀ z : Int, 0 ≤ z → z < (2 * k : Nat) → 0 ≤ rd (facesOf (cX k)) z ∧ rd (facesOf (cX k)) z < faceN (cX k) := fun z h0 h1 => by
    have a := F.don z h0 (by omega) (by omega)
    rcases F.rng z h0 (by omega) with b | b <;> omega
  have inv : ∀ z : Int, 0 ≤ z → z < (2 * k : Nat) → rd (facesOf (cX k)) (phi (cX k) z) = rd (facesOf (cX k)) z := fun z h0 h1 => F.inv z h0 (by omega) (don z h0 h1).1
  have ev : ∀ u : Nat, u < k → rd (facesOf (cX k)) (2 * u) = rd (facesOf (cX k)) 0 := by
    intro u
    induction u with
    | zero => intro _; rfl
    | succ u ih =>
      intro h
      have a := inv (2 * u) (by omega) (by omega)
      rw [(R.even (u := u) (by omega) (by omega)).1, Int.emod_eq_of_lt (by omega) (by omega), ih (by omega)] at a
      rw [show (2 * ((u + 1 : Nat) : Int)) = 2 * ((u : Int) + 1) from by omega]
      exact a
  have od : ∀ u : Nat, u < k → rd (facesOf (cX k)) (2 * u + 1) = rd (facesOf (cX k)) 1 := by
    intro u
    induction u with
    | zero => intro _; rfl
    | succ u ih =>
      intro h
      have a := inv (2 * ((u + 1 : Nat) : Int) + 1) (by omega) (by omega)
      rw [(R.even (u := ((u + 1 : Nat) : Int)) (by omega) (by omega)).2, show (((u + 1 : Nat) : Int) + k - 1) = u + k from by omega, Int.add_emod_right, Int.emod_eq_of_lt (by omega) (by omega), ih (by omega)] at a
      exact a.symm
  have par : ∀ i, itr (phi (cX k)) 0 i % 2 = 0 ∧ 0 ≤ itr (phi (cX k)) 0 i ∧ itr (phi (cX k)) 0 i < (2 * k : Nat) := by
    intro i
    induction i with
    | zero => exact ⟨by rfl, by show (0 : Int) ≤ 0; omega, by show (0 : Int) < _; omega⟩
    | succ i ih =>
      show phi (cX k) (itr (phi (cX k)) 0 i) % 2 = 0 ∧ 0 ≤ phi (cX k) (itr (phi (cX k)) 0 i) ∧ phi (cX k) (itr (phi (cX k)) 0 i) < _
      obtain ⟨u, hu⟩ : ∃ u, itr (phi (cX k)) 0 i = 2 * u := ⟨itr (phi (cX k)) 0 i / 2, by omega⟩
      rw [hu] at ih ⊢
      rw [(R.even (u := u) (by omega) (by omega)).1]
      have q0 := Int.emod_nonneg (u + 1) (show (k : Int) ≠ 0 by omega)
      have q1 := Int.emod_lt_of_pos (u + 1) hk
      omega
  have ne : rd (facesOf (cX k)) 0 ≠ rd (facesOf (cX k)) 1 := by
    intro e
    obtain ⟨i, hi⟩ := F.one 0 1 (by omega) (by omega) (by omega) (by omega) (don 0 (by omega) (by omega)).1 e
    have := (par i).1
    rw [hi] at this
    omega
  have d0 := don 0 (by omega) (by omega)
  have d1 := don 1 (by omega) (by omega)
  have cls : ∀ c : Int, 0 ≤ c → c < faceN (cX k) → c = rd (facesOf (cX k)) 0 ∨ c = rd (facesOf (cX k)) 1 := by
    intro c c0 c1
    obtain ⟨z, z0, z1, hz⟩ := F.all c c0 c1
    rw [len] at z1
    by_cases hp : z % 2 = 0
    · left
      have := ev (z / 2).toNat (by omega)
      rw [← hz, ← this]
      congr 1
      omega
    · right
      have := od (z / 2).toNat (by omega)
      rw [← hz, ← this]
      congr 1
      omega
  by_cases hge : 3 ≤ faceN (cX k)
  · have a0 := cls 0 (by omega) (by omega)
    have a1 := cls 1 (by omega) (by omega)
    have a2 := cls 2 (by omega) (by omega)
    omega
  · omega
theorem Round.conn {k : Nat} (R : Round k) (h3 : 3 ≤ k) : Conn (cT k) k := by
  have hk : (0 : Int) < k := by omega
  rintro S ⟨v, v0, v1, hv⟩ hS u u0 u1
  have go : ∀ j : Nat, S ((v + j) % k) := by
    intro j
    induction j with
    | zero => rw [show (v + ((0 : Nat) : Int)) = v from by omega, Int.emod_eq_of_lt v0 v1]; exact hv
    | succ j ih =>
      have q0 := Int.emod_nonneg (v + j) (show (k : Int) ≠ 0 by omega)
      have q1 := Int.emod_lt_of_pos (v + j) hk
      have L := R.laid ((v + j) % k) q0 q1
      have a := hS (2 * ((v + j) % k)) (by omega) (by rw [R.lT]; omega) (by rw [L.1]; exact ih)
      rw [show ot (2 * ((v + j) % k)) = 2 * ((v + j) % k) + 1 from by unfold ot; omega, L.2.1, Int.emod_add_emod] at a
      rw [show v + ((j + 1 : Nat) : Int) = v + j + 1 from by omega]
      exact a
  have := go ((u - v + k) % k).toNat
  rw [Int.toNat_of_nonneg (Int.emod_nonneg _ (by omega)), Int.add_emod_emod, show v + (u - v + (k : Int)) = u + k from by omega, Int.add_emod_right, Int.emod_eq_of_lt u0 u1] at this
  exact this
end Go.Proofs.Ytjeddcijefnbfaa
