/- How many edges a tree has, how many are left. No Go in sight. -/
import Derived.Test.YtidcofjadlfahaaTq
set_option linter.unusedVariables false
namespace Go.Proofs.Ytidcofjadlfahaa
open Go.RowKit

theorem nodup_len {α : Type} [DecidableEq α] : ∀ {l1 l2 : List α}, l1.Nodup → (∀ x, x ∈ l1 → x ∈ l2) → l1.length ≤ l2.length
  | [], _, _, _ => Nat.zero_le _
  | x :: l1, l2, hn, hs => by
    have hn' := List.nodup_cons.1 hn
    have hx := hs x (by simp)
    have h1 := nodup_len (l1 := l1) (l2 := l2.erase x) hn'.2 (fun y hy => by
      have hne : y ≠ x := fun e => hn'.1 (e ▸ hy)
      exact (List.mem_erase_of_ne hne).2 (hs y (by simp [hy])))
    rw [List.length_erase, if_pos hx] at h1
    have := List.length_pos_of_mem hx
    rw [List.length_cons]
    omega
theorem nodup_map_of {α β : Type} {f : α → β} : ∀ {l : List α}, l.Nodup → (∀ x y, x ∈ l → y ∈ l → f x = f y → x = y) → (l.map f).Nodup
  | [], _, _ => by simp
  | x :: l, hn, hi => by
    have hn' := List.nodup_cons.1 hn
    rw [List.map_cons, List.nodup_cons]
    refine ⟨fun hm => ?_, nodup_map_of hn'.2 (fun a b ha hb e => hi a b (by simp [ha]) (by simp [hb]) e)⟩
    obtain ⟨y, hy, e⟩ := List.mem_map.1 hm
    have := hi y x (by simp [hy]) (by simp) e
    exact hn'.1 (this ▸ hy)
theorem filter_parts {α : Type} (p : α → Bool) : ∀ l : List α, (l.filter p).length + (l.filter (fun x => !p x)).length = l.length
  | [] => rfl
  | x :: l => by
    have ih := filter_parts p l
    cases h : p x <;> simp [h] <;> omega
theorem nodup_filter' {α : Type} (p : α → Bool) {l : List α} (h : l.Nodup) : (l.filter p).Nodup := List.Pairwise.filter p h
theorem nodup_range (n : Nat) : (List.range n).Nodup := List.nodup_range
theorem len_ne (m r : Nat) (h : r < m) : ((List.range m).filter (fun v => !(v == r))).length + 1 = m := by
  have h1 := filter_parts (fun v => v == r) (List.range m)
  have h2 : ((List.range m).filter (fun v => v == r)).length = 1 := by
    have a : ((List.range m).filter (fun v => v == r)).length ≤ [r].length := nodup_len (nodup_filter' _ (nodup_range m)) (fun x hx => by simp at hx; simp [hx.2])
    have b : [r].length ≤ ((List.range m).filter (fun v => v == r)).length := nodup_len (by simp) (fun x hx => by simp at hx; subst hx; simp [h])
    simp at a b
    omega
  rw [List.length_range] at h1
  omega
section
variable {T up : List Int} {m : Nat} {r : Int}
theorem IsTree.apart (h : IsTree T up m r) (he : (T.length : Int) % 2 = 0) (ht : ∀ d : Int, 0 ≤ d → d < T.length → 0 ≤ rd T d ∧ rd T d < m) {v u : Int} (v0 : 0 ≤ v) (v1 : v < m) (u0 : 0 ≤ u) (u1 : u < m) (hv : v ≠ r) (hu : u ≠ r) (e : rd up v = ot (rd up u)) : False := by
  obtain ⟨a1, a2, a3⟩ := (h.ok v v0 v1).2 hv
  obtain ⟨b1, b2, b3⟩ := (h.ok u u0 u1).2 hu
  have c1 : climb T up r u = v := by rw [climb, if_neg hu, ← e, a3]
  have c2 : climb T up r v = u := by rw [climb, if_neg hv, e, ot_ot, b3]
  have all : ∀ k, itr (climb T up r) v k = v ∨ itr (climb T up r) v k = u := by
    intro k
    induction k with
    | zero => exact .inl rfl
    | succ k ih =>
      show climb T up r (itr (climb T up r) v k) = v ∨ climb T up r (itr (climb T up r) v k) = u
      rcases ih with ih | ih <;> rw [ih]
      · exact .inr c2
      · exact .inl c1
  rcases all m with h2 | h2
  · exact hv (h2.symm.trans (h.cl v v0 v1))
  · exact hu (h2.symm.trans (h.cl v v0 v1))
theorem half (d e : Int) (h : d / 2 = e / 2) : d = e ∨ d = ot e := by
  unfold ot
  split <;> omega
theorem half_ot (d : Int) : d = 2 * (d / 2) ∨ d = 2 * (d / 2) + 1 := by omega
/-- What is left: all edges but one for each vertex beside the root. -/
theorem left_count (h : IsTree T up m r) (he : (T.length : Int) % 2 = 0) (ht : ∀ d : Int, 0 ≤ d → d < T.length → 0 ≤ rd T d ∧ rd T d < m) : (leftL T up).length + m = T.length / 2 + 1 := by
  have hlen := h.len
  have hr0 := h.r0
  have hr1 := h.r1
  have p1 := filter_parts (fun i : Nat => !(hasB up (2 * (i : Int))) && !(hasB up (2 * (i : Int) + 1))) (List.range (T.length / 2))
  have e1 : (leftL T up).length = ((List.range (T.length / 2)).filter (fun i : Nat => !(hasB up (2 * (i : Int))) && !(hasB up (2 * (i : Int) + 1)))).length := by
    unfold leftL leftTo
    rw [List.filter_map, List.length_map]
    rfl
  rw [List.length_range] at p1
  have ln := len_ne m r.toNat (by omega)
  -- those that are in the tree
  have hk : ((List.range (T.length / 2)).filter (fun i : Nat => !(!(hasB up (2 * (i : Int))) && !(hasB up (2 * (i : Int) + 1))))).length = ((List.range m).filter (fun v => !(v == r.toNat))).length := by
    have hf : ∀ v : Nat, v ∈ (List.range m).filter (fun v => !(v == r.toNat)) → (v : Int) < m ∧ (v : Int) ≠ r := fun v hv => by
      simp at hv
      exact ⟨by omega, fun e => hv.2 (by omega)⟩
    apply Nat.le_antisymm
    · have : ((List.range (T.length / 2)).filter (fun i : Nat => !(!(hasB up (2 * (i : Int))) && !(hasB up (2 * (i : Int) + 1))))).length ≤ (((List.range m).filter (fun v => !(v == r.toNat))).map (fun v : Nat => ((rd up v) / 2).toNat)).length := by
        refine nodup_len (nodup_filter' _ (nodup_range _)) (fun i hi => ?_)
        rw [List.mem_filter, List.mem_range] at hi
        obtain ⟨hi1, hi2⟩ := hi
        have hex : ∃ d, d ∈ up ∧ d / 2 = (i : Int) := by
          cases hA : hasB up (2 * (i : Int)) with
          | true => exact ⟨2 * (i : Int), of_decide_eq_true hA, by omega⟩
          | false =>
            cases hC : hasB up (2 * (i : Int) + 1) with
            | true => exact ⟨2 * (i : Int) + 1, of_decide_eq_true hC, by omega⟩
            | false => rw [hA, hC] at hi2; simp at hi2
        obtain ⟨d, hd, hdi⟩ := hex
        obtain ⟨v, v0, v1, rfl⟩ := mem_rd hd
        have hvr : v ≠ r := fun e => by
          have := (h.ok v v0 (by omega)).1 e
          omega
        refine List.mem_map.2 ⟨v.toNat, ?_, ?_⟩
        · simp
          exact ⟨by omega, fun e => hvr (by omega)⟩
        · show ((rd up (v.toNat : Int)) / 2).toNat = i
          rw [Int.toNat_of_nonneg v0, hdi]
          omega
      rwa [List.length_map] at this
    · have : (((List.range m).filter (fun v => !(v == r.toNat))).map (fun v : Nat => ((rd up v) / 2).toNat)).length ≤ ((List.range (T.length / 2)).filter (fun i : Nat => !(!(hasB up (2 * (i : Int))) && !(hasB up (2 * (i : Int) + 1))))).length := by
        refine nodup_len (nodup_map_of (nodup_filter' _ (nodup_range _)) (fun v u hv hu e => ?_)) (fun i hi => ?_)
        · obtain ⟨v1, v2⟩ := hf v hv
          obtain ⟨u1, u2⟩ := hf u hu
          obtain ⟨a1, a2, a3⟩ := (h.ok v (by omega) v1).2 v2
          obtain ⟨b1, b2, b3⟩ := (h.ok u (by omega) u1).2 u2
          rcases half (rd up v) (rd up u) (by omega) with e2 | e2
          · rw [e2, b3] at a3
            omega
          · exact (h.apart he ht (by omega) v1 (by omega) u1 v2 u2 e2).elim
        · obtain ⟨v, hv, rfl⟩ := List.mem_map.1 hi
          obtain ⟨v1, v2⟩ := hf v hv
          obtain ⟨a1, a2, a3⟩ := (h.ok v (by omega) v1).2 v2
          have hmem : rd up v ∈ up := rd_mem (by omega) (by omega)
          rw [List.mem_filter, List.mem_range]
          refine ⟨by omega, ?_⟩
          have e3 : (((rd up v / 2).toNat : Nat) : Int) = rd up v / 2 := by omega
          rw [e3]
          rcases half_ot (rd up v) with e2 | e2
          · rw [show hasB up (2 * (rd up v / 2)) = true from decide_eq_true (by rw [← e2]; exact hmem)]
            simp
          · rw [show hasB up (2 * (rd up v / 2) + 1) = true from decide_eq_true (by rw [← e2]; exact hmem)]
            simp
      rwa [List.length_map] at this
  omega
end
end Go.Proofs.Ytidcofjadlfahaa
