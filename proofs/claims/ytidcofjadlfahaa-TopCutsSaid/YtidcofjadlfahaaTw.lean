/- How far a vertex is from the root: the search's ways are as short as any. No Go in sight. -/
import Derived.Test.YtidcofjadlfahaaTq
set_option linter.unusedVariables false
namespace Go.Proofs.Ytidcofjadlfahaa
open Go.RowKit

theorem wayL_more {T up : List Int} : ∀ (k : Nat) (v : Int) (j : Nat), endsW T up k v → wayL T up (k + j) v = wayL T up k v
  | 0, v, j, h => by
    unfold endsW at h
    rw [Nat.zero_add, wayL_stop h]
    rfl
  | k + 1, v, j, h => by
    unfold endsW at h
    rw [show k + 1 + j = (k + j) + 1 from by omega, wayL, wayL]
    by_cases c : rd up v < 0
    · rw [if_pos c, if_pos c]
    · rw [if_neg c, if_neg c]
      rcases h with h | h
      · exact absurd h c
      · rw [wayL_more k _ j h]
section
variable {T up : List Int} {m : Nat} {r : Int}
/-- A vertex's way. -/
theorem IsTree.way (h : IsTree T up m r) (he : (T.length : Int) % 2 = 0) (ht : ∀ d : Int, 0 ≤ d → d < T.length → 0 ≤ rd T d ∧ rd T d < m) {v : Int} (v0 : 0 ≤ v) (v1 : v < m) (hv : v ≠ r) : wayL T up m v = rd up v :: wayL T up m (climb T up r v) := by
  obtain ⟨p, q, s⟩ := (h.ok v v0 v1).2 hv
  have hr0 := h.r0
  have hr1 := h.r1
  have hc := climb_rng he ht ⟨hr0, hr1⟩ h.ok v0 v1
  have e := h.cl v v0 v1
  rw [show m = 1 + (m - 1) from by omega, itr_add] at e
  have e' : itr (climb T up r) (climb T up r v) (m - 1) = r := e
  have en := h.ends he ht (m - 1) _ hc.1 hc.2 e'
  have e2 := wayL_more (m - 1) (climb T up r v) 1 en
  rw [show m - 1 + 1 = m from by omega] at e2
  rw [e2]
  conv => lhs; rw [show m = (m - 1) + 1 from by omega]
  rw [wayL, if_neg (by omega), show rd T (ot (rd up v)) = climb T up r v from by rw [climb, if_neg hv]]
theorem IsTree.way0 (h : IsTree T up m r) : wayL T up m r = [] := wayL_stop (by have := (h.ok r h.r0 h.r1).1 rfl; omega) m
def dep (T up : List Int) (m : Nat) (v : Int) : Int := (wayL T up m v).length
theorem dep_le (v : Int) : 0 ≤ dep T up m v ∧ dep T up m v ≤ m := by
  have := wayL_le T up m v
  unfold dep
  omega
theorem IsTree.dep_up (h : IsTree T up m r) (he : (T.length : Int) % 2 = 0) (ht : ∀ d : Int, 0 ≤ d → d < T.length → 0 ≤ rd T d ∧ rd T d < m) {v : Int} (v0 : 0 ≤ v) (v1 : v < m) (hv : v ≠ r) : dep T up m v = dep T up m (climb T up r v) + 1 := by
  unfold dep
  rw [h.way he ht v0 v1 hv]
  simp
theorem IsTree.dep0 (h : IsTree T up m r) : dep T up m r = 0 := by
  unfold dep
  rw [h.way0]
  rfl
/-- Along a way. -/
theorem IsTree.along (h : IsTree T up m r) (he : (T.length : Int) % 2 = 0) (ht : ∀ d : Int, 0 ≤ d → d < T.length → 0 ≤ rd T d ∧ rd T d < m) {v : Int} (v0 : 0 ≤ v) (v1 : v < m) : ∀ i : Nat, i ≤ (wayL T up m v).length → wayL T up m v = (wayL T up m v).take i ++ wayL T up m (itr (climb T up r) v i)
  | 0, _ => rfl
  | i + 1, hi => by
    have ih := h.along he ht v0 v1 i (by omega)
    have hr := climbs_rng he ht ⟨h.r0, h.r1⟩ h.ok v0 v1 i
    have hne : itr (climb T up r) v i ≠ r := fun e => by
      rw [e, h.way0, List.append_nil] at ih
      have := congrArg List.length ih
      rw [List.length_take] at this
      omega
    have hw := h.way he ht hr.1 hr.2 hne
    rw [hw] at ih
    have hl : ((wayL T up m v).take i).length = i := by rw [List.length_take]; omega
    have e1 : (wayL T up m v).take (i + 1) = (wayL T up m v).take i ++ [rd up (itr (climb T up r) v i)] := by
      rw [List.take_add_one]
      congr 1
      have : (wayL T up m v)[i]? = some (rd up (itr (climb T up r) v i)) := by
        rw [ih, List.getElem?_append_right (by omega), hl, Nat.sub_self]
        rfl
      rw [this]
      rfl
    rw [e1, List.append_assoc]
    exact ih
theorem IsTree.way_at (h : IsTree T up m r) (he : (T.length : Int) % 2 = 0) (ht : ∀ d : Int, 0 ≤ d → d < T.length → 0 ≤ rd T d ∧ rd T d < m) {v : Int} (v0 : 0 ≤ v) (v1 : v < m) {i : Nat} (hi : i < (wayL T up m v).length) : itr (climb T up r) v i ≠ r ∧ rd (wayL T up m v) i = rd up (itr (climb T up r) v i) := by
  have ih := h.along he ht v0 v1 i (by omega)
  have hr := climbs_rng he ht ⟨h.r0, h.r1⟩ h.ok v0 v1 i
  have hne : itr (climb T up r) v i ≠ r := fun e => by
    rw [e, h.way0, List.append_nil] at ih
    have := congrArg List.length ih
    rw [List.length_take] at this
    omega
  refine ⟨hne, ?_⟩
  rw [h.way he ht hr.1 hr.2 hne] at ih
  have hl : ((wayL T up m v).take i).length = i := by rw [List.length_take]; omega
  have := rd_mid ((wayL T up m v).take i) (wayL T up m (climb T up r (itr (climb T up r) v i))) (rd up (itr (climb T up r) v i))
  rw [← ih, hl] at this
  exact this
theorem IsTree.way_end (h : IsTree T up m r) (he : (T.length : Int) % 2 = 0) (ht : ∀ d : Int, 0 ≤ d → d < T.length → 0 ≤ rd T d ∧ rd T d < m) {v : Int} (v0 : 0 ≤ v) (v1 : v < m) : itr (climb T up r) v (wayL T up m v).length = r := by
  have ih := h.along he ht v0 v1 _ (Nat.le_refl _)
  rw [List.take_length] at ih
  have hr := climbs_rng he ht ⟨h.r0, h.r1⟩ h.ok v0 v1 (wayL T up m v).length
  by_cases e : itr (climb T up r) v (wayL T up m v).length = r
  · exact e
  · rw [h.way he ht hr.1 hr.2 e] at ih
    have := congrArg List.length ih
    simp at this
end
section
variable {T : List Int} {m : Nat} {r : Int}
/-- Nobody is found later who is nearer. -/
theorem span_mono (he : (T.length : Int) % 2 = 0) (ht : ∀ d : Int, 0 ≤ d → d < T.length → 0 ≤ rd T d ∧ rd T d < m) (hr0 : 0 ≤ r) (hr1 : r < m) (hc : Conn T m) :
    ∀ (n : Nat) (k l : Int), l ≤ n → 0 ≤ k → k ≤ l → l < (spanS T m r).q.length → dep T (spanL T m r) m (rd (spanS T m r).q k) ≤ dep T (spanL T m r) m (rd (spanS T m r).q l) := by
  have I := span_end he ht hr0 hr1
  have Y := span_tree he ht hr0 hr1 hc
  have h0 : rd (spanS T m r).q 0 = r := I.qr
  have up : ∀ k : Int, 0 < k → k < (spanS T m r).q.length → dep T (spanL T m r) m (rd (spanS T m r).q k) = dep T (spanL T m r) m (rd (spanS T m r).q (rd (spanS T m r).pp k)) + 1 ∧ 0 ≤ rd (spanS T m r).pp k ∧ rd (spanS T m r).pp k < k := by
    intro k k0 k1
    obtain ⟨p1, p2, p3, p4, p5, p6⟩ := span_up he ht hr0 hr1 k k0 k1
    have hne : rd (spanS T m r).q k ≠ r := fun e => by
      have := rd_inj I.nd (by omega) k1 (by omega) (by have := I.q0; omega) (e.trans h0.symm)
      omega
    have hrg := I.rg _ (rd_mem (by omega) k1)
    refine ⟨?_, p5, p6⟩
    rw [Y.dep_up he ht hrg.1 hrg.2 hne, climb, if_neg hne, p4]
  intro n
  induction n with
  | zero =>
    intro k l h1 h2 h3 h4
    obtain rfl : k = l := by omega
    exact Int.le_refl _
  | succ n ih =>
    intro k l h1 h2 h3 h4
    by_cases e : k = l
    · rw [e]
      exact Int.le_refl _
    · by_cases e0 : k = 0
      · rw [e0, h0, Y.dep0]
        exact (dep_le _).1
      · obtain ⟨a1, a2, a3⟩ := up k (by omega) (by omega)
        obtain ⟨b1, b2, b3⟩ := up l (by omega) h4
        have hm := I.mo k l (by omega) h3 h4
        have := ih (rd (spanS T m r).pp k) (rd (spanS T m r).pp l) (by omega) a2 hm (by omega)
        omega
/-- What an edge joins is found one step apart at most. -/
theorem span_edge (he : (T.length : Int) % 2 = 0) (ht : ∀ d : Int, 0 ≤ d → d < T.length → 0 ≤ rd T d ∧ rd T d < m) (hr0 : 0 ≤ r) (hr1 : r < m) (hc : Conn T m) {d : Int} (d0 : 0 ≤ d) (d1 : d < T.length) :
    dep T (spanL T m r) m (rd T d) ≤ dep T (spanL T m r) m (rd T (ot d)) + 1 := by
  have I := span_end he ht hr0 hr1
  have Y := span_tree he ht hr0 hr1 hc
  have h0 : rd (spanS T m r).q 0 = r := I.qr
  have ho := ot_rng d _ d0 d1 he
  have hh := ht _ ho.1 ho.2
  obtain ⟨i, i0, i1, hi⟩ := mem_rd (span_all he ht hr0 hr1 hc _ hh.1 hh.2)
  obtain ⟨l, l0, l1, hl, hp⟩ := I.pr i i0 i1 i1 (ot d) ho.1 ho.2 hi.symm
  rw [ot_ot] at hl
  rw [← hl, ← hi]
  by_cases e : l = 0
  · rw [e, h0, Y.dep0]
    have := (dep_le (T := T) (up := spanL T m r) (m := m) (rd (spanS T m r).q i)).1
    omega
  · obtain ⟨p1, p2, p3, p4, p5, p6⟩ := span_up he ht hr0 hr1 l (by omega) l1
    have hne : rd (spanS T m r).q l ≠ r := fun e => by
      have := rd_inj I.nd (by omega) l1 (by omega) (by have := I.q0; omega) (e.trans h0.symm)
      omega
    have hrg := I.rg _ (rd_mem (by omega) l1)
    rw [Y.dep_up he ht hrg.1 hrg.2 hne, climb, if_neg hne, p4]
    have := span_mono he ht hr0 hr1 hc i.toNat (rd (spanS T m r).pp l) i (by omega) p5 hp i1
    omega
end
/-- One dart: may its vertex be reached shorter? -/
def relax (T D : List Int) (d : Int) : List Int := st D (rd T d) (min (rd D (rd T d)) (rd D (rd T (ot d)) + 1))
def relTo (T D : List Int) : Nat → List Int
  | 0 => D
  | j + 1 => relax T (relTo T D j) j
def rounds (T D : List Int) : Nat → List Int
  | 0 => D
  | k + 1 => relTo T (rounds T D k) T.length
/-- What holds of the distances so far: behind k rounds, j darts. -/
structure Dist (T up : List Int) (m : Nat) (r : Int) (k j : Nat) (D : List Int) : Prop where
  len : D.length = m
  lo : ∀ v : Int, 0 ≤ v → v < m → dep T up m v ≤ rd D v
  hi : ∀ v : Int, 0 ≤ v → v < m → rd D v ≤ 1000
  don : ∀ v : Int, 0 ≤ v → v < m → dep T up m v ≤ k → rd D v ≤ dep T up m v
  now : ∀ v : Int, 0 ≤ v → v < m → v ≠ r → dep T up m v ≤ k + 1 → rd up v < j → rd D v ≤ dep T up m v
section
variable {T up D : List Int} {m : Nat} {r : Int} {k j : Nat}
theorem Dist.step (h : Dist T up m r k j D) (Y : IsTree T up m r) (he : (T.length : Int) % 2 = 0) (ht : ∀ d : Int, 0 ≤ d → d < T.length → 0 ≤ rd T d ∧ rd T d < m)
    (hE : ∀ d : Int, 0 ≤ d → d < T.length → dep T up m (rd T d) ≤ dep T up m (rd T (ot d)) + 1) (hj : j < T.length) : Dist T up m r k (j + 1) (relax T D j) := by
  have hx := ht j (by omega) (by omega)
  have ho := ot_rng j T.length (by omega) (by omega) he
  have hh := ht _ ho.1 ho.2
  have hr : ∀ v : Int, 0 ≤ v → rd (relax T D j) v = if v = rd T j then min (rd D (rd T j)) (rd D (rd T (ot j)) + 1) else rd D v := fun v v0 => rd_st _ _ _ _ hx.1 (by rw [h.len]; exact hx.2) v0
  have hdec : ∀ v : Int, 0 ≤ v → rd (relax T D j) v ≤ rd D v := fun v v0 => by
    rw [hr v v0]
    split
    · rename_i e
      rw [e]
      omega
    · omega
  refine ⟨by rw [relax, st_length, h.len], fun v v0 v1 => ?_, fun v v0 v1 => by have := hdec v v0; have := h.hi v v0 v1; omega, fun v v0 v1 c => by have := hdec v v0; have := h.don v v0 v1 c; omega, fun v v0 v1 c1 c2 c3 => ?_⟩
  · rw [hr v v0]
    split
    · rename_i e
      have a := h.lo _ hx.1 hx.2
      have b := h.lo _ hh.1 hh.2
      have c := hE j (by omega) (by omega)
      rw [e]
      omega
    · exact h.lo v v0 v1
  · by_cases e : rd up v = j
    · have hup := (Y.ok v v0 v1).2 c1
      rw [e] at hup
      have hd := Y.dep_up he ht v0 v1 c1
      rw [climb, if_neg c1, e] at hd
      have b := h.don _ hh.1 hh.2 (by omega)
      rw [hr v v0, if_pos hup.2.2.symm]
      omega
    · have := hdec v v0
      have := h.now v v0 v1 c1 c2 (by omega)
      omega
theorem Dist.next (h : Dist T up m r k T.length D) (Y : IsTree T up m r) : Dist T up m r (k + 1) 0 D := by
  refine ⟨h.len, h.lo, h.hi, fun v v0 v1 c => ?_, fun v v0 v1 c1 c2 c3 => ?_⟩
  · by_cases e : v = r
    · have := h.don v v0 v1 (by rw [e, Y.dep0]; omega)
      exact this
    · exact h.now v v0 v1 e c ((Y.ok v v0 v1).2 e).2.1
  · have := ((Y.ok v v0 v1).2 c1).1
    omega
theorem Dist.start (Y : IsTree T up m r) (hm : m ≤ 900) : Dist T up m r 0 0 (st (List.replicate m 1000) r 0) := by
  have hr0 := Y.r0
  have hr1 := Y.r1
  have hr : ∀ v : Int, 0 ≤ v → v < m → rd (st (List.replicate m 1000) r 0) v = if v = r then 0 else 1000 := fun v v0 v1 => by
    rw [rd_st _ _ _ _ hr0 (by simpa using hr1) v0, rd_rep _ _ _ v0 v1]
  refine ⟨by simp [st_length], fun v v0 v1 => ?_, fun v v0 v1 => by rw [hr v v0 v1]; split <;> omega, fun v v0 v1 c => ?_, fun v v0 v1 c1 c2 c3 => ?_⟩
  · rw [hr v v0 v1]
    split
    · rename_i e
      rw [e, Y.dep0]
      omega
    · have := (dep_le (T := T) (up := up) (m := m) v).2
      omega
  · have := (dep_le (T := T) (up := up) (m := m) v).1
    rw [hr v v0 v1]
    by_cases e : v = r
    · rw [if_pos e]
      omega
    · have := dep_le (T := T) (up := up) (m := m) (climb T up r v)
      unfold dep at c this
      exfalso
      have h2 : ¬ (rd up v < 0) := by have := ((Y.ok v v0 v1).2 e).1; omega
      have hm1 : m = (m - 1) + 1 := by omega
      rw [hm1, wayL, if_neg h2] at c
      simp at c
      omega
  · have := ((Y.ok v v0 v1).2 c1).1
    omega
/-- Behind as many rounds as there are vertices the distances are the ways'. -/
theorem Dist.end (h : Dist T up m r m 0 D) {v : Int} (v0 : 0 ≤ v) (v1 : v < m) : rd D v = dep T up m v := by
  have a := h.lo v v0 v1
  have b := h.don v v0 v1 (dep_le v).2
  omega
end
end Go.Proofs.Ytidcofjadlfahaa
