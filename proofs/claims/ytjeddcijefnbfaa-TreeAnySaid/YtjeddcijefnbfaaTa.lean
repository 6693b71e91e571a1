/- A tree that is grown edge by edge, in whatever order. No Go in sight. -/
import Derived.Test.YtjeddcijefnbfaaTc
set_option linter.unusedVariables false
namespace Go.Proofs.Ytjeddcijefnbfaa
open Go.RowKit

def cnt (I : List Bool) : Nat := (I.filter (fun b => b)).length
theorem cnt_set : ∀ (I : List Bool) (i : Nat), I[i]? = some false → cnt (I.set i true) = cnt I + 1
  | [], i, h => by simp at h
  | b :: I, 0, h => by
    simp at h
    subst h
    simp [cnt]
  | b :: I, i + 1, h => by
    have h' : I[i]? = some false := by simpa using h
    have ih := cnt_set I i h'
    unfold cnt at ih ⊢
    cases b <;> simp [ih]
theorem cnt_le (I : List Bool) : cnt I ≤ I.length := List.length_filter_le _ _
theorem cnt_t (I : List Bool) : cnt (true :: I) = cnt I + 1 := by simp [cnt]
theorem cnt_f (I : List Bool) : cnt (false :: I) = cnt I := by simp [cnt]
theorem cnt_all {I : List Bool} (h : cnt I = I.length) : ∀ i : Nat, i < I.length → I[i]? = some true := by
  induction I with
  | nil => intro i hi; simp at hi
  | cons b I ih =>
    have hl := cnt_le I
    rw [List.length_cons] at h
    cases b with
    | true =>
      rw [cnt_t] at h
      intro i hi
      cases i with
      | zero => rfl
      | succ i =>
        have := ih (by omega) i (by simpa using hi)
        simpa using this
    | false =>
      rw [cnt_f] at h
      omega
theorem cnt_some {I : List Bool} (h : cnt I < I.length) : ∃ i : Nat, i < I.length ∧ I[i]? = some false := by
  induction I with
  | nil => simp [cnt] at h
  | cons b I ih =>
    cases b with
    | false => exact ⟨0, by simp, rfl⟩
    | true =>
      rw [cnt_t, List.length_cons] at h
      obtain ⟨i, hi, e⟩ := ih (by omega)
      exact ⟨i + 1, by simpa using hi, by simpa using e⟩
theorem rb_get {I : List Bool} {v : Int} (h0 : 0 ≤ v) (h1 : v < I.length) : I[v.toNat]? = some (rb I v) := by
  have : v.toNat < I.length := by omega
  simp [rb, List.getD_eq_getElem?_getD, List.getElem?_eq_getElem this]

/-- Behind n edges: who is in hangs on one that is in, and leads to the root. -/
structure Ga (T : List Int) (m : Nat) (r : Int) (n : Nat) (I : List Bool) (up : List Int) : Prop where
  li : I.length = m
  lu : up.length = m
  ri : rb I r = true
  ru : rd up r = -1
  ct : cnt I = n + 1
  ok : ∀ v : Int, 0 ≤ v → v < m → rb I v = true → v ≠ r → 0 ≤ rd up v ∧ rd up v < T.length ∧ rd T (rd up v) = v ∧ rb I (rd T (ot (rd up v))) = true
  cl : ∀ v : Int, 0 ≤ v → v < m → rb I v = true → ∃ j, itr (climb T up r) v j = r
section
variable {T up : List Int} {m n : Nat} {r : Int} {I : List Bool}
theorem Ga.start (hr0 : 0 ≤ r) (hr1 : r < m) : Ga T m r 0 (sb (List.replicate m false) r true) (List.replicate m (-1)) := by
  have hb : ∀ v : Int, 0 ≤ v → v < m → (rb (sb (List.replicate m false) r true) v = true ↔ v = r) := fun v v0 v1 => by
    rw [rb_sb _ _ _ _ hr0 (by simpa using hr1) v0, rb_rep _ _ _ v0 v1]
    by_cases e : v = r <;> simp [e]
  refine ⟨by simp [sb_length], by simp, (hb r hr0 hr1).2 rfl, rd_rep _ _ _ hr0 hr1, ?_, fun v v0 v1 h hn => absurd ((hb v v0 v1).1 h) hn, fun v v0 v1 h => ⟨0, (hb v v0 v1).1 h⟩⟩
  have := cnt_set (List.replicate m false) r.toNat (by rw [List.getElem?_replicate, if_pos (by omega)])
  unfold sb
  rw [this]
  simp [cnt]
/-- The darts that lead out of what is in: of the first j. -/
def crossTo (T : List Int) (I : List Bool) (j : Nat) : List Int := ((List.range j).map Int.ofNat).filter (fun d => rb I (rd T d) && !rb I (rd T (ot d)))
theorem crossTo_next (T : List Int) (I : List Bool) (j : Nat) : crossTo T I (j + 1) = if rb I (rd T j) = true ∧ rb I (rd T (ot j)) = false then crossTo T I j ++ [(j : Int)] else crossTo T I j := by
  unfold crossTo
  rw [List.range_succ, List.map_append, List.filter_append]
  have e : Int.ofNat j = (j : Int) := rfl
  cases h1 : rb I (rd T j) <;> cases h2 : rb I (rd T (ot j)) <;> simp [h1, h2, e]
theorem crossTo_le (T : List Int) (I : List Bool) (j : Nat) : (crossTo T I j).length ≤ j := by
  have := List.length_filter_le (fun d => rb I (rd T d) && !rb I (rd T (ot d))) ((List.range j).map Int.ofNat)
  simpa [crossTo] using this
theorem cross_mem {d : Int} : d ∈ crossTo T I T.length ↔ (0 ≤ d ∧ d < T.length) ∧ rb I (rd T d) = true ∧ rb I (rd T (ot d)) = false := by
  unfold crossTo
  simp only [List.mem_filter, List.mem_map, List.mem_range, Bool.and_eq_true, Bool.not_eq_true']
  constructor
  · rintro ⟨⟨i, hi, rfl⟩, h⟩
    exact ⟨⟨by show (0 : Int) ≤ (i : Int); omega, by show (i : Int) < _; omega⟩, h⟩
  · rintro ⟨⟨h0, h1⟩, h⟩
    exact ⟨⟨d.toNat, by omega, by show ((d.toNat : Nat) : Int) = d; omega⟩, h⟩
/-- As long as somebody is out, a dart leads out. -/
theorem Ga.cross (h : Ga T m r n I up) (hr0 : 0 ≤ r) (hr1 : r < m) (hc : Conn T m) (hn : n + 1 < m) : 0 < (crossTo T I T.length).length := by
  rcases Nat.eq_zero_or_pos (crossTo T I T.length).length with e | e
  · exfalso
    have hnil := List.length_eq_zero_iff.1 e
    have all := hc (fun v => rb I v = true) ⟨r, hr0, hr1, h.ri⟩ (fun d d0 d1 hd => by
      cases hh : rb I (rd T (ot d)) with
      | true => rfl
      | false =>
        have : d ∈ crossTo T I T.length := cross_mem.2 ⟨⟨d0, d1⟩, hd, hh⟩
        rw [hnil] at this
        cases this)
    obtain ⟨i, hi, e2⟩ := cnt_some (I := I) (by rw [h.ct, h.li]; exact hn)
    have := all i (by omega) (by rw [← h.li]; omega)
    have g := rb_get (I := I) (v := i) (by omega) (by omega)
    rw [Int.toNat_natCast, e2, this] at g
    cases g
  · exact e
theorem Ga.step (h : Ga T m r n I up) (he : (T.length : Int) % 2 = 0) (ht : ∀ d : Int, 0 ≤ d → d < T.length → 0 ≤ rd T d ∧ rd T d < m) (hr0 : 0 ≤ r) (hr1 : r < m) {d : Int} (hd : d ∈ crossTo T I T.length) :
    Ga T m r (n + 1) (sb I (rd T (ot d)) true) (st up (rd T (ot d)) (ot d)) := by
  obtain ⟨⟨d0, d1⟩, c1, c2⟩ := cross_mem.1 hd
  have ho := ot_rng d _ d0 d1 he
  have hh := ht _ ho.1 ho.2
  have htd := ht d d0 d1
  obtain ⟨x, hx⟩ : ∃ x, rd T (ot d) = x := ⟨_, rfl⟩
  rw [hx] at hh c2 ⊢
  have hrx : r ≠ x := fun e => by rw [← e, h.ri] at c2; cases c2
  have hI : ∀ v : Int, 0 ≤ v → rb (sb I x true) v = if v = x then true else rb I v := fun v v0 => rb_sb _ _ _ _ hh.1 (by rw [h.li]; exact hh.2) v0
  have hU : ∀ v : Int, 0 ≤ v → rd (st up x (ot d)) v = if v = x then ot d else rd up v := fun v v0 => rd_st _ _ _ _ hh.1 (by rw [h.lu]; exact hh.2) v0
  have keep : ∀ v : Int, 0 ≤ v → v < m → rb I v = true → v ≠ x := fun v v0 v1 hv e => by rw [e, c2] at hv; cases hv
  -- the ways of those that were in
  have same : ∀ (j : Nat) (v : Int), 0 ≤ v → v < m → rb I v = true → itr (climb T (st up x (ot d)) r) v j = itr (climb T up r) v j ∧ 0 ≤ itr (climb T up r) v j ∧ itr (climb T up r) v j < m ∧ rb I (itr (climb T up r) v j) = true := by
    intro j
    induction j with
    | zero => exact fun v v0 v1 hv => ⟨rfl, v0, v1, hv⟩
    | succ j ih =>
      intro v v0 v1 hv
      obtain ⟨e, a0, a1, a2⟩ := ih v v0 v1 hv
      obtain ⟨y, hy⟩ : ∃ y, itr (climb T up r) v j = y := ⟨_, rfl⟩
      have e1 : itr (climb T (st up x (ot d)) r) v (j + 1) = climb T (st up x (ot d)) r y := by rw [itr, e, hy]
      have e2 : itr (climb T up r) v (j + 1) = climb T up r y := by rw [itr, hy]
      rw [hy] at a0 a1 a2
      rw [e1, e2]
      unfold climb
      by_cases er : y = r
      · rw [if_pos er, if_pos er]
        exact ⟨rfl, hr0, hr1, h.ri⟩
      · rw [if_neg er, if_neg er, hU y a0, if_neg (keep y a0 a1 a2)]
        obtain ⟨p, q, s, t⟩ := h.ok y a0 a1 a2 er
        have hoy := ot_rng _ _ p q he
        have hty := ht _ hoy.1 hoy.2
        exact ⟨rfl, hty.1, hty.2, t⟩
  refine ⟨by rw [sb_length, h.li], by rw [st_length, h.lu], ?_, ?_, ?_, fun v v0 v1 hv hn => ?_, fun v v0 v1 hv => ?_⟩
  · rw [hI r hr0, if_neg hrx, h.ri]
  · rw [hU r hr0, if_neg hrx, h.ru]
  · have g := rb_get (I := I) (v := x) hh.1 (by rw [h.li]; exact hh.2)
    rw [c2] at g
    have := cnt_set I x.toNat g
    unfold sb
    rw [this, h.ct]
  · rw [hU v v0]
    by_cases e : v = x
    · rw [if_pos e, ot_ot]
      refine ⟨ho.1, ho.2, by rw [hx, e], ?_⟩
      rw [hI _ htd.1]
      split
      · rfl
      · exact c1
    · rw [if_neg e]
      rw [hI v v0, if_neg e] at hv
      obtain ⟨p, q, s, t⟩ := h.ok v v0 v1 hv hn
      have hoy := ot_rng _ _ p q he
      have hty := ht _ hoy.1 hoy.2
      refine ⟨p, q, s, ?_⟩
      rw [hI _ hty.1]
      split
      · rfl
      · exact t
  · by_cases e : v = x
    · obtain ⟨j, hj⟩ := h.cl _ htd.1 htd.2 c1
      refine ⟨1 + j, ?_⟩
      rw [itr_add]
      have e3 : itr (climb T (st up x (ot d)) r) v 1 = rd T d := by
        show climb T (st up x (ot d)) r v = rd T d
        rw [climb, e, if_neg (Ne.symm hrx), hU x hh.1, if_pos rfl, ot_ot]
      rw [e3, (same j _ htd.1 htd.2 c1).1, hj]
    · rw [hI v v0, if_neg e] at hv
      obtain ⟨j, hj⟩ := h.cl v v0 v1 hv
      exact ⟨j, by rw [(same j v v0 v1 hv).1, hj]⟩
/-- All are in: a tree. -/
theorem Ga.done (h : Ga T m r n I up) (he : (T.length : Int) % 2 = 0) (ht : ∀ d : Int, 0 ≤ d → d < T.length → 0 ≤ rd T d ∧ rd T d < m) (hr0 : 0 ≤ r) (hr1 : r < m) (hn : n + 1 = m) : IsTree T up m r := by
  have all : ∀ v : Int, 0 ≤ v → v < m → rb I v = true := fun v v0 v1 => by
    have a := cnt_all (I := I) (by rw [h.ct, h.li]; exact hn) v.toNat (by rw [h.li]; omega)
    have g := rb_get (I := I) (v := v) v0 (by rw [h.li]; exact v1)
    rw [a] at g
    injection g with g
    exact g.symm
  have hok : ∀ v : Int, 0 ≤ v → v < m → okV T up r v := fun v v0 v1 => ⟨fun e => by rw [e]; exact h.ru, fun e => by
    obtain ⟨p, q, s, _⟩ := h.ok v v0 v1 (all v v0 v1) e
    exact ⟨p, q, s⟩⟩
  refine ⟨h.lu, hr0, hr1, hok, fun v v0 v1 => ?_⟩
  obtain ⟨j, hj⟩ := h.cl v v0 v1 (all v v0 v1)
  exact climb_few he ht ⟨hr0, hr1⟩ hok v0 v1 j hj
end
end Go.Proofs.Ytjeddcijefnbfaa
