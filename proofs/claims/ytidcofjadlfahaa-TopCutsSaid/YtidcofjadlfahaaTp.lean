/- Trees of nets: the search from a vertex, what is left, ways. No Go in sight. -/
import Derived.Test.YtidcofjadlfahaaGr
set_option linter.unusedVariables false
namespace Go.Proofs.Ytidcofjadlfahaa
open Go.RowKit

/-- The search: by which dart each vertex hangs, which are found, in which order; by which place each was found. -/
structure SS where
  up : List Int
  fo : List Bool
  q : List Int
  pp : List Int
/-- One dart looked at, at place i where vertex a stands. -/
def sD (T : List Int) (a i : Int) (s : SS) (d : Int) : SS :=
  if rd T d = a ∧ rb s.fo (rd T (ot d)) = false then ⟨st s.up (rd T (ot d)) (ot d), sb s.fo (rd T (ot d)) true, s.q ++ [rd T (ot d)], s.pp ++ [i]⟩ else s
def sRow (T : List Int) (a i : Int) (s : SS) : Nat → SS
  | 0 => s
  | j + 1 => sD T a i (sRow T a i s j) j
def sTo (T : List Int) (N : Nat) (r : Int) : Nat → SS
  | 0 => ⟨List.replicate N (-1), sb (List.replicate N false) r true, [r], [0]⟩
  | i + 1 => if i < (sTo T N r i).q.length then sRow T (rd (sTo T N r i).q i) i (sTo T N r i) T.length else sTo T N r i
def spanS (T : List Int) (N : Nat) (r : Int) : SS := sTo T N r N
/-- By which dart each vertex hangs. -/
def spanL (T : List Int) (N : Nat) (r : Int) : List Int := (spanS T N r).up

theorem sTo_stop {T : List Int} {N : Nat} {r : Int} {i : Nat} (h : ¬ i < (sTo T N r i).q.length) : ∀ k, sTo T N r (i + k) = sTo T N r i
  | 0 => rfl
  | k + 1 => by
    have ih := sTo_stop h k
    show sTo T N r ((i + k) + 1) = _
    rw [sTo, ih, if_neg (by omega)]

/-- What holds of the search at place i, dart j. -/
structure SI (T : List Int) (N : Nat) (r : Int) (i j : Nat) (s : SS) : Prop where
  lu : s.up.length = N
  lf : s.fo.length = N
  nd : s.q.Nodup
  rg : ∀ v, v ∈ s.q → 0 ≤ v ∧ v < N
  fq : ∀ v : Int, 0 ≤ v → v < N → (rb s.fo v = true ↔ v ∈ s.q)
  q0 : 0 < s.q.length
  qr : rd s.q 0 = r
  lp : s.pp.length = s.q.length
  p0 : rd s.pp 0 = 0
  un : ∀ v : Int, 0 ≤ v → v < N → v ∉ s.q → rd s.up v = -1
  ur : rd s.up r = -1
  tr : ∀ k : Int, 0 < k → k < s.q.length → ∃ d : Int, 0 ≤ d ∧ d < T.length ∧ rd s.up (rd s.q k) = ot d ∧ rd T d = rd s.q (rd s.pp k) ∧ rd T (ot d) = rd s.q k ∧ 0 ≤ rd s.pp k ∧ rd s.pp k < k ∧ ∀ d' : Int, 0 ≤ d' → d' < d → ¬ (rd T d' = rd T d ∧ rd T (ot d') = rd T (ot d))
  mo : ∀ k l : Int, 0 < k → k ≤ l → l < s.q.length → rd s.pp k ≤ rd s.pp l
  le : ∀ k : Int, 0 ≤ k → k < s.q.length → rd s.pp k ≤ i
  pr : ∀ k : Int, 0 ≤ k → k < i → k < s.q.length → ∀ d : Int, 0 ≤ d → d < T.length → rd T d = rd s.q k → ∃ l : Int, 0 ≤ l ∧ l < s.q.length ∧ rd s.q l = rd T (ot d) ∧ rd s.pp l ≤ k
  cu : (i : Int) < s.q.length → ∀ d : Int, 0 ≤ d → d < j → rd T d = rd s.q i → ∃ l : Int, 0 ≤ l ∧ l < s.q.length ∧ rd s.q l = rd T (ot d)

theorem rd_app_lt {xs : List Int} {x i : Int} (h0 : 0 ≤ i) (h1 : i < xs.length) : rd (xs ++ [x]) i = rd xs i := by rw [rd_app _ _ _ h0, if_pos h1]
theorem rd_app_len {xs : List Int} {x i : Int} (h : i = xs.length) : rd (xs ++ [x]) i = x := by rw [rd_app _ _ _ (by omega), if_neg (by omega), if_pos h]
theorem mem_rd {xs : List Int} {x : Int} (h : x ∈ xs) : ∃ i : Int, 0 ≤ i ∧ i < xs.length ∧ rd xs i = x := by
  obtain ⟨i, hi, rfl⟩ := List.mem_iff_getElem.1 h
  exact ⟨i, by omega, by omega, by simp [rd, List.getD_eq_getElem?_getD, List.getElem?_eq_getElem hi]⟩
theorem rd_rep (n : Nat) (x i : Int) (h0 : 0 ≤ i) (h1 : i < n) : rd (List.replicate n x) i = x := by
  unfold rd
  rw [List.getD_eq_getElem?_getD, List.getElem?_replicate, if_pos (by omega)]
  rfl
theorem rb_rep (n : Nat) (x : Bool) (i : Int) (h0 : 0 ≤ i) (h1 : i < n) : rb (List.replicate n x) i = x := by
  unfold rb
  rw [List.getD_eq_getElem?_getD, List.getElem?_replicate, if_pos (by omega)]
  rfl
theorem rd_inj {xs : List Int} (hn : xs.Nodup) {i j : Int} (h0 : 0 ≤ i) (h1 : i < xs.length) (h2 : 0 ≤ j) (h3 : j < xs.length) (e : rd xs i = rd xs j) : i = j := by
  unfold rd at e
  rw [List.getD_eq_getElem?_getD, List.getD_eq_getElem?_getD, List.getElem?_eq_getElem (show i.toNat < xs.length by omega), List.getElem?_eq_getElem (show j.toNat < xs.length by omega)] at e
  have := (List.getElem_inj hn).1 (by simpa using e)
  omega

section
variable {T : List Int} {N : Nat} {r : Int}
theorem SI.start (hr0 : 0 ≤ r) (hr1 : r < N) : SI T N r 0 0 (sTo T N r 0) := by
  have hrn : rd (List.replicate N (-1)) r = -1 := rd_rep _ _ _ hr0 hr1
  refine ⟨by simp [sTo], by simp [sTo, sb_length], by simp [sTo], ?_, ?_, by simp [sTo], by simp [sTo, rd], by simp [sTo], by simp [sTo, rd], ?_, hrn, ?_, ?_, ?_, ?_, ?_⟩
  · intro v hv
    simp [sTo] at hv
    omega
  · intro v h0 h1
    show rb (sb (List.replicate N false) r true) v = true ↔ v ∈ [r]
    rw [rb_sb _ _ _ _ hr0 (by simpa using hr1) h0, rb_rep _ _ _ h0 h1]
    by_cases e : v = r <;> simp [e]
  · intro v h0 h1 _
    exact rd_rep _ _ _ h0 h1
  · intro k h0 h1
    simp [sTo] at h1
    omega
  · intro k l h0 h1 h2
    simp [sTo] at h2
    omega
  · intro k h0 h1
    simp [sTo] at h1
    obtain rfl : k = 0 := by omega
    simp [sTo, rd]
  · intro k h0 h1
    omega
  · intro _ d h0 h1
    omega
theorem SI.len {i j : Nat} {s : SS} (h : SI T N r i j s) : s.q.length ≤ N := few N _ h.nd h.rg
theorem SI.step {i j : Nat} {s : SS} (h : SI T N r i j s) (hi : i < s.q.length) (hj : j < T.length) (he : (T.length : Int) % 2 = 0) (ht : ∀ d : Int, 0 ≤ d → d < T.length → 0 ≤ rd T d ∧ rd T d < N) :
    SI T N r i (j + 1) (sD T (rd s.q i) i s j) ∧ s.q.length ≤ (sD T (rd s.q i) i s j).q.length ∧ (∀ k : Int, 0 ≤ k → k < s.q.length → rd (sD T (rd s.q i) i s j).q k = rd s.q k) := by
  have ho := ot_rng j T.length (by omega) (by omega) he
  have hv := ht (ot j) ho.1 ho.2
  unfold sD
  by_cases c : rd T j = rd s.q i ∧ rb s.fo (rd T (ot j)) = false
  · rw [if_pos c]
    obtain ⟨c1, c2⟩ := c
    obtain ⟨v, hvv⟩ : ∃ v, rd T (ot j) = v := ⟨_, rfl⟩
    rw [hvv] at hv c2 ⊢
    have hnq : v ∉ s.q := fun hm => by
      rw [(h.fq v hv.1 hv.2).2 hm] at c2
      cases c2
    have hvr : v ≠ r := fun e => hnq (by rw [e, ← h.qr]; exact rd_mem (by omega) (by have := h.q0; omega))
    have q0 := h.q0
    have lp := h.lp
    have ll : (s.q ++ [v]).length = s.q.length + 1 := by simp
    have lpp : (s.pp ++ [(i : Int)]).length = s.q.length + 1 := by simp [lp]
    refine ⟨⟨by simp [st_length, h.lu], by simp [sb_length, h.lf], ?_, ?_, ?_, by simp, ?_, by simp [lp], (by show rd (s.pp ++ [(i : Int)]) 0 = 0; rw [rd_app_lt (by omega) (by omega), h.p0]), ?_, ?_, ?_, ?_, ?_, ?_, ?_⟩, by simp, fun k h0 h1 => rd_app_lt h0 h1⟩
    · rw [List.nodup_append]
      exact ⟨h.nd, by simp, fun a ha b hb => by simp at hb; subst hb; exact fun e => hnq (e ▸ ha)⟩
    · intro u hu
      rcases List.mem_append.1 hu with hu | hu
      · exact h.rg u hu
      · simp at hu; subst hu; exact hv
    · intro u h0 h1
      show rb (sb s.fo v true) u = true ↔ u ∈ s.q ++ [v]
      rw [rb_sb _ _ _ _ hv.1 (by rw [h.lf]; exact hv.2) h0]
      by_cases e : u = v
      · simp [e]
      · rw [if_neg e, h.fq u h0 h1]
        simp [e]
    · show rd (s.q ++ [v]) 0 = r
      rw [rd_app_lt (by omega) (by omega), h.qr]
    · intro u h0 h1 hu
      have hu' : u ∉ s.q ∧ u ≠ v := by simpa using hu
      show rd (st s.up v (ot j)) u = -1
      rw [rd_st_ne _ _ _ _ hv.1 (by rw [h.lu]; exact hv.2) h0 hu'.2]
      exact h.un u h0 h1 hu'.1
    · show rd (st s.up v (ot j)) r = -1
      have hr : 0 ≤ r ∧ r < N := h.rg r (by have := rd_mem (xs := s.q) (i := 0) (by omega) (by omega); rwa [h.qr] at this)
      rw [rd_st_ne _ _ _ _ hv.1 (by rw [h.lu]; exact hv.2) hr.1 (Ne.symm hvr)]
      exact h.ur
    · intro k h0 h1
      show ∃ d, 0 ≤ d ∧ d < (T.length : Int) ∧ rd (st s.up v (ot j)) (rd (s.q ++ [v]) k) = ot d ∧ rd T d = rd (s.q ++ [v]) (rd (s.pp ++ [(i : Int)]) k) ∧ rd T (ot d) = rd (s.q ++ [v]) k ∧ 0 ≤ rd (s.pp ++ [(i : Int)]) k ∧ rd (s.pp ++ [(i : Int)]) k < k ∧ _
      have h1' : k < (s.q.length : Int) + 1 := by simpa using h1
      by_cases e : k = s.q.length
      · rw [rd_app_len (xs := s.q) e, rd_app_len (xs := s.pp) (by omega), rd_st_same _ _ _ hv.1 (by rw [h.lu]; exact hv.2)]
        refine ⟨j, by omega, by omega, rfl, by rw [rd_app_lt (by omega) (by omega)]; exact c1, hvv, by omega, by omega, ?_⟩
        rintro d' g0 g1 ⟨g2, g3⟩
        obtain ⟨l, a, b, cc⟩ := h.cu (by omega) d' g0 (by omega) (by rw [g2, c1])
        exact hnq (by rw [← hvv, ← g3, ← cc]; exact rd_mem a b)
      · obtain ⟨d, a1, a2, a3, a4, a5, a6, a7, a8⟩ := h.tr k h0 (by omega)
        have hkm : rd s.q k ∈ s.q := rd_mem (by omega) (by omega)
        have hkr := h.rg _ hkm
        rw [rd_app_lt (xs := s.q) (i := k) (by omega) (by omega), rd_app_lt (xs := s.pp) (i := k) (by omega) (by omega), rd_st_ne _ _ _ _ hv.1 (by rw [h.lu]; exact hv.2) hkr.1 (fun e => hnq (e ▸ hkm)), rd_app_lt (xs := s.q) a6 (by omega)]
        exact ⟨d, a1, a2, a3, a4, a5, a6, a7, a8⟩
    · intro k l h0 h1 h2
      show rd (s.pp ++ [(i : Int)]) k ≤ rd (s.pp ++ [(i : Int)]) l
      have h2' : l < (s.q.length : Int) + 1 := by simpa using h2
      by_cases e : l = s.q.length
      · rw [rd_app_len (xs := s.pp) (i := l) (by omega)]
        by_cases e2 : k = s.q.length
        · rw [rd_app_len (xs := s.pp) (i := k) (by omega)]
          omega
        · rw [rd_app_lt (xs := s.pp) (i := k) (by omega) (by omega)]
          exact h.le k (by omega) (by omega)
      · rw [rd_app_lt (xs := s.pp) (i := l) (by omega) (by omega), rd_app_lt (xs := s.pp) (i := k) (by omega) (by omega)]
        exact h.mo k l h0 h1 (by omega)
    · intro k h0 h1
      show rd (s.pp ++ [(i : Int)]) k ≤ i
      have h1' : k < (s.q.length : Int) + 1 := by simpa using h1
      by_cases e : k = s.q.length
      · rw [rd_app_len (xs := s.pp) (i := k) (by omega)]
        omega
      · rw [rd_app_lt (xs := s.pp) (i := k) (by omega) (by omega)]
        exact h.le k h0 (by omega)
    · intro k h0 h1 h2 d g0 g1 g2
      show ∃ l, 0 ≤ l ∧ l < ((s.q ++ [v]).length : Int) ∧ rd (s.q ++ [v]) l = rd T (ot d) ∧ rd (s.pp ++ [(i : Int)]) l ≤ k
      have g2' : rd T d = rd (s.q ++ [v]) k := g2
      rw [rd_app_lt (by omega) (by omega)] at g2'
      obtain ⟨l, a1, a2, a3, a4⟩ := h.pr k h0 h1 (by omega) d g0 g1 g2'
      exact ⟨l, a1, by omega, by rw [rd_app_lt a1 a2]; exact a3, by rw [rd_app_lt a1 (by omega)]; exact a4⟩
    · intro h2 d g0 g1 g2
      show ∃ l, 0 ≤ l ∧ l < ((s.q ++ [v]).length : Int) ∧ rd (s.q ++ [v]) l = rd T (ot d)
      have g2' : rd T d = rd (s.q ++ [v]) i := g2
      rw [rd_app_lt (by omega) (by omega)] at g2'
      by_cases e : d = j
      · subst e
        exact ⟨s.q.length, by omega, by omega, by rw [rd_app_len rfl, hvv]⟩
      · obtain ⟨l, a1, a2, a3⟩ := h.cu (by omega) d g0 (by omega) g2'
        exact ⟨l, a1, by omega, by rw [rd_app_lt a1 a2]; exact a3⟩
  · rw [if_neg c]
    refine ⟨⟨h.lu, h.lf, h.nd, h.rg, h.fq, h.q0, h.qr, h.lp, h.p0, h.un, h.ur, h.tr, h.mo, h.le, h.pr, ?_⟩, Nat.le_refl _, fun _ _ _ => rfl⟩
    intro h2 d g0 g1 g2
    by_cases e : d = j
    · subst e
      have hf : rb s.fo (rd T (ot j)) = true := by
        cases hb : rb s.fo (rd T (ot j)) with
        | true => rfl
        | false => exact absurd ⟨g2, hb⟩ c
      obtain ⟨l, a1, a2, a3⟩ := mem_rd ((h.fq _ hv.1 hv.2).1 hf)
      exact ⟨l, a1, a2, a3⟩
    · exact h.cu h2 d g0 (by omega) g2
theorem SI.row {i : Nat} {s : SS} (h : SI T N r i 0 s) (hi : i < s.q.length) (he : (T.length : Int) % 2 = 0) (ht : ∀ d : Int, 0 ≤ d → d < T.length → 0 ≤ rd T d ∧ rd T d < N) :
    ∀ j, j ≤ T.length → SI T N r i j (sRow T (rd s.q i) i s j) ∧ s.q.length ≤ (sRow T (rd s.q i) i s j).q.length ∧ (∀ k : Int, 0 ≤ k → k < s.q.length → rd (sRow T (rd s.q i) i s j).q k = rd s.q k)
  | 0, _ => ⟨h, Nat.le_refl _, fun _ _ _ => rfl⟩
  | j + 1, hj => by
    obtain ⟨a, b, c⟩ := SI.row h hi he ht j (by omega)
    have ci := c i (by omega) (by omega)
    obtain ⟨a', b', c'⟩ := a.step (by omega) (by omega) he ht
    rw [ci] at a' b' c'
    exact ⟨a', by show _ ≤ (sD T (rd s.q i) i (sRow T (rd s.q i) i s j) j).q.length; omega, fun k h0 h1 => by rw [← c k h0 h1]; exact c' k h0 (by omega)⟩
theorem SI.next {i : Nat} {s : SS} (h : SI T N r i T.length s) (hi : i < s.q.length) : SI T N r (i + 1) 0 s := by
  refine ⟨h.lu, h.lf, h.nd, h.rg, h.fq, h.q0, h.qr, h.lp, h.p0, h.un, h.ur, h.tr, h.mo, fun k h0 h1 => by have := h.le k h0 h1; omega, ?_, fun _ d h0 h1 => by omega⟩
  intro k h0 h1 h2 d g0 g1 g2
  by_cases e : k = i
  · subst e
    obtain ⟨l, a1, a2, a3⟩ := h.cu (by omega) d g0 g1 g2
    exact ⟨l, a1, a2, a3, h.le l a1 a2⟩
  · exact h.pr k h0 (by omega) h2 d g0 g1 g2
theorem sTo_ok (he : (T.length : Int) % 2 = 0) (ht : ∀ d : Int, 0 ≤ d → d < T.length → 0 ≤ rd T d ∧ rd T d < N) (hr0 : 0 ≤ r) (hr1 : r < N) : ∀ i, (∃ k, k ≤ i ∧ SI T N r k 0 (sTo T N r i) ∧ (k = i ∨ ¬ k < (sTo T N r i).q.length))
  | 0 => ⟨0, Nat.le_refl _, SI.start hr0 hr1, .inl rfl⟩
  | i + 1 => by
    obtain ⟨k, hk, h, hs⟩ := sTo_ok he ht hr0 hr1 i
    by_cases c : i < (sTo T N r i).q.length
    · obtain rfl : k = i := by omega
      rw [sTo, if_pos c]
      obtain ⟨a, b, _⟩ := h.row c he ht T.length (Nat.le_refl _)
      exact ⟨k + 1, Nat.le_refl _, a.next (by omega), .inl rfl⟩
    · rw [sTo, if_neg c]
      exact ⟨k, by omega, h, .inr (by omega)⟩
/-- As the walk has it: before each place, before each dart. -/
theorem sTo_at (he : (T.length : Int) % 2 = 0) (ht : ∀ d : Int, 0 ≤ d → d < T.length → 0 ≤ rd T d ∧ rd T d < N) (hr0 : 0 ≤ r) (hr1 : r < N) {i : Nat} (hi : i ≤ (sTo T N r i).q.length) : SI T N r i 0 (sTo T N r i) := by
  obtain ⟨k, hk, h, hs⟩ := sTo_ok he ht hr0 hr1 i
  rcases hs with rfl | hs
  · exact h
  · obtain rfl : k = i := by omega
    exact h
/-- At the end. -/
theorem span_end (he : (T.length : Int) % 2 = 0) (ht : ∀ d : Int, 0 ≤ d → d < T.length → 0 ≤ rd T d ∧ rd T d < N) (hr0 : 0 ≤ r) (hr1 : r < N) : SI T N r (spanS T N r).q.length 0 (spanS T N r) := by
  obtain ⟨k, hk, h, hs⟩ := sTo_ok (r := r) he ht hr0 hr1 N
  have hl := h.len
  refine ⟨h.lu, h.lf, h.nd, h.rg, h.fq, h.q0, h.qr, h.lp, h.p0, h.un, h.ur, h.tr, h.mo, fun k h0 h1 => ?_, fun k h0 h1 h2 => h.pr k h0 (by unfold spanS at h2; omega) h2, fun _ d h0 h1 => by omega⟩
  by_cases e : k = 0
  · subst e
    have := h.p0
    have := h.q0
    unfold spanS at h1 ⊢
    omega
  · obtain ⟨d, _, _, _, _, _, _, a7, _⟩ := h.tr k (by omega) h1
    unfold spanS at h1 ⊢
    omega
end
end Go.Proofs.Ytidcofjadlfahaa
