/- The search along some darts: by which dart each vertex is found. No Go in sight. -/
import Derived.Test.YtidcofjadlfahaaTp
set_option linter.unusedVariables false
namespace Go.Proofs.Ytidcofjadlfahaa
open Go.RowKit

/-- By which dart each vertex is found; in which order. -/
structure BS where
  by_ : List Int
  q : List Int
def bD (T : List Int) (ok : Int → Bool) (a : Int) (s : BS) (d : Int) : BS :=
  if rd T d = a ∧ ok d = true ∧ rd s.by_ (rd T (ot d)) < 0 then ⟨st s.by_ (rd T (ot d)) d, s.q ++ [rd T (ot d)]⟩ else s
def bRow (T : List Int) (ok : Int → Bool) (a : Int) (s : BS) : Nat → BS
  | 0 => s
  | j + 1 => bD T ok a (bRow T ok a s j) j
def bTo (T : List Int) (ok : Int → Bool) (m n : Nat) (r : Int) : Nat → BS
  | 0 => ⟨st (List.replicate m (-1)) r n, [r]⟩
  | i + 1 => if i < (bTo T ok m n r i).q.length then bRow T ok (rd (bTo T ok m n r i).q i) (bTo T ok m n r i) n else bTo T ok m n r i
def bEnd (T : List Int) (ok : Int → Bool) (m n : Nat) (r : Int) : BS := bTo T ok m n r m
theorem bTo_stop {T : List Int} {ok : Int → Bool} {m n : Nat} {r : Int} {i : Nat} (h : ¬ i < (bTo T ok m n r i).q.length) : ∀ k, bTo T ok m n r (i + k) = bTo T ok m n r i
  | 0 => rfl
  | k + 1 => by
    have ih := bTo_stop h k
    show bTo T ok m n r ((i + k) + 1) = _
    rw [bTo, ih, if_neg (by omega)]
/-- What holds of the search at place i, dart j. -/
structure BI (T : List Int) (ok : Int → Bool) (m n : Nat) (r : Int) (i j : Nat) (s : BS) : Prop where
  lb : s.by_.length = m
  nd : s.q.Nodup
  rg : ∀ v, v ∈ s.q → 0 ≤ v ∧ v < m
  sg : ∀ v : Int, 0 ≤ v → v < m → rd s.by_ v = -1 ∨ (0 ≤ rd s.by_ v ∧ rd s.by_ v ≤ n)
  fq : ∀ v : Int, 0 ≤ v → v < m → (0 ≤ rd s.by_ v ↔ v ∈ s.q)
  q0 : 0 < s.q.length
  qr : rd s.q 0 = r
  br : rd s.by_ r = n
  tr : ∀ k : Int, 0 < k → k < s.q.length → 0 ≤ rd s.by_ (rd s.q k) ∧ rd s.by_ (rd s.q k) < n ∧ ok (rd s.by_ (rd s.q k)) = true ∧ rd T (ot (rd s.by_ (rd s.q k))) = rd s.q k ∧ ∃ l : Int, 0 ≤ l ∧ l < k ∧ rd s.q l = rd T (rd s.by_ (rd s.q k))
  pr : ∀ k : Int, 0 ≤ k → k < i → k < s.q.length → ∀ d : Int, 0 ≤ d → d < n → rd T d = rd s.q k → ok d = true → rd T (ot d) ∈ s.q
  cu : (i : Int) < s.q.length → ∀ d : Int, 0 ≤ d → d < j → rd T d = rd s.q i → ok d = true → rd T (ot d) ∈ s.q
section
variable {T : List Int} {ok : Int → Bool} {m n : Nat} {r : Int}
theorem BI.start (hr0 : 0 ≤ r) (hr1 : r < m) : BI T ok m n r 0 0 (bTo T ok m n r 0) := by
  have hl : (List.replicate m (-1 : Int)).length = m := by simp
  have hrd : ∀ v : Int, 0 ≤ v → v < m → rd (st (List.replicate m (-1)) r n) v = if v = r then (n : Int) else -1 := fun v v0 v1 => by
    rw [rd_st _ _ _ _ hr0 (by rw [hl]; exact hr1) v0, rd_rep _ _ _ v0 v1]
  refine ⟨by simp [bTo, st_length], by simp [bTo], ?_, ?_, ?_, by simp [bTo], by simp [bTo, rd], ?_, ?_, ?_, ?_⟩
  · intro v hv
    simp [bTo] at hv
    omega
  · intro v v0 v1
    show rd (st (List.replicate m (-1)) r n) v = -1 ∨ (0 ≤ rd (st (List.replicate m (-1)) r n) v ∧ rd (st (List.replicate m (-1)) r n) v ≤ n)
    rw [hrd v v0 v1]
    split <;> omega
  · intro v v0 v1
    show 0 ≤ rd (st (List.replicate m (-1)) r n) v ↔ v ∈ [r]
    rw [hrd v v0 v1]
    split
    · rename_i e
      simp [e]
    · rename_i e
      simp [e]
  · show rd (st (List.replicate m (-1)) r n) r = n
    rw [hrd r hr0 hr1, if_pos rfl]
  · intro k h0 h1
    simp [bTo] at h1
    omega
  · intro k h0 h1
    omega
  · intro _ d h0 h1
    omega
theorem BI.len {i j : Nat} {s : BS} (h : BI T ok m n r i j s) : s.q.length ≤ m := few m _ h.nd h.rg
theorem BI.step {i j : Nat} {s : BS} (h : BI T ok m n r i j s) (hi : i < s.q.length) (hj : j < n) (he : (n : Int) % 2 = 0) (ht : ∀ d : Int, 0 ≤ d → d < n → 0 ≤ rd T d ∧ rd T d < m) :
    BI T ok m n r i (j + 1) (bD T ok (rd s.q i) s j) ∧ s.q.length ≤ (bD T ok (rd s.q i) s j).q.length ∧ (∀ k : Int, 0 ≤ k → k < s.q.length → rd (bD T ok (rd s.q i) s j).q k = rd s.q k) := by
  have ho := ot_rng j n (by omega) (by omega) he
  have hv := ht (ot j) ho.1 ho.2
  unfold bD
  by_cases c : rd T j = rd s.q i ∧ ok j = true ∧ rd s.by_ (rd T (ot j)) < 0
  · rw [if_pos c]
    obtain ⟨c1, c3, c2⟩ := c
    obtain ⟨v, hvv⟩ : ∃ v, rd T (ot j) = v := ⟨_, rfl⟩
    rw [hvv] at hv c2 ⊢
    have hnq : v ∉ s.q := fun hm => by
      have := (h.fq v hv.1 hv.2).2 hm
      omega
    have hvr : v ≠ r := fun e => hnq (by rw [e, ← h.qr]; exact rd_mem (by omega) (by have := h.q0; omega))
    have q0 := h.q0
    have hr : 0 ≤ r ∧ r < m := h.rg r (by have := rd_mem (xs := s.q) (i := 0) (by omega) (by omega); rwa [h.qr] at this)
    have ll : (s.q ++ [v]).length = s.q.length + 1 := by simp
    have hb : ∀ u : Int, 0 ≤ u → rd (st s.by_ v (j : Int)) u = if u = v then (j : Int) else rd s.by_ u := fun u u0 => rd_st _ _ _ _ hv.1 (by rw [h.lb]; exact hv.2) u0
    refine ⟨⟨by simp [st_length, h.lb], ?_, ?_, ?_, ?_, by simp, ?_, ?_, ?_, ?_, ?_⟩, by simp, fun k h0 h1 => rd_app_lt h0 h1⟩
    · rw [List.nodup_append]
      exact ⟨h.nd, by simp, fun a ha b hb => by simp at hb; subst hb; exact fun e => hnq (e ▸ ha)⟩
    · intro u hu
      rcases List.mem_append.1 hu with hu | hu
      · exact h.rg u hu
      · simp at hu; subst hu; exact hv
    · intro u h0 h1
      show rd (st s.by_ v (j : Int)) u = -1 ∨ (0 ≤ rd (st s.by_ v (j : Int)) u ∧ rd (st s.by_ v (j : Int)) u ≤ n)
      rw [hb u h0]
      split
      · right; omega
      · exact h.sg u h0 h1
    · intro u h0 h1
      show 0 ≤ rd (st s.by_ v (j : Int)) u ↔ u ∈ s.q ++ [v]
      rw [hb u h0]
      by_cases e : u = v
      · rw [if_pos e]; simp [e]
      · rw [if_neg e, h.fq u h0 h1]
        simp [e]
    · show rd (s.q ++ [v]) 0 = r
      rw [rd_app_lt (by omega) (by omega), h.qr]
    · show rd (st s.by_ v (j : Int)) r = n
      rw [hb r hr.1, if_neg (Ne.symm hvr)]
      exact h.br
    · intro k h0 h1
      have h1' : k < (s.q.length : Int) + 1 := by rw [ll] at h1; exact_mod_cast h1
      show 0 ≤ rd (st s.by_ v (j : Int)) (rd (s.q ++ [v]) k) ∧ rd (st s.by_ v (j : Int)) (rd (s.q ++ [v]) k) < n ∧ ok (rd (st s.by_ v (j : Int)) (rd (s.q ++ [v]) k)) = true ∧ rd T (ot (rd (st s.by_ v (j : Int)) (rd (s.q ++ [v]) k))) = rd (s.q ++ [v]) k ∧ ∃ l : Int, 0 ≤ l ∧ l < k ∧ rd (s.q ++ [v]) l = rd T (rd (st s.by_ v (j : Int)) (rd (s.q ++ [v]) k))
      by_cases e : k = s.q.length
      · rw [rd_app_len (xs := s.q) e, hb v hv.1, if_pos rfl]
        exact ⟨by omega, by omega, c3, hvv, i, by omega, by omega, by rw [rd_app_lt (by omega) (by omega), c1]⟩
      · obtain ⟨a1, a2, a3, a4, l, a5, a6, a7⟩ := h.tr k h0 (by omega)
        have hkm : rd s.q k ∈ s.q := rd_mem (by omega) (by omega)
        have hkr := h.rg _ hkm
        rw [rd_app_lt (xs := s.q) (i := k) (by omega) (by omega), hb _ hkr.1, if_neg (show ¬ rd s.q k = v from fun e => hnq (e ▸ hkm))]
        exact ⟨a1, a2, a3, a4, l, a5, a6, by rw [rd_app_lt a5 (by omega)]; exact a7⟩
    · intro k h0 h1 h2 d g0 g1 g2 g3
      have g2' : rd T d = rd (s.q ++ [v]) k := g2
      rw [rd_app_lt (by omega) (by omega)] at g2'
      exact List.mem_append_left _ (h.pr k h0 h1 (by omega) d g0 g1 g2' g3)
    · intro h2 d g0 g1 g2 g3
      have g2' : rd T d = rd (s.q ++ [v]) i := g2
      rw [rd_app_lt (by omega) (by omega)] at g2'
      show rd T (ot d) ∈ s.q ++ [v]
      by_cases e : d = j
      · subst e
        simp [hvv]
      · exact List.mem_append_left _ (h.cu (by omega) d g0 (by omega) g2' g3)
  · rw [if_neg c]
    refine ⟨⟨h.lb, h.nd, h.rg, h.sg, h.fq, h.q0, h.qr, h.br, h.tr, h.pr, ?_⟩, Nat.le_refl _, fun _ _ _ => rfl⟩
    intro h2 d g0 g1 g2 g3
    by_cases e : d = j
    · subst e
      refine (h.fq _ hv.1 hv.2).1 ?_
      apply Int.not_lt.1
      exact fun hb => c ⟨g2, g3, hb⟩
    · exact h.cu h2 d g0 (by omega) g2 g3
theorem BI.row {i : Nat} {s : BS} (h : BI T ok m n r i 0 s) (hi : i < s.q.length) (he : (n : Int) % 2 = 0) (ht : ∀ d : Int, 0 ≤ d → d < n → 0 ≤ rd T d ∧ rd T d < m) :
    ∀ j, j ≤ n → BI T ok m n r i j (bRow T ok (rd s.q i) s j) ∧ s.q.length ≤ (bRow T ok (rd s.q i) s j).q.length ∧ (∀ k : Int, 0 ≤ k → k < s.q.length → rd (bRow T ok (rd s.q i) s j).q k = rd s.q k)
  | 0, _ => ⟨h, Nat.le_refl _, fun _ _ _ => rfl⟩
  | j + 1, hj => by
    obtain ⟨a, b, c⟩ := BI.row h hi he ht j (by omega)
    have ci := c i (by omega) (by omega)
    obtain ⟨a', b', c'⟩ := a.step (by omega) (by omega) he ht
    rw [ci] at a' b' c'
    exact ⟨a', by show _ ≤ (bD T ok (rd s.q i) (bRow T ok (rd s.q i) s j) j).q.length; omega, fun k h0 h1 => by rw [← c k h0 h1]; exact c' k h0 (by omega)⟩
theorem BI.next {i : Nat} {s : BS} (h : BI T ok m n r i n s) (hi : i < s.q.length) : BI T ok m n r (i + 1) 0 s := by
  refine ⟨h.lb, h.nd, h.rg, h.sg, h.fq, h.q0, h.qr, h.br, h.tr, ?_, fun _ d h0 h1 => by omega⟩
  intro k h0 h1 h2 d g0 g1 g2 g3
  by_cases e : k = i
  · subst e
    exact h.cu (by omega) d g0 g1 g2 g3
  · exact h.pr k h0 (by omega) h2 d g0 g1 g2 g3
theorem bTo_ok (he : (n : Int) % 2 = 0) (ht : ∀ d : Int, 0 ≤ d → d < n → 0 ≤ rd T d ∧ rd T d < m) (hr0 : 0 ≤ r) (hr1 : r < m) : ∀ i, (∃ k, k ≤ i ∧ BI T ok m n r k 0 (bTo T ok m n r i) ∧ (k = i ∨ ¬ k < (bTo T ok m n r i).q.length))
  | 0 => ⟨0, Nat.le_refl _, BI.start hr0 hr1, .inl rfl⟩
  | i + 1 => by
    obtain ⟨k, hk, h, hs⟩ := bTo_ok he ht hr0 hr1 i
    by_cases c : i < (bTo T ok m n r i).q.length
    · obtain rfl : k = i := by omega
      rw [bTo, if_pos c]
      obtain ⟨a, b, _⟩ := h.row c he ht n (Nat.le_refl _)
      exact ⟨k + 1, Nat.le_refl _, a.next (by omega), .inl rfl⟩
    · rw [bTo, if_neg c]
      exact ⟨k, by omega, h, .inr (by omega)⟩
/-- As the walk has it: before each place. -/
theorem bTo_at (he : (n : Int) % 2 = 0) (ht : ∀ d : Int, 0 ≤ d → d < n → 0 ≤ rd T d ∧ rd T d < m) (hr0 : 0 ≤ r) (hr1 : r < m) {i : Nat} (hi : i ≤ (bTo T ok m n r i).q.length) : BI T ok m n r i 0 (bTo T ok m n r i) := by
  obtain ⟨k, hk, h, hs⟩ := bTo_ok (ok := ok) he ht hr0 hr1 i
  rcases hs with rfl | hs
  · exact h
  · obtain rfl : k = i := by omega
    exact h
/-- At the end: all is found that can be come to. -/
structure Found (T : List Int) (ok : Int → Bool) (m n : Nat) (r : Int) (s : BS) : Prop where
  lb : s.by_.length = m
  sg : ∀ v : Int, 0 ≤ v → v < m → rd s.by_ v = -1 ∨ (0 ≤ rd s.by_ v ∧ rd s.by_ v ≤ n)
  fq : ∀ v : Int, 0 ≤ v → v < m → (0 ≤ rd s.by_ v ↔ v ∈ s.q)
  rg : ∀ v, v ∈ s.q → 0 ≤ v ∧ v < m
  len : s.q.length ≤ m
  root : r ∈ s.q
  clo : ∀ d : Int, 0 ≤ d → d < n → rd T d ∈ s.q → ok d = true → rd T (ot d) ∈ s.q
  nd : s.q.Nodup
  q0 : 0 < s.q.length
  qr : rd s.q 0 = r
  br : rd s.by_ r = n
  tr : ∀ k : Int, 0 < k → k < s.q.length → 0 ≤ rd s.by_ (rd s.q k) ∧ rd s.by_ (rd s.q k) < n ∧ ok (rd s.by_ (rd s.q k)) = true ∧ rd T (ot (rd s.by_ (rd s.q k))) = rd s.q k ∧ ∃ l : Int, 0 ≤ l ∧ l < k ∧ rd s.q l = rd T (rd s.by_ (rd s.q k))
theorem BI.found {i : Nat} {s : BS} (h : BI T ok m n r i 0 s) (hs : ¬ i < s.q.length) : Found T ok m n r s := by
  refine ⟨h.lb, h.sg, h.fq, h.rg, h.len, ?_, ?_, h.nd, h.q0, h.qr, h.br, h.tr⟩
  · have := rd_mem (xs := s.q) (i := 0) (by omega) (by have := h.q0; omega)
    rwa [h.qr] at this
  · intro d d0 d1 hm hok
    obtain ⟨k, k0, k1, e⟩ := mem_rd hm
    exact h.pr k k0 (by omega) k1 d d0 d1 e.symm hok
theorem bEnd_found (he : (n : Int) % 2 = 0) (ht : ∀ d : Int, 0 ≤ d → d < n → 0 ≤ rd T d ∧ rd T d < m) (hr0 : 0 ≤ r) (hr1 : r < m) : Found T ok m n r (bEnd T ok m n r) := by
  obtain ⟨k, hk, h, hs⟩ := bTo_ok (ok := ok) he ht hr0 hr1 m
  have hl := h.len
  refine h.found ?_
  rcases hs with rfl | hs
  · omega
  · exact hs
/-- Nothing is found that need not be. -/
theorem Found.least {s : BS} (h : Found T ok m n r s) (S : Int → Prop) (hr : S r) (hs : ∀ d : Int, 0 ≤ d → d < n → S (rd T d) → ok d = true → S (rd T (ot d))) : ∀ v, v ∈ s.q → S v := by
  have key : ∀ (b : Nat) (k : Int), 0 ≤ k → k < s.q.length → k ≤ b → S (rd s.q k) := fun b => by
    induction b with
    | zero =>
      intro k k0 k1 kb
      obtain rfl : k = 0 := by omega
      rw [h.qr]
      exact hr
    | succ b ih =>
      intro k k0 k1 kb
      by_cases e : k = 0
      · subst e; rw [h.qr]; exact hr
      · obtain ⟨a1, a2, a3, a4, l, a5, a6, a7⟩ := h.tr k (by omega) k1
        rw [← a4]
        exact hs _ a1 a2 (by rw [← a7]; exact ih l a5 (by omega) (by omega)) a3
  intro v hv
  obtain ⟨k, k0, k1, rfl⟩ := mem_rd hv
  exact key k.toNat k k0 k1 (by omega)
end
end Go.Proofs.Ytidcofjadlfahaa
