/- Nets that are grown dart by dart: what they are, as rows of numbers. No Go in sight. -/
import Derived.Test.YtidcofjadlfahaaFs
set_option linter.unusedVariables false
namespace Go.Proofs.Ytidcofjadlfahaa
open Go.RowKit

/-- Of no more than n numbers none comes twice. -/
theorem few : ∀ (n : Nat) (l : List Int), l.Nodup → (∀ z, z ∈ l → 0 ≤ z ∧ z < n) → l.length ≤ n
  | 0, l, _, h => by
    cases l with
    | nil => simp
    | cons v l => have := h v (by simp); omega
  | n + 1, l, hn, h => by
    have h1 : (l.erase (n : Int)).length ≤ n := by
      refine few n _ (hn.erase _) (fun z hz => ?_)
      have hz' := (List.Nodup.mem_erase_iff hn).1 hz
      have := h z hz'.2
      have : z ≠ n := hz'.1
      omega
    have h2 : l.length ≤ (l.erase (n : Int)).length + 1 := by
      rw [List.length_erase]
      split <;> omega
    omega
/-- A row that turns its places about. -/
structure Perm (m : Nat) (f : Int → Int) : Prop where
  rng : ∀ d : Int, 0 ≤ d → d < m → 0 ≤ f d ∧ f d < m
  inj : ∀ d e : Int, 0 ≤ d → d < m → 0 ≤ e → e < m → f d = f e → d = e
def itr (f : Int → Int) (d : Int) : Nat → Int
  | 0 => d
  | k + 1 => f (itr f d k)
theorem Perm.itr_rng {m : Nat} {f : Int → Int} (h : Perm m f) {d : Int} (h0 : 0 ≤ d) (h1 : d < m) : ∀ k, 0 ≤ itr f d k ∧ itr f d k < m
  | 0 => ⟨h0, h1⟩
  | k + 1 => h.rng _ (h.itr_rng h0 h1 k).1 (h.itr_rng h0 h1 k).2
theorem Perm.back {m : Nat} {f : Int → Int} (h : Perm m f) {d : Int} (h0 : 0 ≤ d) (h1 : d < m) : ∀ i j, itr f d i = itr f d (i + j) → d = itr f d j
  | 0, j, e => by rw [Nat.zero_add] at e; exact e
  | i + 1, j, e => by
    have e' : f (itr f d i) = f (itr f d (i + j)) := by
      rw [show i + 1 + j = (i + j) + 1 from by omega] at e
      exact e
    exact h.back h0 h1 i j (h.inj _ _ (h.itr_rng h0 h1 i).1 (h.itr_rng h0 h1 i).2 (h.itr_rng h0 h1 (i + j)).1 (h.itr_rng h0 h1 (i + j)).2 e')
theorem nodup_map (g : Nat → Int) : ∀ n, (∀ i j, i < j → j < n → g i ≠ g j) → ((List.range n).map g).Nodup
  | 0, _ => by simp
  | n + 1, h => by
    rw [List.range_succ, List.map_append, List.map_singleton, List.nodup_append]
    refine ⟨nodup_map g n (fun i j a b => h i j a (by omega)), by simp, ?_⟩
    intro x hx y hy
    obtain ⟨i, hi, rfl⟩ := List.mem_map.1 hx
    simp only [List.mem_singleton] at hy
    subst hy
    exact h i n (List.mem_range.1 hi) (by omega)
theorem chain_of (f : Int → Int) (d : Int) : ∀ t i, (∀ k, i ≤ k → k < i + t → itr f d k ≠ d) → itr f d (i + t) = d → Ch f d (itr f d i) ((List.range t).map (fun k => itr f d (i + k)))
  | 0, i, _, e => e
  | t + 1, i, h, e => by
    rw [List.range_succ_eq_map, List.map_cons, List.map_map]
    refine ⟨rfl, h i (Nat.le_refl _) (by omega), ?_⟩
    have := chain_of f d t (i + 1) (fun k a b => h k (by omega) (by omega)) (by rw [← e]; congr 1; omega)
    have e2 : ((fun k => itr f d (i + k)) ∘ Nat.succ) = fun k => itr f d (i + 1 + k) := by
      funext k
      show itr f d (i + (k + 1)) = _
      congr 1
      omega
    rw [e2]
    exact this
theorem least_of {p : Nat → Prop} : ∀ n, p n → ∃ k, k ≤ n ∧ p k ∧ ∀ j, j < k → ¬ p j
  | 0, h => ⟨0, Nat.le_refl _, h, fun j hj => by omega⟩
  | n + 1, h => by
    by_cases hn : ∃ k, k ≤ n ∧ p k
    · obtain ⟨k, hk, hp⟩ := hn
      obtain ⟨j, hj, r⟩ := least_of k hp
      exact ⟨j, by omega, r⟩
    · exact ⟨n + 1, Nat.le_refl _, h, fun j hj hp => hn ⟨j, by omega, hp⟩⟩
theorem Perm.ring {m : Nat} {f : Int → Int} (h : Perm m f) {d : Int} (h0 : 0 ≤ d) (h1 : d < m) : ∃ l, Ch f d (f d) l ∧ (∀ e, e ∈ d :: l → 0 ≤ e ∧ e < m) ∧ l.length ≤ m := by
  have hx : ∃ k, k < m ∧ itr f d (k + 1) = d := by
    by_cases hc : ∃ k, k < m ∧ itr f d (k + 1) = d
    · exact hc
    · exfalso
      have hn : ((List.range (m + 1)).map (itr f d)).Nodup := by
        refine nodup_map _ _ (fun i j hij hj e => hc ⟨j - i - 1, by omega, ?_⟩)
        have := h.back h0 h1 i (j - i) (by rw [show i + (j - i) = j from by omega]; exact e)
        rw [show j - i - 1 + 1 = j - i from by omega]
        exact this.symm
      have := few m _ hn (fun z hz => by
        obtain ⟨i, _, rfl⟩ := List.mem_map.1 hz
        exact h.itr_rng h0 h1 i)
      simp at this
      omega
  obtain ⟨k0, hk0, he0⟩ := hx
  obtain ⟨k, hk, he, hl⟩ := least_of (p := fun k => itr f d (k + 1) = d) k0 he0
  refine ⟨(List.range k).map (fun i => itr f d (1 + i)), chain_of f d k 1 (fun i a b e => hl (i - 1) (by omega) (by show itr f d (i - 1 + 1) = d; rw [show i - 1 + 1 = i from by omega]; exact e)) (by rw [Nat.add_comm]; exact he), ?_, by simp; omega⟩
  intro e hm
  rcases List.mem_cons.1 hm with rfl | hm
  · exact ⟨h0, h1⟩
  · obtain ⟨i, _, rfl⟩ := List.mem_map.1 hm
    exact h.itr_rng h0 h1 _
theorem perm_phi {X : List Int} (h : Perm X.length (rd X)) (he : (X.length : Int) % 2 = 0) : Perm X.length (phi X) := by
  refine ⟨fun d h0 h1 => ?_, fun d e a b a' b' k => ?_⟩
  · have := ot_rng d X.length h0 h1 he
    exact h.rng _ this.1 this.2
  · have h1 := ot_rng d X.length a b he
    have h2 := ot_rng e X.length a' b' he
    have := h.inj _ _ h1.1 h1.2 h2.1 h2.2 k
    rw [← ot_ot d, this, ot_ot]
theorem rings_of {X : List Int} (h : Perm X.length (rd X)) (he : (X.length : Int) % 2 = 0) (hm : X.length ≤ 240) : Rings X := fun d h0 h1 => by
  obtain ⟨l, a, b, c⟩ := (perm_phi h he).ring h0 h1
  exact ⟨l, a, b, by omega⟩

/-- A dart laid behind another one. -/
def layL (X : List Int) (e d : Int) : List Int := st (st X d (rd X e)) e d
theorem layL_length (X : List Int) (e d : Int) : (layL X e d).length = X.length := by simp [layL, st_length]
theorem rd_layL {X : List Int} {e d z : Int} (h0 : 0 ≤ e) (h1 : e < X.length) (h2 : 0 ≤ d) (h3 : d < X.length) (hz : 0 ≤ z) : rd (layL X e d) z = if z = e then d else if z = d then rd X e else rd X z := by
  unfold layL
  rw [rd_st _ _ _ _ h0 (by rw [st_length]; exact h1) hz, rd_st _ _ _ _ h2 h3 hz]
theorem Perm.lay {X : List Int} {e d : Int} (h : Perm X.length (rd X)) (h0 : 0 ≤ e) (h1 : e < X.length) (h2 : 0 ≤ d) (h3 : d < X.length) (hd : rd X d = d) (hne : e ≠ d) : Perm X.length (rd (layL X e d)) := by
  have hxe := h.rng e h0 h1
  have hen : rd X e ≠ d := fun k => hne (h.inj _ _ h0 h1 h2 h3 (by rw [k, hd]))
  refine ⟨fun z a b => ?_, fun z y a b a' b' k => ?_⟩
  · rw [rd_layL h0 h1 h2 h3 a]
    have := h.rng z a b
    split
    · omega
    · split <;> omega
  · rw [rd_layL h0 h1 h2 h3 a, rd_layL h0 h1 h2 h3 a'] at k
    have hnd : ∀ u : Int, 0 ≤ u → u < X.length → u ≠ d → rd X u ≠ d := fun u p q r s => r (h.inj _ _ p q h2 h3 (by rw [s, hd]))
    have hne2 : ∀ u : Int, 0 ≤ u → u < X.length → u ≠ e → rd X u ≠ rd X e := fun u p q r s => r (h.inj _ _ p q h0 h1 s)
    by_cases ze : z = e
    · by_cases ye : y = e
      · omega
      · rw [if_pos ze, if_neg ye] at k
        by_cases yd : y = d
        · rw [if_pos yd] at k
          exact absurd k.symm hen
        · rw [if_neg yd] at k
          exact absurd k.symm (hnd y a' b' yd)
    · rw [if_neg ze] at k
      by_cases zd : z = d
      · rw [if_pos zd] at k
        by_cases ye : y = e
        · rw [if_pos ye] at k
          exact absurd k hen
        · rw [if_neg ye] at k
          by_cases yd : y = d
          · omega
          · rw [if_neg yd] at k
            exact absurd k.symm (hne2 y a' b' ye)
      · rw [if_neg zd] at k
        by_cases ye : y = e
        · rw [if_pos ye] at k
          exact absurd k (hnd z a b zd)
        · rw [if_neg ye] at k
          by_cases yd : y = d
          · rw [if_pos yd] at k
            exact absurd k (hne2 z a b ze)
          · rw [if_neg yd] at k
            exact h.inj _ _ a b a' b' k

/-- A net: so many vertices; where each dart begins; the next one about that; what it holds. -/
structure PNet where
  N : Int
  T : List Int
  X : List Int
  C : List Int
/-- The darts whose corner is of the same face as e's. -/
noncomputable def sameL (n : PNet) (e : Int) : List Int := (((List.range n.T.length).map Int.ofNat).filter fun x => rd (facesOf n.X) (rd n.X x) == rd (facesOf n.X) (rd n.X e))
/-- One edge more, by a number. -/
noncomputable def growK (n : PNet) (k : Int) : PNet :=
  if n.T.length = 0 then
    if k % 5 = 0 then ⟨1, [0, 0], [1, 0], [capOf (k.tdiv 30), capOf (k.tdiv 7000)]⟩ else ⟨2, [0, 1], [0, 1], [capOf (k.tdiv 30), capOf (k.tdiv 7000)]⟩
  else
    let a : Int := n.T.length
    let e := k.tdiv 5 % a
    let g := rd (sameL n e) (k.tdiv 1200 % (sameL n e).length)
    let X2 := layL (n.X ++ [a, a + 1]) e a
    if k % 5 < 2 then ⟨n.N + 1, n.T ++ [rd n.T e, n.N], X2, n.C ++ [capOf (k.tdiv 30), capOf (k.tdiv 7000)]⟩
    else ⟨n.N, n.T ++ [rd n.T e, rd n.T g], layL X2 (if g = e then a else g) (a + 1), n.C ++ [capOf (k.tdiv 30), capOf (k.tdiv 7000)]⟩
noncomputable def planeOf (zs : List Int) : PNet := (zs.take 24).foldl (fun n z => growK n (wi z 1125899906842624)) ⟨1, [], [], []⟩

/-- What a grown net is. -/
structure Fine (n : PNet) : Prop where
  n1 : 1 ≤ n.N
  lx : n.X.length = n.T.length
  lc : n.C.length = n.T.length
  ev : (n.T.length : Int) % 2 = 0
  tr : ∀ d : Int, 0 ≤ d → d < n.T.length → 0 ≤ rd n.T d ∧ rd n.T d < n.N
  px : Perm n.X.length (rd n.X)
theorem rd_app2 (xs : List Int) (x y i : Int) (h0 : 0 ≤ i) (h1 : i < xs.length + 2) : rd (xs ++ [x, y]) i = if i < xs.length then rd xs i else if i = xs.length then x else y := by
  unfold rd
  simp only [List.getD_eq_getElem?_getD]
  by_cases h : i < xs.length
  · rw [if_pos h, List.getElem?_append_left (by omega)]
  · rw [if_neg h, List.getElem?_append_right (by omega)]
    by_cases e : i = xs.length
    · rw [if_pos e]
      have : i.toNat - xs.length = 0 := by omega
      simp [this]
    · rw [if_neg e]
      have : i.toNat - xs.length = 1 := by omega
      simp [this]
theorem same_mem {n : PNet} {e x : Int} : x ∈ sameL n e ↔ (0 ≤ x ∧ x < n.T.length) ∧ rd (facesOf n.X) (rd n.X x) = rd (facesOf n.X) (rd n.X e) := by
  unfold sameL
  simp only [List.mem_filter, List.mem_map, List.mem_range, beq_iff_eq]
  constructor
  · rintro ⟨⟨i, hi, rfl⟩, h⟩
    exact ⟨⟨by show (0 : Int) ≤ (i : Int); omega, by show (i : Int) < _; omega⟩, h⟩
  · rintro ⟨⟨h0, h1⟩, h⟩
    exact ⟨⟨x.toNat, by omega, by show ((x.toNat : Nat) : Int) = x; omega⟩, h⟩
theorem same_pos {n : PNet} {e : Int} (h0 : 0 ≤ e) (h1 : e < n.T.length) : 0 < (sameL n e).length := by
  have : e ∈ sameL n e := same_mem.2 ⟨⟨h0, h1⟩, rfl⟩
  exact List.length_pos_of_mem this
theorem rd_mem {xs : List Int} {i : Int} (h0 : 0 ≤ i) (h1 : i < xs.length) : rd xs i ∈ xs := by
  unfold rd
  rw [List.getD_eq_getElem?_getD, List.getElem?_eq_getElem (by omega)]
  exact List.getElem_mem _
theorem perm_two {X : List Int} (h : Perm X.length (rd X)) : Perm (X.length + 2) (rd (X ++ [(X.length : Int), X.length + 1])) := by
  refine ⟨fun d h0 h1 => ?_, fun d e a b a' b' k => ?_⟩
  · rw [rd_app2 _ _ _ _ h0 (by omega)]
    split
    · have := h.rng d h0 (by assumption)
      omega
    · split <;> omega
  · rw [rd_app2 _ _ _ _ a (by omega), rd_app2 _ _ _ _ a' (by omega)] at k
    by_cases hd : d < X.length
    · by_cases hE : e < X.length
      · rw [if_pos hd, if_pos hE] at k
        exact h.inj _ _ a hd a' hE k
      · have := h.rng d a hd
        rw [if_pos hd, if_neg hE] at k
        split at k <;> omega
    · by_cases hE : e < X.length
      · have := h.rng e a' hE
        rw [if_neg hd, if_pos hE] at k
        split at k <;> omega
      · rw [if_neg hd, if_neg hE] at k
        split at k <;> split at k <;> omega
theorem nil_fine : Fine ⟨1, [], [], []⟩ :=
  ⟨by show (1 : Int) ≤ 1; omega, rfl, rfl, rfl, fun d h0 h1 => by simp at h1; omega, ⟨fun d h0 h1 => by simp at h1; omega, fun d e h0 h1 => by simp at h1; omega⟩⟩
theorem rd_two (x y d : Int) (h0 : 0 ≤ d) (h1 : d < 2) : rd [x, y] d = if d = 0 then x else y := by
  rcases (by omega : d = 0 ∨ d = 1) with rfl | rfl <;> rfl
theorem first_fine (N x y p q c1 c2 : Int) (hN : 1 ≤ N) (hx : 0 ≤ x ∧ x < N) (hy : 0 ≤ y ∧ y < N) (hpq : (p = 0 ∧ q = 1) ∨ (p = 1 ∧ q = 0)) : Fine ⟨N, [x, y], [p, q], [c1, c2]⟩ := by
  refine ⟨hN, rfl, rfl, by simp, fun d h0 h1 => ?_, fun d h0 h1 => ?_, fun d e a b a' b' k => ?_⟩
  · simp at h1
    rw [rd_two _ _ _ h0 h1]
    split <;> assumption
  · simp at h1
    rw [rd_two _ _ _ h0 h1]
    show 0 ≤ _ ∧ _ < (2 : Int)
    split <;> omega
  · simp at b b'
    rw [rd_two _ _ _ a b, rd_two _ _ _ a' b'] at k
    split at k <;> split at k <;> omega
section
variable {n : PNet}
/-- What the walk needs of one edge more. -/
theorem grow_facts (h : Fine n) (h0 : 0 < n.T.length) {e g : Int} (he0 : 0 ≤ e) (he1 : e < n.T.length) (hg0 : 0 ≤ g) (hg1 : g < n.T.length) :
    Perm (n.X.length + 2) (rd (layL (n.X ++ [(n.T.length : Int), (n.T.length : Int) + 1]) e n.T.length)) ∧
    Perm (n.X.length + 2) (rd (layL (layL (n.X ++ [(n.T.length : Int), (n.T.length : Int) + 1]) e n.T.length) (if g = e then (n.T.length : Int) else g) ((n.T.length : Int) + 1))) := by
  have hl := h.lx
  have hp := perm_two h.px
  have hlen : (n.X ++ [(n.X.length : Int), (n.X.length : Int) + 1]).length = n.X.length + 2 := by simp
  have hp' : Perm (n.X ++ [(n.X.length : Int), (n.X.length : Int) + 1]).length (rd (n.X ++ [(n.X.length : Int), (n.X.length : Int) + 1])) := by rw [hlen]; exact hp
  rw [← hl]
  have e1 : rd (n.X ++ [(n.X.length : Int), (n.X.length : Int) + 1]) n.X.length = n.X.length := by rw [rd_app2 _ _ _ _ (by omega) (by omega), if_neg (by omega), if_pos rfl]
  have e2 : rd (n.X ++ [(n.X.length : Int), (n.X.length : Int) + 1]) ((n.X.length : Int) + 1) = (n.X.length : Int) + 1 := by rw [rd_app2 _ _ _ _ (by omega) (by omega), if_neg (by omega), if_neg (by omega)]
  have q1 := hp'.lay (e := e) (d := n.X.length) he0 (by rw [hlen]; omega) (by omega) (by rw [hlen]; omega) e1 (by omega)
  rw [hlen] at q1
  refine ⟨q1, ?_⟩
  have q1' : Perm (layL (n.X ++ [(n.X.length : Int), (n.X.length : Int) + 1]) e n.X.length).length (rd (layL (n.X ++ [(n.X.length : Int), (n.X.length : Int) + 1]) e n.X.length)) := by rw [layL_length, hlen]; exact q1
  have hgr : 0 ≤ (if g = e then (n.X.length : Int) else g) ∧ (if g = e then (n.X.length : Int) else g) < n.X.length + 1 := by split <;> omega
  have q2 := q1'.lay (e := if g = e then (n.X.length : Int) else g) (d := (n.X.length : Int) + 1) hgr.1 (by rw [layL_length, hlen]; omega) (by omega) (by rw [layL_length, hlen]; omega)
    (by rw [rd_layL he0 (by rw [hlen]; omega) (by omega) (by rw [hlen]; omega) (by omega), if_neg (by omega), if_neg (by omega), e2]) (by omega)
  rw [layL_length, hlen] at q2
  exact q2
theorem tails_app (h : Fine n) {N' x y : Int} (hN : n.N ≤ N') (hx : 0 ≤ x ∧ x < N') (hy : 0 ≤ y ∧ y < N') : ∀ d : Int, 0 ≤ d → d < (n.T ++ [x, y]).length → 0 ≤ rd (n.T ++ [x, y]) d ∧ rd (n.T ++ [x, y]) d < N' := by
  intro d h0 h1
  simp at h1
  rw [rd_app2 _ _ _ _ h0 (by omega)]
  split
  · have := h.tr d h0 (by assumption)
    omega
  · split
    · exact hx
    · exact hy
theorem Fine.grow (h : Fine n) {k : Int} (hk : 0 ≤ k) : Fine (growK n k) ∧ (growK n k).T.length = n.T.length + 2 ∧ (growK n k).N ≤ n.N + 1 := by
  have hn := h.n1
  unfold growK
  by_cases h0 : n.T.length = 0
  · rw [if_pos h0]
    by_cases h5 : k % 5 = 0
    · rw [if_pos h5]
      refine ⟨first_fine _ _ _ _ _ _ _ (by omega) (by omega) (by omega) (by omega), by simp [h0], ?_⟩
      show (1 : Int) ≤ _
      omega
    · rw [if_neg h5]
      refine ⟨first_fine _ _ _ _ _ _ _ (by omega) (by omega) (by omega) (by omega), by simp [h0], ?_⟩
      show (2 : Int) ≤ _
      omega
  · rw [if_neg h0]
    have ha : 0 < n.T.length := by omega
    have hke := tdiv_rng k 5 hk (by omega)
    have hkg := tdiv_rng k 1200 hk (by omega)
    have he := emod_rng (k.tdiv 5) n.T.length hke.1 (by omega)
    have hs := same_pos he.1 he.2
    have hgi := emod_rng (k.tdiv 1200) (sameL n (k.tdiv 5 % n.T.length)).length hkg.1 (by omega)
    have hg := (same_mem.1 (rd_mem hgi.1 hgi.2)).1
    have te := h.tr _ he.1 he.2
    have tg := h.tr _ hg.1 hg.2
    obtain ⟨P1, P2⟩ := grow_facts h ha he.1 he.2 hg.1 hg.2
    have hlx := h.lx
    have hlc := h.lc
    have hev := h.ev
    by_cases h2 : k % 5 < 2
    · simp only [if_pos h2]
      refine ⟨⟨by show (1 : Int) ≤ n.N + 1; omega, by simp [layL_length, hlx], by simp [hlc], by simp; omega, tails_app (N' := n.N + 1) h (by omega) (by omega) (by omega), ?_⟩, by simp, by show n.N + 1 ≤ n.N + 1; omega⟩
      show Perm (layL (n.X ++ [(n.T.length : Int), (n.T.length : Int) + 1]) _ _).length _
      rw [layL_length, show (n.X ++ [(n.T.length : Int), (n.T.length : Int) + 1]).length = n.X.length + 2 from by simp]
      exact P1
    · simp only [if_neg h2]
      refine ⟨⟨by show (1 : Int) ≤ n.N; omega, by simp [layL_length, hlx], by simp [hlc], by simp; omega, tails_app (N' := n.N) h (by omega) (by omega) (by omega), ?_⟩, by simp, by show n.N ≤ n.N + 1; omega⟩
      show Perm (layL (layL (n.X ++ [(n.T.length : Int), (n.T.length : Int) + 1]) _ _) _ _).length _
      rw [layL_length, layL_length, show (n.X ++ [(n.T.length : Int), (n.T.length : Int) + 1]).length = n.X.length + 2 from by simp]
      exact P2
end
end Go.Proofs.Ytidcofjadlfahaa
