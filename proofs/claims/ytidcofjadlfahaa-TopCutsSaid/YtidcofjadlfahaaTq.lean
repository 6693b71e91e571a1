/- Grown nets hang together; what the search leaves is a tree. No Go in sight. -/
import Derived.Test.YtidcofjadlfahaaRt
import Derived.Test.YtidcofjadlfahaaWy
import Derived.Test.YtidcofjadlfahaaLf
import Derived.Test.YtidcofjadlfahaaPl
set_option linter.unusedVariables false
namespace Go.Proofs.Ytidcofjadlfahaa
open Go.RowKit

/-- All vertices hang together. -/
def Conn (T : List Int) (N : Int) : Prop := ∀ S : Int → Prop, (∃ v, 0 ≤ v ∧ v < N ∧ S v) → (∀ d : Int, 0 ≤ d → d < T.length → S (rd T d) → S (rd T (ot d))) → ∀ v, 0 ≤ v → v < N → S v
theorem conn_one : Conn [] 1 := by
  rintro S ⟨v, h0, h1, hv⟩ _ u g0 g1
  rwa [show u = v from by omega]
theorem conn_grow {n : PNet} (hF : Fine n) (h : Conn n.T n.N) (k : Int) (hk : 0 ≤ k) : Conn (growK n k).T (growK n k).N := by
  have hn := hF.n1
  unfold growK
  by_cases h0 : n.T.length = 0
  · rw [if_pos h0]
    by_cases h5 : k % 5 = 0
    · rw [if_pos h5]
      rintro S ⟨v, a, b, hv⟩ _ u g0 g1
      have b' : v < 1 := b
      have g1' : u < 1 := g1
      rwa [show u = v from by omega]
    · rw [if_neg h5]
      rintro S ⟨v, a, b, hv⟩ hs u g0 g1
      have b' : v < 2 := b
      have g1' : u < 2 := g1
      have e0 := hs 0 (by decide) (by show (0 : Int) < 2; decide)
      have e1 := hs 1 (by decide) (by show (1 : Int) < 2; decide)
      have f0 : S 0 → S 1 := e0
      have f1 : S 1 → S 0 := e1
      rcases (by omega : u = 0 ∨ u = 1) with rfl | rfl <;> rcases (by omega : v = 0 ∨ v = 1) with rfl | rfl
      · exact hv
      · exact f1 hv
      · exact f0 hv
      · exact hv
  · rw [if_neg h0]
    have ha : 0 < n.T.length := by omega
    have hke := tdiv_rng k 5 hk (by omega)
    have hkg := tdiv_rng k 1200 hk (by omega)
    have he := emod_rng (k.tdiv 5) n.T.length hke.1 (by omega)
    have hs := same_pos he.1 he.2
    have hgi := emod_rng (k.tdiv 1200) (sameL n (k.tdiv 5 % n.T.length)).length hkg.1 (by omega)
    have hg := (same_mem.1 (rd_mem hgi.1 hgi.2)).1
    have te := hF.tr _ he.1 he.2
    have tg := hF.tr _ hg.1 hg.2
    have hev := hF.ev
    have old : ∀ (x y : Int) (S : Int → Prop), (∀ d : Int, 0 ≤ d → d < (n.T ++ [x, y]).length → S (rd (n.T ++ [x, y]) d) → S (rd (n.T ++ [x, y]) (ot d))) → ∀ d : Int, 0 ≤ d → d < n.T.length → S (rd n.T d) → S (rd n.T (ot d)) := by
      intro x y S hS d d0 d1 hd
      have ho := ot_rng d _ d0 d1 hev
      have := hS d d0 (by simp; omega)
      rw [rd_app2 _ _ _ _ d0 (by omega), rd_app2 _ _ _ _ ho.1 (by omega), if_pos d1, if_pos ho.2] at this
      exact this hd
    have nw : ∀ (x y : Int) (S : Int → Prop), (∀ d : Int, 0 ≤ d → d < (n.T ++ [x, y]).length → S (rd (n.T ++ [x, y]) d) → S (rd (n.T ++ [x, y]) (ot d))) → (S x → S y) ∧ (S y → S x) := by
      intro x y S hS
      have a1 := hS n.T.length (by omega) (by simp; omega)
      have a2 := hS (n.T.length + 1) (by omega) (by simp <;> omega)
      have o1 : ot (n.T.length : Int) = n.T.length + 1 := by unfold ot; rw [if_pos hev]
      have o2 : ot ((n.T.length : Int) + 1) = n.T.length := by unfold ot; rw [if_neg (by omega)]; try omega
      rw [o1, rd_app2 _ _ _ _ (by omega) (by omega), rd_app2 _ _ _ _ (by omega) (by omega), if_neg (by omega), if_pos rfl, if_neg (by omega), if_neg (by omega)] at a1
      rw [o2, rd_app2 _ _ _ _ (by omega) (by omega), rd_app2 _ _ _ _ (by omega) (by omega), if_neg (by omega), if_neg (by omega), if_neg (by omega), if_pos rfl] at a2
      exact ⟨a1, a2⟩
    by_cases h2 : k % 5 < 2
    · simp only [if_pos h2]
      rintro S ⟨v, a, b, hv⟩ hS u g0 g1
      have o := old _ _ S hS
      have w := nw _ _ S hS
      have b' : v < n.N + 1 := b
      have g1' : u < n.N + 1 := g1
      have hex : ∃ v, 0 ≤ v ∧ v < n.N ∧ S v := by
        by_cases e : v = n.N
        · exact ⟨_, te.1, te.2, w.2 (e ▸ hv)⟩
        · exact ⟨v, a, by omega, hv⟩
      have all := h S hex o
      by_cases e : u = n.N
      · rw [e]
        exact w.1 (all _ te.1 te.2)
      · exact all u g0 (by omega)
    · simp only [if_neg h2]
      rintro S hex hS u g0 g1
      exact h S hex (old _ _ S hS) u g0 g1
theorem conn_to (zs : List Int) : ∀ j, Conn (planeTo zs j).T (planeTo zs j).N
  | 0 => by simpa [planeTo] using conn_one
  | j + 1 => by
    rcases Nat.lt_or_ge j zs.length with h | h
    · rw [planeTo_next zs j h]
      exact conn_grow (planeTo_fine zs j).1 (conn_to zs j) _ (wi_rng _ _ (by omega)).1
    · have e : planeTo zs (j + 1) = planeTo zs j := by
        unfold planeTo
        rw [List.take_of_length_le (by omega), List.take_of_length_le h]
      rw [e]
      exact conn_to zs j
/-- A grown net, and how great it is. -/
theorem plane_facts (zs : List Int) : Fine (planeOf zs) ∧ (planeOf zs).T.length ≤ 48 ∧ (planeOf zs).N ≤ 25 ∧ Conn (planeOf zs).T (planeOf zs).N := by
  have e : planeTo zs 24 = planeOf zs := planeTo_all zs 24 (.inl rfl)
  obtain ⟨a, b, c⟩ := planeTo_fine zs 24
  have d := conn_to zs 24
  rw [e] at a b c d
  exact ⟨a, by omega, by omega, d⟩

section
variable {T : List Int} {N : Nat} {r : Int}
theorem span_all (he : (T.length : Int) % 2 = 0) (ht : ∀ d : Int, 0 ≤ d → d < T.length → 0 ≤ rd T d ∧ rd T d < N) (hr0 : 0 ≤ r) (hr1 : r < N) (hc : Conn T N) : ∀ v : Int, 0 ≤ v → v < N → v ∈ (spanS T N r).q := by
  have I := span_end he ht hr0 hr1
  refine hc (fun v => v ∈ (spanS T N r).q) ⟨r, hr0, hr1, by have h := rd_mem (xs := (spanS T N r).q) (i := 0) (by omega) (by have := I.q0; omega); rwa [I.qr] at h⟩ ?_
  intro d d0 d1 hd
  obtain ⟨k, k0, k1, hk⟩ := mem_rd hd
  obtain ⟨l, l0, l1, hl, _⟩ := I.pr k k0 k1 k1 d d0 d1 hk.symm
  rw [← hl]
  exact rd_mem l0 l1
/-- By the places: where a vertex hangs. -/
theorem span_up (he : (T.length : Int) % 2 = 0) (ht : ∀ d : Int, 0 ≤ d → d < T.length → 0 ≤ rd T d ∧ rd T d < N) (hr0 : 0 ≤ r) (hr1 : r < N) (k : Int) (h0 : 0 < k) (h1 : k < (spanS T N r).q.length) :
    0 ≤ rd (spanL T N r) (rd (spanS T N r).q k) ∧ rd (spanL T N r) (rd (spanS T N r).q k) < T.length ∧ rd T (rd (spanL T N r) (rd (spanS T N r).q k)) = rd (spanS T N r).q k ∧ rd T (ot (rd (spanL T N r) (rd (spanS T N r).q k))) = rd (spanS T N r).q (rd (spanS T N r).pp k) ∧ 0 ≤ rd (spanS T N r).pp k ∧ rd (spanS T N r).pp k < k := by
  have I := span_end he ht hr0 hr1
  obtain ⟨d, a1, a2, a3, a4, a5, a6, a7, _⟩ := I.tr k h0 h1
  have ho := ot_rng d _ a1 a2 he
  unfold spanL
  rw [a3, ot_ot]
  exact ⟨ho.1, ho.2, a5, a4, a6, a7⟩
theorem span_tree (he : (T.length : Int) % 2 = 0) (ht : ∀ d : Int, 0 ≤ d → d < T.length → 0 ≤ rd T d ∧ rd T d < N) (hr0 : 0 ≤ r) (hr1 : r < N) (hc : Conn T N) : IsTree T (spanL T N r) N r := by
  have I := span_end he ht hr0 hr1
  have A := span_all he ht hr0 hr1 hc
  have hlu : (spanL T N r).length = N := I.lu
  have h0q : rd (spanS T N r).q 0 = r := I.qr
  have hnr : ∀ k : Int, 0 < k → k < (spanS T N r).q.length → rd (spanS T N r).q k ≠ r := fun k k0 k1 e => by
    have := rd_inj I.nd (by omega) k1 (by omega) (by have := I.q0; omega) (e.trans h0q.symm)
    omega
  have hcl : ∀ n : Nat, ∀ k : Int, 0 ≤ k → k < (spanS T N r).q.length → k ≤ n → ∃ j, j ≤ n ∧ itr (climb T (spanL T N r) r) (rd (spanS T N r).q k) j = r := by
    intro n
    induction n with
    | zero =>
      intro k k0 k1 k2
      obtain rfl : k = 0 := by omega
      exact ⟨0, Nat.le_refl _, h0q⟩
    | succ n ih =>
      intro k k0 k1 k2
      by_cases e : k = 0
      · subst e
        exact ⟨0, by omega, h0q⟩
      · obtain ⟨p1, p2, p3, p4, p5, p6⟩ := span_up he ht hr0 hr1 k (by omega) k1
        obtain ⟨j, hj, hi⟩ := ih (rd (spanS T N r).pp k) p5 (by omega) (by omega)
        refine ⟨j + 1, by omega, ?_⟩
        rw [show j + 1 = 1 + j from by omega, itr_add]
        show itr _ (climb T (spanL T N r) r (rd (spanS T N r).q k)) j = r
        rw [climb, if_neg (hnr k (by omega) k1), p4]
        exact hi
  refine ⟨hlu, hr0, hr1, fun v v0 v1 => ?_, fun v v0 v1 => ?_⟩
  · refine ⟨fun e => by rw [e]; exact I.ur, fun e => ?_⟩
    obtain ⟨k, k0, k1, rfl⟩ := mem_rd (A v v0 v1)
    have kp : 0 < k := by
      rcases (by omega : k = 0 ∨ 0 < k) with rfl | h
      · exact absurd h0q e
      · exact h
    obtain ⟨p1, p2, p3, _⟩ := span_up he ht hr0 hr1 k kp k1
    exact ⟨p1, p2, p3⟩
  · obtain ⟨k, k0, k1, rfl⟩ := mem_rd (A v v0 v1)
    have hl := I.len
    obtain ⟨j, hj, hi⟩ := hcl N k k0 k1 (by omega)
    have := climb_root j hi (N - j)
    rwa [show j + (N - j) = N from by omega] at this
/-- A tree's darts may be gone along; its ways end. -/
theorem IsTree.upOk {up : List Int} (h : IsTree T up N r) : UpOk T up N := fun v v0 v1 => by
  obtain ⟨a, b⟩ := h.ok v v0 v1
  by_cases e : v = r
  · exact .inl (a e)
  · exact .inr ⟨(b e).1, (b e).2.1⟩
theorem IsTree.ends {up : List Int} (h : IsTree T up N r) (he : (T.length : Int) % 2 = 0) (ht : ∀ d : Int, 0 ≤ d → d < T.length → 0 ≤ rd T d ∧ rd T d < N) : ∀ (k : Nat) (v : Int), 0 ≤ v → v < N → itr (climb T up r) v k = r → endsW T up k v
  | 0, v, v0, v1, e => by
    have e' : v = r := e
    have := (h.ok v v0 v1).1 e'
    unfold endsW
    omega
  | k + 1, v, v0, v1, e => by
    unfold endsW
    by_cases er : v = r
    · exact .inl (by have := (h.ok v v0 v1).1 er; omega)
    · right
      obtain ⟨p, q, s⟩ := (h.ok v v0 v1).2 er
      have ho := ot_rng _ _ p q he
      have hh := ht _ ho.1 ho.2
      refine h.ends he ht k _ hh.1 hh.2 ?_
      rw [show k + 1 = 1 + k from by omega, itr_add] at e
      have e2 : itr (climb T up r) (climb T up r v) k = r := e
      rw [climb, if_neg er] at e2
      exact e2
end
end Go.Proofs.Ytidcofjadlfahaa
