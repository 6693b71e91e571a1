/- What is left is a tree of the dual. No Go in sight. -/
import Derived.Test.YtidcofjadlfahaaTe
import Derived.Test.YtidcofjadlfahaaTw
import Derived.Test.YtidcofjadlfahaaTc
set_option linter.unusedVariables false
namespace Go.Proofs.Ytidcofjadlfahaa
open Go.RowKit

theorem left_mem {T up : List Int} {d : Int} : d ∈ leftL T up ↔ ∃ i : Nat, i < T.length / 2 ∧ d = 2 * (i : Int) ∧ hasB up (2 * (i : Int)) = false ∧ hasB up (2 * (i : Int) + 1) = false := by
  unfold leftL leftTo
  simp only [List.mem_filter, List.mem_map, List.mem_range, Bool.and_eq_true, Bool.not_eq_true']
  constructor
  · rintro ⟨⟨i, hi, rfl⟩, h1, h2⟩
    exact ⟨i, hi, rfl, h1, h2⟩
  · rintro ⟨i, hi, rfl, h1, h2⟩
    exact ⟨⟨i, hi, rfl⟩, h1, h2⟩
theorem left_sorted (up : List Int) : ∀ k : Nat, (leftTo up k).Pairwise (fun a b => a < b) ∧ ∀ d, d ∈ leftTo up k → d < 2 * (k : Int)
  | 0 => by simp [leftTo]
  | k + 1 => by
    obtain ⟨a, b⟩ := left_sorted up k
    rw [leftTo_next]
    split
    · refine ⟨List.pairwise_append.2 ⟨a, by simp, fun x hx y hy => ?_⟩, fun d hd => ?_⟩
      · simp at hy
        rw [hy]
        exact b x hx
      · rcases List.mem_append.1 hd with h | h
        · have := b d h
          omega
        · simp at h
          omega
    · exact ⟨a, fun d hd => by have := b d hd; omega⟩
theorem left_lt {T up : List Int} {i : Int} (h0 : 0 < i) (h1 : i < (leftL T up).length) : rd (leftL T up) (i - 1) < rd (leftL T up) i := by
  have h := (left_sorted up (T.length / 2)).1
  unfold leftL at *
  have e1 : (i - 1).toNat < (leftTo up (T.length / 2)).length := by omega
  have e2 : i.toNat < (leftTo up (T.length / 2)).length := by omega
  have := List.pairwise_iff_getElem.1 h (i - 1).toNat i.toNat e1 e2 (by omega)
  unfold rd
  rw [List.getD_eq_getElem?_getD, List.getD_eq_getElem?_getD, List.getElem?_eq_getElem e1, List.getElem?_eq_getElem e2]
  exact this
theorem left_rng {T up : List Int} {d : Int} (h : d ∈ leftL T up) : 0 ≤ d ∧ d + 1 < T.length ∧ ot d = d + 1 := by
  obtain ⟨i, hi, rfl, _⟩ := left_mem.1 h
  refine ⟨by omega, by omega, ?_⟩
  unfold ot
  rw [if_pos (by omega)]
theorem Ch.same {f : Int → Int} {d : Int} {P : Int → Prop} : ∀ {l : List Int} {e : Int}, Ch f d e l → (∀ z, z ∈ l → (P z ↔ P (f z))) → (P e ↔ P d)
  | [], e, h, _ => by rw [show e = d from h]
  | x :: l, e, h, hp => by
    obtain ⟨rfl, _, h⟩ := h
    exact (hp x (by simp)).trans (Ch.same h (fun z hz => hp z (by simp [hz])))
theorem Ch.ne {f : Int → Int} {d : Int} : ∀ {l : List Int} {e : Int}, Ch f d e l → ∀ z, z ∈ l → z ≠ d
  | [], _, _, z, hz => by cases hz
  | x :: l, e, h, z, hz => by
    obtain ⟨rfl, hne, h⟩ := h
    rcases List.mem_cons.1 hz with rfl | hz
    · exact hne
    · exact Ch.ne h z hz
section
variable {n : PNet} {up : List Int} {m : Nat} {r : Int}
/-- By the edges that are left all faces hang together. -/
theorem left_joins (hF : Fine n) (hM : Map n) (hN : n.N = m) (Y : IsTree n.T up m r) (S : Int → Prop) (hS : ∀ d, d ∈ leftL n.T up → (S (rd (facesOf n.X) d) ↔ S (rd (facesOf n.X) (d + 1)))) :
    ∀ z y : Int, 0 ≤ z → z < n.X.length → 0 ≤ y → y < n.X.length → (S (rd (facesOf n.X) z) ↔ S (rd (facesOf n.X) y)) := by
  have hlx := hF.lx
  have hev := hF.ev
  have heX : (n.X.length : Int) % 2 = 0 := by rw [hlx]; exact hev
  have F := faces_all hF.px heX
  have htr : ∀ d : Int, 0 ≤ d → d < n.T.length → 0 ≤ rd n.T d ∧ rd n.T d < m := by have := hF.tr; rwa [hN] at this
  have of_next : ∀ z : Int, 0 ≤ z → z < n.X.length → rd (facesOf n.X) (rd n.X z) = rd (facesOf n.X) (ot z) := fun z z0 z1 => by
    have ho := ot_rng z _ z0 z1 heX
    have := F.inv (ot z) ho.1 ho.2 (F.don _ ho.1 ho.2 (by omega))
    rwa [phi, ot_ot] at this
  -- edges that are left part nothing
  have s1 : ∀ z : Int, 0 ≤ z → z < n.X.length → z ∉ up → ot z ∉ up → (S (rd (facesOf n.X) z) ↔ S (rd (facesOf n.X) (ot z))) := by
    intro z z0 z1 h1 h2
    rw [hlx] at z1
    by_cases c : z % 2 = 0
    · have ho : ot z = z + 1 := by unfold ot; rw [if_pos c]
      rw [ho] at h2 ⊢
      refine hS z (left_mem.2 ⟨(z / 2).toNat, by omega, by omega, ?_, ?_⟩)
      · rw [show 2 * (((z / 2).toNat : Nat) : Int) = z from by omega]
        exact decide_eq_false h1
      · rw [show 2 * (((z / 2).toNat : Nat) : Int) = z from by omega]
        exact decide_eq_false h2
    · have ho : ot z = z - 1 := by unfold ot; rw [if_neg c]
      rw [ho] at h2 ⊢
      have := hS (z - 1) (left_mem.2 ⟨(z / 2).toNat, by omega, by omega, by
        rw [show 2 * (((z / 2).toNat : Nat) : Int) = z - 1 from by omega]
        exact decide_eq_false h2, by
        rw [show 2 * (((z / 2).toNat : Nat) : Int) + 1 = z from by omega]
        exact decide_eq_false h1⟩)
      rw [show z - 1 + 1 = z from by omega] at this
      exact this.symm
  -- nor do those of the tree, from the leaves on
  have s2 : ∀ (t : Nat) (v : Int), 0 ≤ v → v < m → v ≠ r → (m : Int) - dep n.T up m v ≤ t → (S (rd (facesOf n.X) (rd up v)) ↔ S (rd (facesOf n.X) (ot (rd up v)))) := by
    intro t
    induction t with
    | zero =>
      intro v v0 v1 hv ht
      have hc := climb_rng hev htr ⟨Y.r0, Y.r1⟩ Y.ok v0 v1
      have h1 := Y.dep_up hev htr v0 v1 hv
      -- dep v = m means a way of m steps: too long
      have h2 : dep n.T up m v ≤ (m : Int) - 1 := by
        have en := Y.ends hev htr (m - 1) v v0 v1 (by
          have h3 : ∃ j, j ≤ m - 1 ∧ itr (climb n.T up r) v j = r := by
            obtain ⟨j, hj, hp, hl⟩ := least_of (p := fun k => itr (climb n.T up r) v k = r) m (Y.cl v v0 v1)
            refine ⟨j, ?_, hp⟩
            have hn : ((List.range (j + 1)).map (itr (climb n.T up r) v)).Nodup := by
              refine nodup_map _ _ (fun i i' hi hi' e => ?_)
              have e1 := itr_add (climb n.T up r) v i' (j - i')
              rw [← e, ← itr_add, show i' + (j - i') = j from by omega, hp] at e1
              exact hl (i + (j - i')) (by omega) e1.symm
            have hf := few m _ hn (fun z hz => by
              obtain ⟨i, _, rfl⟩ := List.mem_map.1 hz
              exact climbs_rng hev htr ⟨Y.r0, Y.r1⟩ Y.ok v0 v1 i)
            simp at hf
            omega
          obtain ⟨j, hj, hp⟩ := h3
          have := climb_root j hp (m - 1 - j)
          rwa [show j + (m - 1 - j) = m - 1 from by omega] at this)
        have e2 := wayL_more (m - 1) v 1 en
        have hm1 : m - 1 + 1 = m := by omega
        rw [hm1] at e2
        unfold dep
        rw [e2]
        have := wayL_le n.T up (m - 1) v
        omega
      omega
    | succ t ih =>
      intro v v0 v1 hv ht
      obtain ⟨p, q, s⟩ := (Y.ok v v0 v1).2 hv
      have q' : rd up v < n.X.length := by rw [hlx]; exact q
      obtain ⟨l, hch, hin, _⟩ := hF.px.ring (d := rd up v) p q'
      obtain ⟨c1, c2, c3⟩ := hch.closed
      have hne := hch.ne
      have tail : ∀ z, z ∈ l → rd n.T z = v := by
        intro z hz
        obtain ⟨j, rfl⟩ := c2 z hz
        have hx := hF.px.rng _ p q'
        have : ∀ j, rd n.T (itr (rd n.X) (rd n.X (rd up v)) j) = v := fun j => by
          induction j with
          | zero => show rd n.T (rd n.X (rd up v)) = v; rw [hM.tu _ p q', s]
          | succ j ihj =>
            have b := hF.px.itr_rng hx.1 hx.2 j
            show rd n.T (rd n.X (itr (rd n.X) (rd n.X (rd up v)) j)) = v
            rw [hM.tu _ b.1 b.2, ihj]
        exact this j
      have non : ∀ z, z ∈ l → (S (rd (facesOf n.X) z) ↔ S (rd (facesOf n.X) (ot z))) := by
        intro z hz
        have hzr := hin z (by simp [hz])
        have htz := tail z hz
        by_cases h1 : z ∈ up
        · exfalso
          obtain ⟨u, u0, u1, hu⟩ := mem_rd h1
          rw [Y.len] at u1
          have hur : u ≠ r := fun e => by
            have := (Y.ok u u0 u1).1 e
            omega
          have := ((Y.ok u u0 u1).2 hur).2.2
          rw [hu, htz] at this
          rw [← this] at hu
          exact hne z hz hu.symm
        · by_cases h2 : ot z ∈ up
          · obtain ⟨u, u0, u1, hu⟩ := mem_rd h2
            rw [Y.len] at u1
            have hor := ot_rng z _ hzr.1 hzr.2 heX
            have hur : u ≠ r := fun e => by
              have := (Y.ok u u0 u1).1 e
              omega
            have hcl : climb n.T up r u = v := by rw [climb, if_neg hur, hu, ot_ot, htz]
            have hd := Y.dep_up hev htr u0 u1 hur
            rw [hcl] at hd
            have := ih u u0 u1 hur (by omega)
            rw [hu, ot_ot] at this
            exact this.symm
          · exact s1 z hzr.1 hzr.2 h1 h2
      have := hch.same (P := fun z => S (rd (facesOf n.X) z)) (fun z hz => by
        have hzr := hin z (by simp [hz])
        show S (rd (facesOf n.X) z) ↔ S (rd (facesOf n.X) (rd n.X z))
        rw [of_next z hzr.1 hzr.2]
        exact non z hz)
      have h4 : S (rd (facesOf n.X) (rd n.X (rd up v))) ↔ S (rd (facesOf n.X) (rd up v)) := this
      rw [of_next _ p q'] at h4
      exact h4.symm
  have s3 : ∀ z : Int, 0 ≤ z → z < n.X.length → (S (rd (facesOf n.X) z) ↔ S (rd (facesOf n.X) (ot z))) := by
    intro z z0 z1
    have hor := ot_rng z _ z0 z1 heX
    by_cases h1 : z ∈ up
    · obtain ⟨u, u0, u1, hu⟩ := mem_rd h1
      rw [Y.len] at u1
      have hur : u ≠ r := fun e => by
        have := (Y.ok u u0 u1).1 e
        omega
      have := s2 m u u0 u1 hur (by have := (dep_le (T := n.T) (up := up) (m := m) u).1; omega)
      rwa [hu] at this
    · by_cases h2 : ot z ∈ up
      · obtain ⟨u, u0, u1, hu⟩ := mem_rd h2
        rw [Y.len] at u1
        have hur : u ≠ r := fun e => by
          have := (Y.ok u u0 u1).1 e
          omega
        have := s2 m u u0 u1 hur (by have := (dep_le (T := n.T) (up := up) (m := m) u).1; omega)
        rw [hu, ot_ot] at this
        exact this.symm
      · exact s1 z z0 z1 h1 h2
  intro z y z0 z1 y0 y1
  refine (hM.dc (fun u => S (rd (facesOf n.X) z) ↔ S (rd (facesOf n.X) u)) ⟨z, z0, z1, Iff.rfl⟩ (fun d d0 d1 h => h.trans (s3 d d0 d1)) (fun d d0 d1 h => ?_) y y0 y1)
  show S (rd (facesOf n.X) z) ↔ S (rd (facesOf n.X) (rd n.X d))
  rw [of_next d d0 d1]
  exact h.trans (s3 d d0 d1)
end
end Go.Proofs.Ytidcofjadlfahaa
