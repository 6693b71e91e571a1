/- Joining faces by the edges that are left: each joins two. No Go in sight. -/
import Derived.Test.YtidcofjadlfahaaTl
set_option linter.unusedVariables false
namespace Go.Proofs.Ytidcofjadlfahaa
open Go.RowKit

/-- All b turned to a. -/
def joinAll (of : List Int) (a b : Int) : List Int := of.map (fun c => if c = b then a else c)
theorem joinAll_length (of : List Int) (a b : Int) : (joinAll of a b).length = of.length := by simp [joinAll]
theorem rd_joinAll {of : List Int} {a b i : Int} (h0 : 0 ≤ i) (h1 : i < of.length) : rd (joinAll of a b) i = if rd of i = b then a else rd of i := by
  have hi : i.toNat < of.length := by omega
  unfold rd joinAll
  rw [List.getD_eq_getElem?_getD, List.getD_eq_getElem?_getD, List.getElem?_map, List.getElem?_eq_getElem hi]
  rfl
/-- How many numbers occur. -/
def kinds (k : Nat) (of : List Int) : Nat := ((List.range k).filter (fun c : Nat => hasB of (c : Int))).length
theorem joinAll_same (of : List Int) (a : Int) : joinAll of a a = of := by
  unfold joinAll
  conv => rhs; rw [← List.map_id of]
  apply List.map_congr_left
  intro c _
  split
  · rename_i h
    exact h.symm
  · rfl
theorem kinds_join (k : Nat) (of : List Int) (a b : Int) : kinds k of ≤ kinds k (joinAll of a b) + 1 := by
  have h : ((List.range k).filter (fun c : Nat => hasB of (c : Int))).length ≤ ((b.toNat) :: (List.range k).filter (fun c : Nat => hasB (joinAll of a b) (c : Int))).length := by
    refine nodup_len (nodup_filter' _ (nodup_range k)) (fun c hc => ?_)
    rw [List.mem_filter] at hc
    by_cases e : c = b.toNat
    · simp [e]
    · refine List.mem_cons_of_mem _ (List.mem_filter.2 ⟨hc.1, ?_⟩)
      have hm : (c : Int) ∈ of := of_decide_eq_true hc.2
      refine decide_eq_true ?_
      unfold joinAll
      exact List.mem_map.2 ⟨c, hm, if_neg (fun h => e (by omega))⟩
  simpa [kinds] using h
theorem kinds_one {k : Nat} {of : List Int} {c : Int} (h : ∀ x, x ∈ of → x = c) : kinds k of ≤ 1 := by
  have : ((List.range k).filter (fun c : Nat => hasB of (c : Int))).length ≤ [c.toNat].length := by
    refine nodup_len (nodup_filter' _ (nodup_range k)) (fun x hx => ?_)
    rw [List.mem_filter] at hx
    have hm : (x : Int) ∈ of := of_decide_eq_true hx.2
    have := h _ hm
    simp
    omega
  simpa [kinds] using this
/-- Each face by itself; then by each edge that is left two are joined. -/
def ids (k : Nat) : List Int := (List.range k).map Int.ofNat
def uf (fs l : List Int) (k : Nat) : Nat → List Int
  | 0 => ids k
  | i + 1 => joinAll (uf fs l k i) (rd (uf fs l k i) (rd fs (rd l i))) (rd (uf fs l k i) (rd fs (rd l i + 1)))
theorem ids_length (k : Nat) : (ids k).length = k := by simp [ids]
theorem rd_ids {k : Nat} {i : Int} (h0 : 0 ≤ i) (h1 : i < k) : rd (ids k) i = i := by
  unfold rd ids
  rw [List.getD_eq_getElem?_getD, List.getElem?_map, List.getElem?_range (by omega)]
  show ((i.toNat : Nat) : Int) = i
  omega
theorem uf_length (fs l : List Int) (k : Nat) : ∀ i, (uf fs l k i).length = k
  | 0 => ids_length k
  | i + 1 => by rw [uf, joinAll_length, uf_length fs l k i]
theorem uf_rng (fs l : List Int) (k : Nat) : ∀ i, (∀ j : Nat, j < i → 0 ≤ rd fs (rd l j) ∧ rd fs (rd l j) < k) → ∀ c : Int, 0 ≤ c → c < k → 0 ≤ rd (uf fs l k i) c ∧ rd (uf fs l k i) c < k
  | 0, _, c, c0, c1 => by rw [uf, rd_ids c0 c1]; exact ⟨c0, c1⟩
  | i + 1, h, c, c0, c1 => by
    have ih := uf_rng fs l k i (fun j hj => h j (by omega))
    rw [uf, rd_joinAll c0 (by rw [uf_length]; exact c1)]
    have hi := h i (by omega)
    split
    · exact ih _ hi.1 hi.2
    · exact ih c c0 c1
theorem kinds_ids (k : Nat) : kinds k (ids k) = k := by
  have : (List.range k).filter (fun c : Nat => hasB (ids k) (c : Int)) = List.range k := by
    rw [List.filter_eq_self]
    intro c hc
    exact decide_eq_true (List.mem_map.2 ⟨c, hc, rfl⟩)
  unfold kinds
  rw [this, List.length_range]
theorem kinds_uf (fs l : List Int) (k : Nat) : ∀ i, k ≤ kinds k (uf fs l k i) + i
  | 0 => by rw [uf, kinds_ids]; omega
  | i + 1 => by
    have ih := kinds_uf fs l k i
    have := kinds_join k (uf fs l k i) (rd (uf fs l k i) (rd fs (rd l i))) (rd (uf fs l k i) (rd fs (rd l i + 1)))
    rw [uf]
    omega
/-- If one edge joined nothing there is one kind more. -/
theorem kinds_idle (fs l : List Int) (k : Nat) {j : Nat} (hj : rd (uf fs l k j) (rd fs (rd l j)) = rd (uf fs l k j) (rd fs (rd l j + 1))) : ∀ t, k ≤ kinds k (uf fs l k (j + 1 + t)) + (j + t)
  | 0 => by
    have e : uf fs l k (j + 1) = uf fs l k j := by rw [uf, hj, joinAll_same]
    have := kinds_uf fs l k j
    rw [Nat.add_zero, e]
    omega
  | t + 1 => by
    have ih := kinds_idle fs l k hj t
    have := kinds_join k (uf fs l k (j + 1 + t)) (rd (uf fs l k (j + 1 + t)) (rd fs (rd l ((j + 1 + t : Nat) : Int)))) (rd (uf fs l k (j + 1 + t)) (rd fs (rd l ((j + 1 + t : Nat) : Int) + 1)))
    rw [show j + 1 + (t + 1) = (j + 1 + t) + 1 from by omega, uf]
    omega
/-- What an edge has joined stays so. -/
theorem uf_keep (fs l : List Int) (k : Nat) {x y : Int} (x0 : 0 ≤ x) (x1 : x < k) (y0 : 0 ≤ y) (y1 : y < k) {i : Nat} (h : rd (uf fs l k i) x = rd (uf fs l k i) y) : ∀ t, rd (uf fs l k (i + t)) x = rd (uf fs l k (i + t)) y
  | 0 => h
  | t + 1 => by
    have ih := uf_keep fs l k x0 x1 y0 y1 h t
    rw [show i + (t + 1) = (i + t) + 1 from by omega, uf, rd_joinAll x0 (by rw [uf_length]; exact x1), rd_joinAll y0 (by rw [uf_length]; exact y1), ih]
theorem uf_joins (fs l : List Int) (k : Nat) {i : Nat} (h0 : 0 ≤ rd fs (rd l i) ∧ rd fs (rd l i) < k) (h1 : 0 ≤ rd fs (rd l i + 1) ∧ rd fs (rd l i + 1) < k) : rd (uf fs l k (i + 1)) (rd fs (rd l i)) = rd (uf fs l k (i + 1)) (rd fs (rd l i + 1)) := by
  rw [uf, rd_joinAll h0.1 (by rw [uf_length]; exact h0.2), rd_joinAll h1.1 (by rw [uf_length]; exact h1.2), if_pos rfl]
  split
  · rfl
  · rfl
section
variable {n : PNet} {up : List Int} {m : Nat} {r : Int}
/-- What is left has an edge less than there are faces; each joins two. -/
theorem left_tree (hF : Fine n) (hM : Map n) (hN : n.N = m) (hpos : 0 < n.T.length) (Y : IsTree n.T up m r) {k : Nat} (hk : faceN n.X = k) :
    (leftL n.T up).length + 1 = k ∧ ∀ i : Nat, i < (leftL n.T up).length → rd (uf (facesOf n.X) (leftL n.T up) k i) (rd (facesOf n.X) (rd (leftL n.T up) i)) ≠ rd (uf (facesOf n.X) (leftL n.T up) k i) (rd (facesOf n.X) (rd (leftL n.T up) i + 1)) := by
  have hlx := hF.lx
  have hev := hF.ev
  have heX : (n.X.length : Int) % 2 = 0 := by rw [hlx]; exact hev
  have F := faces_all hF.px heX
  have htr : ∀ d : Int, 0 ≤ d → d < n.T.length → 0 ≤ rd n.T d ∧ rd n.T d < m := by have := hF.tr; rwa [hN] at this
  obtain ⟨fs, hfs⟩ : ∃ fs, facesOf n.X = fs := ⟨_, rfl⟩
  obtain ⟨l, hl⟩ : ∃ l, leftL n.T up = l := ⟨_, rfl⟩
  have LJ := left_joins hF hM hN Y
  have LC := left_count Y hev htr
  rw [hfs, hl] at LJ
  rw [hl] at LC
  rw [hfs] at F
  rw [hfs, hl]
  have frng : ∀ z : Int, 0 ≤ z → z < n.X.length → 0 ≤ rd fs z ∧ rd fs z < k := fun z z0 z1 => by
    have a := F.don z z0 z1 (by omega)
    rcases F.rng z z0 z1 with h | h
    · omega
    · omega
  have lrng : ∀ j : Nat, j < l.length → 0 ≤ rd l j ∧ rd l j < n.X.length ∧ rd l j + 1 < n.X.length := fun j hj => by
    have hm : rd l j ∈ leftL n.T up := by rw [hl]; exact rd_mem (by omega) (by omega)
    have := left_rng hm
    omega
  have hk1 : 1 ≤ k := by have := frng 0 (by omega) (by omega); omega
  -- at the end all faces are one
  have one : kinds k (uf fs l k l.length) ≤ 1 := by
    have hS := LJ (fun c => rd (uf fs l k l.length) c = rd (uf fs l k l.length) (rd fs 0)) (fun d hd => by
      obtain ⟨i, i0, i1, hi⟩ := mem_rd hd
      have hr := lrng i.toNat (by omega)
      have e : ((i.toNat : Nat) : Int) = i := by omega
      rw [e, hi] at hr
      have f0 := frng d hr.1 hr.2.1
      have f1 := frng (d + 1) (by omega) hr.2.2
      have hj := uf_joins fs l k (i := i.toNat) (by rw [e, hi]; exact f0) (by rw [e, hi]; exact f1)
      rw [e, hi] at hj
      have := uf_keep fs l k f0.1 f0.2 f1.1 f1.2 hj (l.length - (i.toNat + 1))
      rw [show i.toNat + 1 + (l.length - (i.toNat + 1)) = l.length from by omega] at this
      show rd (uf fs l k l.length) (rd fs d) = _ ↔ rd (uf fs l k l.length) (rd fs (d + 1)) = _
      rw [this])
    refine kinds_one (c := rd (uf fs l k l.length) (rd fs 0)) (fun x hx => ?_)
    obtain ⟨c, c0, c1, rfl⟩ := mem_rd hx
    rw [uf_length] at c1
    obtain ⟨z, z0, z1, hz⟩ := F.all c c0 (by omega)
    have := (hS 0 z (by omega) (by omega) z0 z1).1 rfl
    rw [hz] at this
    exact this
  have lower := kinds_uf fs l k l.length
  have eu := hM.eu
  rw [hk, hN, hlx] at eu
  have hcount : l.length + 1 = k := by omega
  refine ⟨hcount, fun i hi hj => ?_⟩
  have := kinds_idle fs l k hj (l.length - (i + 1))
  rw [show i + 1 + (l.length - (i + 1)) = l.length from by omega] at this
  omega
end
end Go.Proofs.Ytidcofjadlfahaa
