/- Grown nets are good; so are they seen from behind. No Go in sight. -/
import Derived.Test.YtidcofjadlfahaaU18
import Derived.Test.YtidcofjadlfahaaPl
set_option linter.unusedVariables false
namespace Go.Proofs.Ytidcofjadlfahaa
open Go.RowKit

theorem grown_to (zs : List Int) : ∀ j, ((planeTo zs j).T.length = 0 → (planeTo zs j).N = 1) ∧ ((planeTo zs j).T.length = 0 ∨ Same (planeTo zs j)) ∧ ((planeTo zs j).T.length = 0 ∨ Caps (planeTo zs j))
  | 0 => ⟨fun _ => by simp [planeTo], .inl (by simp [planeTo]), .inl (by simp [planeTo])⟩
  | j + 1 => by
    obtain ⟨a, b, c⟩ := grown_to zs j
    rcases Nat.lt_or_ge j zs.length with h | h
    · rw [planeTo_next zs j h]
      have hk := (wi_rng (rd zs j) 1125899906842624 (by omega)).1
      have hf := (planeTo_fine zs j).1
      refine ⟨fun e => ?_, .inr (same_grow hf (map_to zs j) b _ hk), .inr (caps_grow c _)⟩
      have := (hf.grow hk).2.1
      omega
    · have e : planeTo zs (j + 1) = planeTo zs j := by
        unfold planeTo
        rw [List.take_of_length_le (by omega), List.take_of_length_le h]
      rw [e]
      exact ⟨a, b, c⟩
theorem rd_caps {C : List Int} (h : ∀ c, c ∈ C → 0 ≤ c ∧ c ≤ 2147483648) (d : Int) (d0 : 0 ≤ d) (d1 : d < C.length) : 0 ≤ rd C d ∧ rd C d ≤ 2147483648 := h _ (rd_mem d0 d1)
/-- A grown net of two vertices or more. -/
theorem good_plane (zs : List Int) {m : Nat} (hm : (planeOf zs).N = m) (h2 : 2 ≤ m) : Good m (planeOf zs).T.length (planeOf zs).T (planeOf zs).X (planeOf zs).C ∧ (planeOf zs).T.length ≤ 48 ∧ m ≤ 25 := by
  obtain ⟨F, l48, n25, CN⟩ := plane_facts zs
  have e24 : planeTo zs 24 = planeOf zs := planeTo_all zs 24 (.inl rfl)
  obtain ⟨g1, g2, g3⟩ := grown_to zs 24
  rw [e24] at g1 g2 g3
  have hM := map_plane zs
  obtain ⟨n, hn⟩ : ∃ n, planeOf zs = n := ⟨_, rfl⟩
  rw [hn] at F l48 n25 CN g1 g2 g3 hM hm ⊢
  have hpos : n.T.length ≠ 0 := fun e => by have := g1 e; omega
  have hM := hM.resolve_left hpos
  have g2 := g2.resolve_left hpos
  have g3 := g3.resolve_left hpos
  have hlx := F.lx
  have hev := F.ev
  have htr : ∀ d : Int, 0 ≤ d → d < n.T.length → 0 ≤ rd n.T d ∧ rd n.T d < m := by have := F.tr; rwa [hm] at this
  rw [hm] at CN
  have Y := span_tree (r := 0) hev htr (by omega) (by omega) CN
  have FS := faces_all F.px (by rw [hlx]; exact hev)
  have k0 := FS.k0
  obtain ⟨k, hk⟩ : ∃ k : Nat, faceN n.X = k := ⟨(faceN n.X).toNat, by omega⟩
  obtain ⟨lt, _⟩ := left_tree F hM hm (by omega) Y hk
  have lc := left_count Y hev htr
  refine ⟨⟨by omega, by omega, by omega, by omega, hev, rfl, hlx, F.lc, htr, by have := F.px; rwa [hlx] at this, fun d d0 d1 => rd_caps g3 d d0 (by rw [F.lc]; exact d1), fun d d0 d1 => hM.tu d d0 (by rw [hlx]; exact d1), fun d e d0 d1 e0 e1 h => g2 d e d0 d1 e0 e1 h, CN, ?_, ?_⟩, l48, by omega⟩
  · rw [hk]
    omega
  · rw [hk]
    omega
/-- The row that undoes one. -/
theorem inv_of {n : Nat} {X Y : List Int} (hX : Perm n (rd X)) (hY : ∀ d : Int, 0 ≤ d → d < n → rd Y (rd X d) = d) : (∀ d : Int, 0 ≤ d → d < n → 0 ≤ rd Y d ∧ rd Y d < n ∧ rd X (rd Y d) = d) ∧ Perm n (rd Y) := by
  have sur : ∀ d : Int, 0 ≤ d → d < n → ∃ e : Int, 0 ≤ e ∧ e < n ∧ rd X e = d := fun d d0 d1 => by
    obtain ⟨l, h1, h2, _⟩ := hX.ring d0 d1
    obtain ⟨_, _, j, hj⟩ := h1.closed
    have e1 : itr (rd X) d (1 + j) = d := by rw [itr_add']; exact hj
    exact ⟨itr (rd X) d j, (hX.itr_rng d0 d1 j).1, (hX.itr_rng d0 d1 j).2, by
      have : itr (rd X) d (j + 1) = d := by rw [Nat.add_comm]; exact e1
      exact this⟩
  have key : ∀ d : Int, 0 ≤ d → d < n → 0 ≤ rd Y d ∧ rd Y d < n ∧ rd X (rd Y d) = d := fun d d0 d1 => by
    obtain ⟨e, e0, e1, rfl⟩ := sur d d0 d1
    rw [hY e e0 e1]
    exact ⟨e0, e1, rfl⟩
  exact ⟨key, ⟨fun d d0 d1 => ⟨(key d d0 d1).1, (key d d0 d1).2.1⟩, fun d e d0 d1 e0 e1 h => by rw [← (key d d0 d1).2.2, h, (key e e0 e1).2.2]⟩⟩
theorem faces_inv {n : Nat} {X Y : List Int} (lX : X.length = n) (lY : Y.length = n) (ev : (n : Int) % 2 = 0) (hX : Perm n (rd X)) (hY : ∀ d : Int, 0 ≤ d → d < n → rd Y (rd X d) = d) : faceN X ≤ faceN Y := by
  obtain ⟨iv, pY⟩ := inv_of hX hY
  have FX := faces_all (X := X) (by rw [lX]; exact hX) (by rw [lX]; exact ev)
  have k0 := FX.k0
  obtain ⟨k, hk⟩ : ∃ k : Nat, faceN X = k := ⟨(faceN X).toNat, by omega⟩
  rw [hk]
  refine faces_least (X := Y) (by rw [lY]; exact pY) (by rw [lY]; exact ev) (fun z => rd (facesOf X) (ot z)) k (fun z z0 z1 => ?_) (fun c c0 c1 => ?_)
  · rw [lY] at z1
    have ho := ot_rng z n z0 z1 ev
    have hy := iv (ot z) ho.1 ho.2
    have ho2 := ot_rng (rd Y (ot z)) n hy.1 hy.2.1 ev
    have hi := FX.inv (ot (rd Y (ot z))) ho2.1 (by rw [lX]; exact ho2.2) (FX.don _ ho2.1 (by rw [lX]; exact ho2.2) (by rw [lX]; exact ho2.2))
    have hp : phi X (ot (rd Y (ot z))) = ot z := by
      unfold phi
      rw [ot_ot, hy.2.2]
    rw [hp] at hi
    show rd (facesOf X) (ot (phi Y z)) = rd (facesOf X) (ot z)
    exact hi.symm
  · obtain ⟨z, z0, z1, hz⟩ := FX.all c c0 (by rw [hk]; exact c1)
    rw [lX] at z1
    have ho := ot_rng z n z0 z1 ev
    exact ⟨ot z, ho.1, by rw [lY]; exact ho.2, by show rd (facesOf X) (ot (ot z)) = c; rw [ot_ot]; exact hz⟩
theorem Rch.back {n : Nat} {X Y : List Int} (hX : Perm n (rd X)) (hY : ∀ d : Int, 0 ≤ d → d < n → rd Y (rd X d) = d) {a b : Int} (a0 : 0 ≤ a) (a1 : a < n) (h : Rch (rd X) a b) : Rch (rd Y) b a := by
  obtain ⟨i, rfl⟩ := h
  induction i with
  | zero => exact Rch.refl _ _
  | succ i ih =>
    have r := hX.itr_rng a0 a1 i
    have e : rd Y (itr (rd X) a (i + 1)) = itr (rd X) a i := hY _ r.1 r.2
    exact (Rch.trans ⟨1, e⟩ ih)
theorem Good.turn {m n : Nat} {T X C Y : List Int} (G : Good m n T X C) (lY : Y.length = n) (hY : ∀ d : Int, 0 ≤ d → d < n → rd Y (rd X d) = d) : Good m n T Y C := by
  obtain ⟨iv, pY⟩ := inv_of G.px hY
  have f1 := faces_inv G.lX lY G.ev G.px hY
  have f2 := faces_inv lY G.lX G.ev pY (fun d d0 d1 => (iv d d0 d1).2.2)
  have fe : faceN Y = faceN X := by omega
  refine ⟨G.m1, G.m60, G.n2, G.n240, G.ev, G.lT, lY, G.lC, G.t, pY, G.c, fun d d0 d1 => ?_, fun d e d0 d1 e0 e1 h => ?_, G.conn, by rw [fe]; exact G.eu, by rw [fe]; exact G.f1⟩
  · have hd := iv d d0 d1
    have := G.tu (rd Y d) hd.1 hd.2.1
    rw [hd.2.2] at this
    exact this.symm
  · exact Rch.back G.px hY e0 e1 (G.same e d e0 e1 d0 d1 h.symm)
end Go.Proofs.Ytidcofjadlfahaa
