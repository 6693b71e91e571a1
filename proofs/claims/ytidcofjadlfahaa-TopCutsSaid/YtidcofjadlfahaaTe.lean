/- Grown nets are plane: darts about a vertex, faces about them, how many there are. No Go in sight. -/
import Derived.Test.YtidcofjadlfahaaTf
import Derived.Test.YtidcofjadlfahaaTq
set_option linter.unusedVariables false
namespace Go.Proofs.Ytidcofjadlfahaa
open Go.RowKit

/-- All darts hang together. -/
def DConn (X : List Int) : Prop := ∀ D : Int → Prop, (∃ d : Int, 0 ≤ d ∧ d < X.length ∧ D d) → (∀ d : Int, 0 ≤ d → d < X.length → D d → D (ot d)) → (∀ d : Int, 0 ≤ d → d < X.length → D d → D (rd X d)) → ∀ d : Int, 0 ≤ d → d < X.length → D d
structure Map (n : PNet) : Prop where
  tu : ∀ d : Int, 0 ≤ d → d < n.X.length → rd n.T (rd n.X d) = rd n.T d
  dc : DConn n.X
  eu : (n.X.length : Int) / 2 + 2 ≤ n.N + max (faceN n.X) 1
theorem ot_inv {d e : Int} (h : ot d = e) : d = ot e := by rw [← h, ot_ot]
section
variable {X : List Int} {e : Int}
/-- A dart laid behind e: X2 of the first step. -/
theorem rd_x2 (hev : (X.length : Int) % 2 = 0) (h0 : 0 ≤ e) (h1 : e < X.length) {z : Int} (z0 : 0 ≤ z) (z1 : z < X.length + 2) :
    rd (layL (X ++ [(X.length : Int), (X.length : Int) + 1]) e X.length) z = if z = e then (X.length : Int) else if z = X.length then rd X e else if z = X.length + 1 then (X.length : Int) + 1 else rd X z := by
  have hl : (X ++ [(X.length : Int), (X.length : Int) + 1]).length = X.length + 2 := by simp
  rw [rd_layL h0 (by rw [hl]; omega) (by omega) (by rw [hl]; omega) z0, rd_app2 _ _ _ _ h0 (by omega), rd_app2 _ _ _ _ z0 (by omega), if_pos h1]
  by_cases a : z = e
  · rw [if_pos a, if_pos a]
  · simp only [if_neg a]
    by_cases b : z = X.length
    · simp only [if_pos b]
    · simp only [if_neg b]
      by_cases c : z < X.length
      · rw [if_pos c, if_neg (show ¬ z = (X.length : Int) + 1 by omega)]
      · rw [if_neg c, if_pos (show z = (X.length : Int) + 1 by omega)]
theorem len_x2 : (layL (X ++ [(X.length : Int), (X.length : Int) + 1]) e X.length).length = X.length + 2 := by rw [layL_length]; simp
theorem ot_a (hev : (X.length : Int) % 2 = 0) : ot (X.length : Int) = X.length + 1 ∧ ot ((X.length : Int) + 1) = X.length := by
  unfold ot
  rw [if_pos hev, if_neg (by omega)]
  exact ⟨rfl, by omega⟩
/-- The faces behind one edge more, to a new vertex: no fewer. -/
theorem faces_pend (hp : Perm X.length (rd X)) (hev : (X.length : Int) % 2 = 0) (h0 : 0 ≤ e) (h1 : e < X.length) (hp' : Perm (X.length + 2) (rd (layL (X ++ [(X.length : Int), (X.length : Int) + 1]) e X.length))) :
    faceN X ≤ faceN (layL (X ++ [(X.length : Int), (X.length : Int) + 1]) e X.length) := by
  have F := faces_all hp hev
  have hl := len_x2 (X := X) (e := e)
  have r2 := fun (z : Int) (z0 : 0 ≤ z) (z1 : z < X.length + 2) => rd_x2 hev h0 h1 z0 z1
  generalize hX2 : layL (X ++ [(X.length : Int), (X.length : Int) + 1]) e X.length = X2 at hl r2 hp' ⊢
  have k0 := F.k0
  obtain ⟨oa, ob⟩ := ot_a hev
  have hoe := ot_rng e X.length h0 h1 hev
  have h := faces_least (X := X2) (by rw [hl]; exact hp') (by rw [hl]; omega) (fun z => if z < X.length then rd (facesOf X) z else rd (facesOf X) (ot e)) (faceN X).toNat ?_ ?_
  · omega
  · intro z z0 z1
    rw [hl] at z1
    show (if phi X2 z < X.length then rd (facesOf X) (phi X2 z) else rd (facesOf X) (ot e)) = if z < X.length then rd (facesOf X) z else rd (facesOf X) (ot e)
    have hxe := hp.rng e h0 h1
    have hin := F.inv (ot e) hoe.1 hoe.2 (F.don _ hoe.1 hoe.2 (by omega))
    have hphe : phi X (ot e) = rd X e := by rw [phi, ot_ot]
    rw [hphe] at hin
    by_cases c : z < X.length
    · have ho := ot_rng z X.length z0 c hev
      have hz : phi X2 z = if ot z = e then (X.length : Int) else phi X z := by
        rw [phi, r2 _ ho.1 (by omega), phi]
        by_cases q : ot z = e
        · rw [if_pos q, if_pos q]
        · rw [if_neg q, if_neg q, if_neg (by omega), if_neg (by omega)]
      rw [if_pos c, hz]
      by_cases q : ot z = e
      · rw [if_pos q, if_neg (by omega), ← ot_inv q]
      · have hpz := (perm_phi hp hev).rng z z0 c
        rw [if_neg q, if_pos hpz.2]
        exact F.inv z z0 c (F.don _ z0 c (by omega))
    · rw [if_neg c]
      by_cases q : z = X.length
      · have : phi X2 z = X.length + 1 := by rw [phi, q, oa, r2 _ (by omega) (by omega), if_neg (by omega), if_neg (by omega), if_pos rfl]
        rw [this, if_neg (by omega)]
      · have q' : z = X.length + 1 := by omega
        have : phi X2 z = rd X e := by rw [phi, q', ob, r2 _ (by omega) (by omega), if_neg (by omega), if_pos rfl]
        rw [this, if_pos hxe.2]
        exact hin
  · intro c c0 c1
    obtain ⟨z, z0, z1, hz⟩ := F.all c c0 (by omega)
    exact ⟨z, z0, by rw [hl]; omega, by rw [if_pos z1]; exact hz⟩
/-- The darts behind one edge more, across a face: the corner behind g. -/
theorem rd_x3 (hev : (X.length : Int) % 2 = 0) (h0 : 0 ≤ e) (h1 : e < X.length) {g : Int} (g0 : 0 ≤ g) (g1 : g < X.length + 1) {z : Int} (z0 : 0 ≤ z) (z1 : z < X.length + 2) :
    rd (layL (layL (X ++ [(X.length : Int), (X.length : Int) + 1]) e X.length) g ((X.length : Int) + 1)) z = if z = g then (X.length : Int) + 1 else if z = X.length + 1 then rd (layL (X ++ [(X.length : Int), (X.length : Int) + 1]) e X.length) g else rd (layL (X ++ [(X.length : Int), (X.length : Int) + 1]) e X.length) z := by
  have hl := len_x2 (X := X) (e := e)
  exact rd_layL g0 (by rw [hl]; omega) (by omega) (by rw [hl]; omega) z0
theorem len_x3 {g d : Int} : (layL (layL (X ++ [(X.length : Int), (X.length : Int) + 1]) e X.length) g d).length = X.length + 2 := by rw [layL_length, len_x2]
/-- Both corners are one: the new edge goes round nothing. -/
theorem faces_loop (hp : Perm X.length (rd X)) (hev : (X.length : Int) % 2 = 0) (h0 : 0 ≤ e) (h1 : e < X.length) (hp' : Perm (X.length + 2) (rd (layL (layL (X ++ [(X.length : Int), (X.length : Int) + 1]) e X.length) X.length ((X.length : Int) + 1)))) :
    faceN X + 1 ≤ faceN (layL (layL (X ++ [(X.length : Int), (X.length : Int) + 1]) e X.length) X.length ((X.length : Int) + 1)) := by
  have F := faces_all hp hev
  have hl := len_x3 (X := X) (e := e) (g := X.length) (d := (X.length : Int) + 1)
  have r2 := fun (z : Int) (z0 : 0 ≤ z) (z1 : z < X.length + 2) => rd_x2 hev h0 h1 z0 z1
  have r3 := fun (z : Int) (z0 : 0 ≤ z) (z1 : z < X.length + 2) => rd_x3 hev h0 h1 (g := X.length) (by omega) (by omega) z0 z1
  generalize layL (layL (X ++ [(X.length : Int), (X.length : Int) + 1]) e X.length) X.length ((X.length : Int) + 1) = X3 at hl r3 hp' ⊢
  have k0 := F.k0
  obtain ⟨oa, ob⟩ := ot_a hev
  have hoe := ot_rng e X.length h0 h1 hev
  have hxe := hp.rng e h0 h1
  have hin := F.inv (ot e) hoe.1 hoe.2 (F.don _ hoe.1 hoe.2 (by omega))
  have hphe : phi X (ot e) = rd X e := by rw [phi, ot_ot]
  rw [hphe] at hin
  have rng := F.rng
  have v3 : ∀ z : Int, 0 ≤ z → z < X.length + 2 → rd X3 z = if z = X.length then (X.length : Int) + 1 else if z = X.length + 1 then rd X e else if z = e then (X.length : Int) else rd X z := by
    intro z z0 z1
    rw [r3 z z0 z1]
    by_cases a : z = X.length
    · rw [if_pos a, if_pos a]
    · rw [if_neg a, if_neg a]
      by_cases b : z = X.length + 1
      · rw [if_pos b, if_pos b, r2 _ (by omega) (by omega), if_neg (by omega), if_pos rfl]
      · rw [if_neg b, if_neg b, r2 z z0 z1]
        by_cases c : z = e
        · rw [if_pos c, if_pos c]
        · simp only [if_neg c, if_neg a, if_neg b]
  have h := faces_least (X := X3) (by rw [hl]; exact hp') (by rw [hl]; omega) (fun z => if z < X.length then rd (facesOf X) z else if z = X.length then rd (facesOf X) (ot e) else faceN X) ((faceN X).toNat + 1) ?_ ?_
  · omega
  · intro z z0 z1
    rw [hl] at z1
    show (if phi X3 z < X.length then rd (facesOf X) (phi X3 z) else if phi X3 z = X.length then rd (facesOf X) (ot e) else faceN X) = if z < X.length then rd (facesOf X) z else if z = X.length then rd (facesOf X) (ot e) else faceN X
    by_cases c : z < X.length
    · have ho := ot_rng z X.length z0 c hev
      have hz : phi X3 z = if ot z = e then (X.length : Int) else phi X z := by
        rw [phi, v3 _ ho.1 (by omega), if_neg (by omega), if_neg (by omega), phi]
      rw [if_pos c, hz]
      by_cases q : ot z = e
      · rw [if_pos q, if_neg (by omega), if_pos rfl, ← ot_inv q]
      · have hpz := (perm_phi hp hev).rng z z0 c
        rw [if_neg q, if_pos hpz.2]
        exact F.inv z z0 c (F.don _ z0 c (by omega))
    · rw [if_neg c]
      by_cases q : z = X.length
      · have : phi X3 z = rd X e := by rw [phi, q, oa, v3 _ (by omega) (by omega), if_neg (by omega), if_pos rfl]
        rw [this, if_pos hxe.2, if_pos q]
        exact hin
      · have q' : z = X.length + 1 := by omega
        have : phi X3 z = X.length + 1 := by rw [phi, q', ob, v3 _ (by omega) (by omega), if_pos rfl]
        rw [this, if_neg (by omega), if_neg (by omega), if_neg q]
  · intro c c0 c1
    by_cases q : c = faceN X
    · exact ⟨X.length + 1, by omega, by rw [hl]; omega, by rw [if_neg (by omega), if_neg (by omega), q]⟩
    · obtain ⟨z, z0, z1, hz⟩ := F.all c c0 (by omega)
      exact ⟨z, z0, by rw [hl]; omega, by rw [if_pos z1]; exact hz⟩
open Classical in
/-- Two corners of a face: the new edge parts it. -/
theorem faces_across (hp : Perm X.length (rd X)) (hev : (X.length : Int) % 2 = 0) (h0 : 0 ≤ e) (h1 : e < X.length) {g : Int} (g0 : 0 ≤ g) (g1 : g < X.length) (hne : g ≠ e) (hsame : rd (facesOf X) (rd X g) = rd (facesOf X) (rd X e))
    (hp' : Perm (X.length + 2) (rd (layL (layL (X ++ [(X.length : Int), (X.length : Int) + 1]) e X.length) g ((X.length : Int) + 1)))) :
    faceN X + 1 ≤ faceN (layL (layL (X ++ [(X.length : Int), (X.length : Int) + 1]) e X.length) g ((X.length : Int) + 1)) := by
  have F := faces_all hp hev
  have hpp := perm_phi hp hev
  have hl := len_x3 (X := X) (e := e) (g := g) (d := (X.length : Int) + 1)
  have r2 := fun (z : Int) (z0 : 0 ≤ z) (z1 : z < X.length + 2) => rd_x2 hev h0 h1 z0 z1
  have r3 := fun (z : Int) (z0 : 0 ≤ z) (z1 : z < X.length + 2) => rd_x3 hev h0 h1 (g := g) g0 (by omega) z0 z1
  generalize layL (layL (X ++ [(X.length : Int), (X.length : Int) + 1]) e X.length) g ((X.length : Int) + 1) = X3 at hl r3 hp' ⊢
  have k0 := F.k0
  obtain ⟨oa, ob⟩ := ot_a hev
  have hoe := ot_rng e X.length h0 h1 hev
  have hog := ot_rng g X.length g0 g1 hev
  have hxe := hp.rng e h0 h1
  have hxg := hp.rng g g0 g1
  have hphe : phi X (ot e) = rd X e := by rw [phi, ot_ot]
  have hphg : phi X (ot g) = rd X g := by rw [phi, ot_ot]
  have hin := F.inv (ot e) hoe.1 hoe.2 (F.don _ hoe.1 hoe.2 (by omega))
  have hing := F.inv (ot g) hog.1 hog.2 (F.don _ hog.1 hog.2 (by omega))
  rw [hphe] at hin
  rw [hphg] at hing
  have v3 : ∀ z : Int, 0 ≤ z → z < X.length + 2 → rd X3 z = if z = g then (X.length : Int) + 1 else if z = X.length + 1 then rd X g else if z = X.length then rd X e else if z = e then (X.length : Int) else rd X z := by
    intro z z0 z1
    rw [r3 z z0 z1]
    by_cases a : z = g
    · rw [if_pos a, if_pos a]
    · rw [if_neg a, if_neg a]
      by_cases b : z = X.length + 1
      · rw [if_pos b, if_pos b, r2 _ (by omega) (by omega), if_neg hne, if_neg (by omega), if_neg (by omega)]
      · rw [if_neg b, if_neg b, r2 z z0 z1]
        by_cases c : z = X.length
        · rw [if_neg (by omega), if_pos c, if_pos c]
        · by_cases d : z = e
          · rw [if_pos d, if_neg c, if_pos d]
          · simp only [if_neg d, if_neg c, if_neg b]
  -- the way from behind e to g's other dart
  obtain ⟨j0, hj0⟩ := F.one (rd X e) (rd X g) hxe.1 hxe.2 hxg.1 hxg.2 (F.don _ hxe.1 hxe.2 (by omega)) hsame.symm
  have hj1 : ∃ j, itr (phi X) (rd X e) j = ot g := by
    cases j0 with
    | zero => exact absurd (hp.inj _ _ h0 h1 g0 g1 hj0).symm hne
    | succ j =>
      have b := hpp.itr_rng hxe.1 hxe.2 j
      have : phi X (itr (phi X) (rd X e) j) = phi X (ot g) := by rw [hphg]; exact hj0
      exact ⟨j, hpp.inj _ _ b.1 b.2 hog.1 hog.2 this⟩
  obtain ⟨s, _, hs, hsl⟩ := least_of (p := fun j => itr (phi X) (rd X e) j = ot g) hj1.choose hj1.choose_spec
  let A : Int → Prop := fun z => ∃ i, i ≤ s ∧ itr (phi X) (rd X e) i = z
  have Arng : ∀ i, 0 ≤ itr (phi X) (rd X e) i ∧ itr (phi X) (rd X e) i < X.length := fun i => hpp.itr_rng hxe.1 hxe.2 i
  have Aof : ∀ i, rd (facesOf X) (itr (phi X) (rd X e) i) = rd (facesOf X) (ot e) := fun i => by
    induction i with
    | zero => exact hin
    | succ i ih =>
      have b := Arng i
      show rd (facesOf X) (phi X (itr (phi X) (rd X e) i)) = _
      rw [F.inv _ b.1 b.2 (F.don _ b.1 b.2 (by omega)), ih]
  have Ae : ¬ A (ot e) := by
    rintro ⟨i, hi, hie⟩
    by_cases q : i = s
    · rw [q, hs] at hie
      exact hne (by rw [← ot_ot g, hie, ot_ot])
    · -- then the round closes before g's other dart
      have per : ∀ t, itr (phi X) (rd X e) (i + 1 + t) = itr (phi X) (rd X e) t := fun t => by
        rw [itr_add']
        have : itr (phi X) (rd X e) (i + 1) = rd X e := by show phi X (itr (phi X) (rd X e) i) = _; rw [hie, hphe]
        rw [this]
      have := per (s - (i + 1))
      rw [show i + 1 + (s - (i + 1)) = s from by omega, hs] at this
      exact hsl (s - (i + 1)) (by omega) this.symm
  have Ag : A (ot g) := ⟨s, Nat.le_refl _, hs⟩
  have Ax : ¬ A (rd X g) := by
    rintro ⟨i, hi, hie⟩
    cases i with
    | zero => exact hne (hp.inj _ _ g0 g1 h0 h1 hie.symm)
    | succ i =>
      have b := Arng i
      have : phi X (itr (phi X) (rd X e) i) = phi X (ot g) := by rw [hphg]; exact hie
      exact hsl i (by omega) (hpp.inj _ _ b.1 b.2 hog.1 hog.2 this)
  have Anext : ∀ z, A z → z ≠ ot g → A (phi X z) := by
    rintro z ⟨i, hi, rfl⟩ hz
    have : i ≠ s := fun q => hz (by rw [q, hs])
    exact ⟨i + 1, by omega, rfl⟩
  have Aback : ∀ z : Int, 0 ≤ z → z < X.length → A (phi X z) → z ≠ ot e → A z := by
    rintro z z0 z1 ⟨i, hi, hie⟩ hz
    cases i with
    | zero => exact absurd (hpp.inj _ _ z0 z1 hoe.1 hoe.2 (by rw [hphe]; exact hie.symm)) hz
    | succ i =>
      have b := Arng i
      exact ⟨i, by omega, hpp.inj _ _ b.1 b.2 z0 z1 hie⟩
  have h := faces_least (X := X3) (by rw [hl]; exact hp') (by rw [hl]; omega) (fun z => if z < X.length then (if A z then faceN X else rd (facesOf X) z) else if z = X.length then rd (facesOf X) (ot e) else faceN X) ((faceN X).toNat + 1) ?_ ?_
  · omega
  · intro z z0 z1
    rw [hl] at z1
    show (if phi X3 z < X.length then (if A (phi X3 z) then faceN X else rd (facesOf X) (phi X3 z)) else if phi X3 z = X.length then rd (facesOf X) (ot e) else faceN X) = if z < X.length then (if A z then faceN X else rd (facesOf X) z) else if z = X.length then rd (facesOf X) (ot e) else faceN X
    by_cases c : z < X.length
    · have ho := ot_rng z X.length z0 c hev
      rw [if_pos c]
      by_cases q : ot z = g
      · have hz : phi X3 z = X.length + 1 := by rw [phi, v3 _ ho.1 (by omega), if_pos q]
        rw [hz, if_neg (by omega), if_neg (by omega), if_pos (by rw [ot_inv q]; exact Ag)]
      · by_cases q2 : ot z = e
        · have hz : phi X3 z = X.length := by rw [phi, v3 _ ho.1 (by omega), if_neg q, if_neg (by omega), if_neg (by omega), if_pos q2]
          rw [hz, if_neg (by omega), if_pos rfl, if_neg (by rw [ot_inv q2]; exact Ae), ot_inv q2]
        · have hz : phi X3 z = phi X z := by rw [phi, v3 _ ho.1 (by omega), if_neg q, if_neg (by omega), if_neg (by omega), if_neg q2, phi]
          have hpz := hpp.rng z z0 c
          rw [hz, if_pos hpz.2]
          by_cases a : A z
          · rw [if_pos a, if_pos (Anext z a (fun k => q (by rw [k, ot_ot])))]
          · rw [if_neg a, if_neg (fun k => a (Aback z z0 c k (fun w => q2 (by rw [w, ot_ot]))))]
            exact F.inv z z0 c (F.don _ z0 c (by omega))
    · rw [if_neg c]
      by_cases q : z = X.length
      · have : phi X3 z = rd X g := by rw [phi, q, oa, v3 _ (by omega) (by omega), if_neg (by omega), if_pos rfl]
        rw [this, if_pos hxg.2, if_pos q, if_neg Ax, hsame, hin]
      · have q' : z = X.length + 1 := by omega
        have : phi X3 z = rd X e := by rw [phi, q', ob, v3 _ (by omega) (by omega), if_neg (by omega), if_neg (by omega), if_pos rfl]
        rw [this, if_pos hxe.2, if_neg q, if_pos ⟨0, Nat.zero_le _, rfl⟩]
  · intro c c0 c1
    by_cases q : c = faceN X
    · exact ⟨X.length + 1, by omega, by rw [hl]; omega, by rw [if_neg (by omega), if_neg (by omega), q]⟩
    · by_cases q2 : c = rd (facesOf X) (ot e)
      · exact ⟨X.length, by omega, by rw [hl]; omega, by rw [if_neg (by omega), if_pos rfl, q2]⟩
      · obtain ⟨z, z0, z1, hz⟩ := F.all c c0 (by omega)
        refine ⟨z, z0, by rw [hl]; omega, ?_⟩
        rw [if_pos z1, if_neg (fun a => ?_)]
        · exact hz
        · obtain ⟨i, _, hi⟩ := a
          have := Aof i
          rw [hi, hz] at this
          exact q2 this
end
theorem map_grow {n : PNet} (hF : Fine n) (hM : n.T.length = 0 ∨ Map n) (k : Int) (hk : 0 ≤ k) : Map (growK n k) := by
  have hn := hF.n1
  unfold growK
  by_cases h0 : n.T.length = 0
  · rw [if_pos h0]
    by_cases h5 : k % 5 = 0
    · rw [if_pos h5]
      refine ⟨fun d d0 d1 => ?_, fun D ⟨d, d0, d1, hd⟩ ho _ u u0 u1 => ?_, ?_⟩
      · have d1' : d < 2 := d1
        rcases (by omega : d = 0 ∨ d = 1) with rfl | rfl <;> rfl
      · have d1' : d < 2 := d1
        have u1' : u < 2 := u1
        have e0 : D 0 → D 1 := ho 0 (by decide) (by show (0 : Int) < 2; decide)
        have e1 : D 1 → D 0 := ho 1 (by decide) (by show (1 : Int) < 2; decide)
        rcases (by omega : d = 0 ∨ d = 1) with rfl | rfl <;> rcases (by omega : u = 0 ∨ u = 1) with rfl | rfl
        · exact hd
        · exact e0 hd
        · exact e1 hd
        · exact hd
      · have hp : Perm ([1, 0] : List Int).length (rd [1, 0]) := (first_fine 1 0 0 1 0 0 0 (by decide) (by decide) (by decide) (.inr ⟨rfl, rfl⟩)).px
        have := faces_least (X := [1, 0]) hp (by decide) id 2 (fun z z0 z1 => by
          have z1' : z < 2 := z1
          rcases (by omega : z = 0 ∨ z = 1) with rfl | rfl <;> rfl) (fun c c0 c1 => ⟨c, c0, by show c < 2; omega, rfl⟩)
        show (2 : Int) / 2 + 2 ≤ 1 + max (faceN [1, 0]) 1
        omega
    · rw [if_neg h5]
      refine ⟨fun d d0 d1 => ?_, fun D ⟨d, d0, d1, hd⟩ ho _ u u0 u1 => ?_, ?_⟩
      · have d1' : d < 2 := d1
        rcases (by omega : d = 0 ∨ d = 1) with rfl | rfl <;> rfl
      · have d1' : d < 2 := d1
        have u1' : u < 2 := u1
        have e0 : D 0 → D 1 := ho 0 (by decide) (by show (0 : Int) < 2; decide)
        have e1 : D 1 → D 0 := ho 1 (by decide) (by show (1 : Int) < 2; decide)
        rcases (by omega : d = 0 ∨ d = 1) with rfl | rfl <;> rcases (by omega : u = 0 ∨ u = 1) with rfl | rfl
        · exact hd
        · exact e0 hd
        · exact e1 hd
        · exact hd
      · show (2 : Int) / 2 + 2 ≤ 2 + max (faceN [0, 1]) 1
        omega
  · have hM : Map n := by
      rcases hM with h | h
      · exact absurd h h0
      · exact h
    rw [if_neg h0]
    have ha : 0 < n.T.length := by omega
    have hke := tdiv_rng k 5 hk (by omega)
    have hkg := tdiv_rng k 1200 hk (by omega)
    have he := emod_rng (k.tdiv 5) n.T.length hke.1 (by omega)
    have hs := same_pos he.1 he.2
    have hgi := emod_rng (k.tdiv 1200) (sameL n (k.tdiv 5 % n.T.length)).length hkg.1 (by omega)
    have hgm := same_mem.1 (rd_mem hgi.1 hgi.2)
    obtain ⟨P1, P2⟩ := grow_facts hF ha he.1 he.2 hgm.1.1 hgm.1.2
    have hlx := hF.lx
    have hev := hF.ev
    have F := faces_all hF.px (by rw [hlx]; exact hev)
    obtain ⟨e, hee⟩ : ∃ e, k.tdiv 5 % (n.T.length : Int) = e := ⟨_, rfl⟩
    obtain ⟨g, hg⟩ : ∃ g, rd (sameL n e) (k.tdiv 1200 % ((sameL n e).length : Int)) = g := ⟨_, rfl⟩
    rw [hee] at P1 P2 hgm
    rw [hg] at P2 hgm
    rw [hee] at he
    simp only [hee, hg]
    obtain ⟨⟨g0, g1⟩, hsame⟩ := hgm
    obtain ⟨e0, e1⟩ := he
    rw [← hlx] at P1 P2 g1 e1 hev ⊢
    have hk1 : 1 ≤ faceN n.X := by
      have a := F.don 0 (by omega) (by omega) (by omega)
      rcases F.rng 0 (by omega) (by omega) with h | h <;> omega
    have hxe := hF.px.rng e e0 e1
    have hxg := hF.px.rng g g0 g1
    have tu := hM.tu
    have eu := hM.eu
    obtain ⟨oa, ob⟩ := ot_a hev
    have tv : ∀ (x y z : Int), 0 ≤ z → z < n.X.length + 2 → rd (n.T ++ [x, y]) z = if z < n.X.length then rd n.T z else if z = n.X.length then x else y := fun x y z z0 z1 => by
      rw [rd_app2 _ _ _ _ z0 (by omega), hlx]
    by_cases h2 : k % 5 < 2
    · simp only [if_pos h2]
      have v2 := fun (z : Int) (z0 : 0 ≤ z) (z1 : z < n.X.length + 2) => rd_x2 hev e0 e1 z0 z1
      have hl := len_x2 (X := n.X) (e := e)
      have FP := faces_pend hF.px hev e0 e1 P1
      refine ⟨fun d d0 d1 => ?_, fun D hex ho hx u u0 u1 => ?_, ?_⟩
      · have d1' : d < n.X.length + 2 := by have d2 : d < ((layL (n.X ++ [(n.X.length : Int), (n.X.length : Int) + 1]) e n.X.length).length : Int) := d1; rw [hl] at d2; omega
        show rd (n.T ++ [rd n.T e, n.N]) (rd (layL (n.X ++ [(n.X.length : Int), (n.X.length : Int) + 1]) e n.X.length) d) = rd (n.T ++ [rd n.T e, n.N]) d
        rw [v2 d d0 d1', tv _ _ d d0 d1']
        by_cases a : d = e
        · rw [if_pos a, tv _ _ _ (by omega) (by omega), if_neg (by omega), if_pos rfl, if_pos (by omega), a]
        · rw [if_neg a]
          by_cases b : d = n.X.length
          · rw [if_pos b, tv _ _ _ hxe.1 (by omega), if_pos hxe.2, if_neg (by omega), if_pos b, tu e e0 e1]
          · rw [if_neg b]
            by_cases c : d = n.X.length + 1
            · rw [if_pos c, tv _ _ _ (by omega) (by omega), if_neg (by omega), if_neg (by omega), if_neg (by omega), if_neg b]
            · have hxd := hF.px.rng d d0 (by omega)
              rw [if_neg c, tv _ _ _ hxd.1 (by omega), if_pos hxd.2, if_pos (by omega), tu d d0 (by omega)]
      · have hx' : ∀ d : Int, 0 ≤ d → d < n.X.length + 2 → D d → D (rd (layL (n.X ++ [(n.X.length : Int), (n.X.length : Int) + 1]) e n.X.length) d) := fun d d0 d1 => hx d d0 (by show d < ((layL (n.X ++ [(n.X.length : Int), (n.X.length : Int) + 1]) e n.X.length).length : Int); rw [hl]; omega)
        have ho' : ∀ d : Int, 0 ≤ d → d < n.X.length + 2 → D d → D (ot d) := fun d d0 d1 => ho d d0 (by show d < ((layL (n.X ++ [(n.X.length : Int), (n.X.length : Int) + 1]) e n.X.length).length : Int); rw [hl]; omega)
        have u1' : u < n.X.length + 2 := by have d2 : u < ((layL (n.X ++ [(n.X.length : Int), (n.X.length : Int) + 1]) e n.X.length).length : Int) := u1; rw [hl] at d2; omega
        obtain ⟨d, d0, d1, hd⟩ := hex
        have d1' : d < n.X.length + 2 := by have d2 : d < ((layL (n.X ++ [(n.X.length : Int), (n.X.length : Int) + 1]) e n.X.length).length : Int) := d1; rw [hl] at d2; omega
        have xe : D e → D n.X.length := fun h => by have := hx' e e0 (by omega) h; rwa [v2 e e0 (by omega), if_pos rfl] at this
        have xa : D n.X.length → D (rd n.X e) := fun h => by have := hx' _ (by omega) (by omega) h; rwa [v2 _ (by omega) (by omega), if_neg (by omega), if_pos rfl] at this
        have yo : D n.X.length → D (n.X.length + 1) := fun h => by have := ho' _ (by omega) (by omega) h; rwa [oa] at this
        have yb : D (n.X.length + 1) → D n.X.length := fun h => by have := ho' _ (by omega) (by omega) h; rwa [ob] at this
        have hold : ∃ d : Int, 0 ≤ d ∧ d < n.X.length ∧ D d := by
          by_cases c : d < n.X.length
          · exact ⟨d, d0, c, hd⟩
          · refine ⟨_, hxe.1, hxe.2, xa ?_⟩
            by_cases b : d = n.X.length
            · rwa [b] at hd
            · rw [show d = n.X.length + 1 from by omega] at hd
              exact yb hd
        have all := hM.dc D hold (fun z z0 z1 hz => ho' z z0 (by omega) hz) (fun z z0 z1 hz => by
          by_cases a : z = e
          · rw [a] at hz ⊢
            exact xa (xe hz)
          · have := hx' z z0 (by omega) hz
            rwa [v2 z z0 (by omega), if_neg a, if_neg (by omega), if_neg (by omega)] at this)
        have da := xe (all e e0 e1)
        by_cases c : u < n.X.length
        · exact all u u0 c
        · by_cases b : u = n.X.length
          · rw [b]; exact da
          · rw [show u = n.X.length + 1 from by omega]
            exact yo da
      · show ((layL (n.X ++ [(n.X.length : Int), (n.X.length : Int) + 1]) e n.X.length).length : Int) / 2 + 2 ≤ n.N + 1 + max (faceN (layL (n.X ++ [(n.X.length : Int), (n.X.length : Int) + 1]) e n.X.length)) 1
        rw [hl]
        omega
    · simp only [if_neg h2]
      obtain ⟨g', hg'⟩ : ∃ g', (if g = e then (n.X.length : Int) else g) = g' := ⟨_, rfl⟩
      have hgr : 0 ≤ g' ∧ g' < n.X.length + 1 := by rw [← hg']; split <;> omega
      have v2 := fun (z : Int) (z0 : 0 ≤ z) (z1 : z < n.X.length + 2) => rd_x2 hev e0 e1 z0 z1
      have v3 := fun (z : Int) (z0 : 0 ≤ z) (z1 : z < n.X.length + 2) => rd_x3 hev e0 e1 hgr.1 hgr.2 z0 z1
      have hl := len_x3 (X := n.X) (e := e) (g := g') (d := (n.X.length : Int) + 1)
      have FP : faceN n.X + 1 ≤ faceN (layL (layL (n.X ++ [(n.X.length : Int), (n.X.length : Int) + 1]) e n.X.length) g' ((n.X.length : Int) + 1)) := by
        by_cases c : g = e
        · rw [if_pos c] at hg' P2
          rw [← hg']
          exact faces_loop hF.px hev e0 e1 P2
        · rw [if_neg c] at hg' P2
          rw [← hg']
          exact faces_across hF.px hev e0 e1 g0 g1 c hsame P2
      rw [hg']
      -- what lies behind the old corner of g'
      have x2g : rd (layL (n.X ++ [(n.X.length : Int), (n.X.length : Int) + 1]) e n.X.length) g' = rd n.X g := by
        rw [v2 g' hgr.1 (by omega), ← hg']
        by_cases c : g = e
        · rw [if_pos c, if_neg (by omega), if_pos rfl, c]
        · rw [if_neg c, if_neg c, if_neg (by omega), if_neg (by omega)]
      have tg' : rd (n.T ++ [rd n.T e, rd n.T g]) g' = rd n.T g := by
        rw [tv _ _ g' hgr.1 (by omega), ← hg']
        by_cases c : g = e
        · rw [if_pos c, if_neg (by omega), if_pos rfl, c]
        · rw [if_neg c, if_pos g1]
      have x3 : ∀ z : Int, 0 ≤ z → z < n.X.length + 2 → rd (layL (layL (n.X ++ [(n.X.length : Int), (n.X.length : Int) + 1]) e n.X.length) g' ((n.X.length : Int) + 1)) z = if z = g' then (n.X.length : Int) + 1 else if z = n.X.length + 1 then rd n.X g else if z = e then (n.X.length : Int) else if z = n.X.length then rd n.X e else rd n.X z := fun z z0 z1 => by
        rw [v3 z z0 z1, x2g]
        by_cases a : z = g'
        · rw [if_pos a, if_pos a]
        · rw [if_neg a, if_neg a]
          by_cases b : z = n.X.length + 1
          · rw [if_pos b, if_pos b]
          · rw [if_neg b, if_neg b, v2 z z0 z1]
            simp only [if_neg b]
      have hge : g' ≠ e := by
        rw [← hg']
        split
        · omega
        · assumption
      refine ⟨fun d d0 d1 => ?_, fun D hex ho hx u u0 u1 => ?_, ?_⟩
      · have d1' : d < n.X.length + 2 := by have d2 : d < ((layL (layL (n.X ++ [(n.X.length : Int), (n.X.length : Int) + 1]) e n.X.length) g' ((n.X.length : Int) + 1)).length : Int) := d1; rw [hl] at d2; omega
        show rd (n.T ++ [rd n.T e, rd n.T g]) (rd (layL (layL (n.X ++ [(n.X.length : Int), (n.X.length : Int) + 1]) e n.X.length) g' ((n.X.length : Int) + 1)) d) = rd (n.T ++ [rd n.T e, rd n.T g]) d
        rw [x3 d d0 d1']
        by_cases a : d = g'
        · rw [if_pos a, tv _ _ _ (by omega) (by omega), if_neg (by omega), if_neg (by omega), a, tg']
        · rw [if_neg a]
          by_cases b : d = n.X.length + 1
          · rw [if_pos b, tv _ _ _ hxg.1 (by omega), if_pos hxg.2, tu g g0 g1, b, tv _ _ _ (by omega) (by omega), if_neg (by omega), if_neg (by omega)]
          · rw [if_neg b]
            by_cases c : d = e
            · rw [if_pos c, tv _ _ _ (by omega) (by omega), if_neg (by omega), if_pos rfl, c, tv _ _ _ e0 (by omega), if_pos e1]
            · rw [if_neg c]
              by_cases q : d = n.X.length
              · rw [if_pos q, tv _ _ _ hxe.1 (by omega), if_pos hxe.2, tu e e0 e1, q, tv _ _ _ (by omega) (by omega), if_neg (by omega), if_pos rfl]
              · have hxd := hF.px.rng d d0 (by omega)
                rw [if_neg q, tv _ _ _ hxd.1 (by omega), if_pos hxd.2, tu d d0 (by omega), tv _ _ _ d0 d1', if_pos (by omega)]
      · have hx' : ∀ d : Int, 0 ≤ d → d < n.X.length + 2 → D d → D (rd (layL (layL (n.X ++ [(n.X.length : Int), (n.X.length : Int) + 1]) e n.X.length) g' ((n.X.length : Int) + 1)) d) := fun d d0 d1 => hx d d0 (by show d < ((layL (layL (n.X ++ [(n.X.length : Int), (n.X.length : Int) + 1]) e n.X.length) g' ((n.X.length : Int) + 1)).length : Int); rw [hl]; omega)
        have ho' : ∀ d : Int, 0 ≤ d → d < n.X.length + 2 → D d → D (ot d) := fun d d0 d1 => ho d d0 (by show d < ((layL (layL (n.X ++ [(n.X.length : Int), (n.X.length : Int) + 1]) e n.X.length) g' ((n.X.length : Int) + 1)).length : Int); rw [hl]; omega)
        have u1' : u < n.X.length + 2 := by have d2 : u < ((layL (layL (n.X ++ [(n.X.length : Int), (n.X.length : Int) + 1]) e n.X.length) g' ((n.X.length : Int) + 1)).length : Int) := u1; rw [hl] at d2; omega
        obtain ⟨d, d0, d1, hd⟩ := hex
        have d1' : d < n.X.length + 2 := by have d2 : d < ((layL (layL (n.X ++ [(n.X.length : Int), (n.X.length : Int) + 1]) e n.X.length) g' ((n.X.length : Int) + 1)).length : Int) := d1; rw [hl] at d2; omega
        have xe : D e → D n.X.length := fun h => by have := hx' e e0 (by omega) h; rwa [x3 e e0 (by omega), if_neg (Ne.symm hge), if_neg (by omega), if_pos rfl] at this
        have yo : D n.X.length → D (n.X.length + 1) := fun h => by have := ho' _ (by omega) (by omega) h; rwa [oa] at this
        have yb : D (n.X.length + 1) → D n.X.length := fun h => by have := ho' _ (by omega) (by omega) h; rwa [ob] at this
        have xb : D (n.X.length + 1) → D (rd n.X g) := fun h => by
          have := hx' _ (by omega) (by omega) h
          rwa [x3 _ (by omega) (by omega), if_neg (by omega), if_pos rfl] at this
        have xa : D n.X.length → D (rd n.X e) := fun h => by
          by_cases c : g = e
          · rw [← c]
            exact xb (yo h)
          · have := hx' _ (by omega) (by omega) h
            rwa [x3 _ (by omega) (by omega), if_neg (by rw [← hg', if_neg c]; omega), if_neg (by omega), if_neg (by omega), if_pos rfl] at this
        have hold : ∃ d : Int, 0 ≤ d ∧ d < n.X.length ∧ D d := by
          by_cases c : d < n.X.length
          · exact ⟨d, d0, c, hd⟩
          · refine ⟨_, hxe.1, hxe.2, xa ?_⟩
            by_cases b : d = n.X.length
            · rwa [b] at hd
            · rw [show d = n.X.length + 1 from by omega] at hd
              exact yb hd
        have all := hM.dc D hold (fun z z0 z1 hz => ho' z z0 (by omega) hz) (fun z z0 z1 hz => by
          by_cases a : z = e
          · rw [a] at hz ⊢
            exact xa (xe hz)
          · by_cases b : z = g'
            · have c : g ≠ e := fun c => by rw [← hg', if_pos c] at b; omega
              have hzg : z = g := by rw [b, ← hg', if_neg c]
              have := hx' z z0 (by omega) hz
              rw [x3 z z0 (by omega), if_pos b] at this
              rw [hzg]
              exact xb this
            · have := hx' z z0 (by omega) hz
              rwa [x3 z z0 (by omega), if_neg b, if_neg (by omega), if_neg a, if_neg (by omega)] at this)
        have da := xe (all e e0 e1)
        by_cases c : u < n.X.length
        · exact all u u0 c
        · by_cases b : u = n.X.length
          · rw [b]; exact da
          · rw [show u = n.X.length + 1 from by omega]
            exact yo da
      · show ((layL (layL (n.X ++ [(n.X.length : Int), (n.X.length : Int) + 1]) e n.X.length) g' ((n.X.length : Int) + 1)).length : Int) / 2 + 2 ≤ n.N + max (faceN (layL (layL (n.X ++ [(n.X.length : Int), (n.X.length : Int) + 1]) e n.X.length) g' ((n.X.length : Int) + 1))) 1
        rw [hl]
        omega
theorem map_to (zs : List Int) : ∀ j, (planeTo zs j).T.length = 0 ∨ Map (planeTo zs j)
  | 0 => .inl (by simp [planeTo])
  | j + 1 => by
    rcases Nat.lt_or_ge j zs.length with h | h
    · rw [planeTo_next zs j h]
      exact .inr (map_grow (planeTo_fine zs j).1 (map_to zs j) _ (wi_rng _ _ (by omega)).1)
    · have e : planeTo zs (j + 1) = planeTo zs j := by
        unfold planeTo
        rw [List.take_of_length_le (by omega), List.take_of_length_le h]
      rw [e]
      exact map_to zs j
theorem map_plane (zs : List Int) : (planeOf zs).T.length = 0 ∨ Map (planeOf zs) := by
  have e : planeTo zs 24 = planeOf zs := planeTo_all zs 24 (.inl rfl)
  have := map_to zs 24
  rwa [e] at this
end Go.Proofs.Ytidcofjadlfahaa
