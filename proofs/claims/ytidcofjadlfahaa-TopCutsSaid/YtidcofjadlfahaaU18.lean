/- Grown nets, and nets seen from behind: darts about one vertex are one round; how many faces there are. No Go in sight. -/
import Derived.Test.YtidcofjadlfahaaU3
import Derived.Test.YtidcofjadlfahaaTj
import Derived.Test.YtidcofjadlfahaaTl
import Derived.Test.YtidcofjadlfahaaTc
set_option linter.unusedVariables false
namespace Go.Proofs.Ytidcofjadlfahaa
open Go.RowKit

/-- From a by steps to b. -/
def Rch (f : Int → Int) (a b : Int) : Prop := ∃ i, itr f a i = b
theorem Rch.refl (f : Int → Int) (a : Int) : Rch f a a := ⟨0, rfl⟩
theorem Rch.trans {f : Int → Int} {a b c : Int} (h : Rch f a b) (k : Rch f b c) : Rch f a c := by
  obtain ⟨i, rfl⟩ := h
  obtain ⟨j, rfl⟩ := k
  exact ⟨i + j, itr_add' f a i j⟩
theorem Rch.one (f : Int → Int) (a : Int) : Rch f a (f a) := ⟨1, rfl⟩
/-- What steps keep: each step of f is a way by g, inside P. -/
theorem Rch.along {f g : Int → Int} {P : Int → Prop} (hs : ∀ z, P z → P (f z) ∧ Rch g z (f z)) {a b : Int} (ha : P a) (h : Rch f a b) : Rch g a b := by
  obtain ⟨i, rfl⟩ := h
  have key : ∀ i, P (itr f a i) ∧ Rch g a (itr f a i) := fun i => by
    induction i with
    | zero => exact ⟨ha, Rch.refl _ _⟩
    | succ i ih => exact ⟨(hs _ ih.1).1, ih.2.trans (hs _ ih.1).2⟩
  exact (key i).2
/-- Darts about one vertex are one round, among some. -/
def SameOn (X T : List Int) (P : Int → Prop) : Prop := ∀ x y, P x → P y → rd T x = rd T y → Rch (rd X) x y
/-- One dart more laid behind e. -/
theorem SameOn.lay {X T : List Int} {P : Int → Prop} {e d : Int} {m : Nat} (h : SameOn X T P) (hX : X.length = m) (hP : ∀ z, P z → 0 ≤ z ∧ z < m ∧ P (rd X z) ∧ rd T (rd X z) = rd T z) (he : P e) (hd : ¬ P d) (hdr : 0 ≤ d ∧ d < m) (ht : rd T d = rd T e) :
    SameOn (layL X e d) T (fun z => P z ∨ z = d) ∧ (∀ z, (P z ∨ z = d) → 0 ≤ z ∧ z < m ∧ (P (rd (layL X e d) z) ∨ rd (layL X e d) z = d) ∧ rd T (rd (layL X e d) z) = rd T z) := by
  have hr := hP e he
  have hrd : ∀ z : Int, 0 ≤ z → rd (layL X e d) z = if z = e then d else if z = d then rd X e else rd X z := fun z z0 => rd_layL hr.1 (by rw [hX]; exact hr.2.1) hdr.1 (by rw [hX]; exact hdr.2) z0
  have hde : d ≠ e := fun k => hd (k ▸ he)
  -- one old step is a way
  have step : ∀ z, P z → P (rd X z) ∧ Rch (rd (layL X e d)) z (rd X z) := fun z hz => by
    have hzr := hP z hz
    refine ⟨hzr.2.2.1, ?_⟩
    by_cases k : z = e
    · subst k
      refine ⟨2, ?_⟩
      show rd (layL X z d) (rd (layL X z d) z) = rd X z
      rw [hrd z hzr.1, if_pos rfl, hrd d hdr.1, if_neg hde, if_pos rfl]
    · refine ⟨1, ?_⟩
      show rd (layL X e d) z = rd X z
      rw [hrd z hzr.1, if_neg k, if_neg (show ¬ z = d from fun q => hd (q ▸ hz))]
  have old : ∀ x y, P x → P y → rd T x = rd T y → Rch (rd (layL X e d)) x y := fun x y hx hy hxy => (h x y hx hy hxy).along step hx
  have ed : Rch (rd (layL X e d)) e d := ⟨1, by show rd (layL X e d) e = d; rw [hrd e hr.1, if_pos rfl]⟩
  have de : Rch (rd (layL X e d)) d (rd X e) := ⟨1, by show rd (layL X e d) d = rd X e; rw [hrd d hdr.1, if_neg hde, if_pos rfl]⟩
  refine ⟨fun x y hx hy hxy => ?_, fun z hz => ?_⟩
  · rcases hx with hx | rfl
    · rcases hy with hy | rfl
      · exact old x y hx hy hxy
      · exact (old x e hx he (by rw [hxy, ht])).trans ed
    · rcases hy with hy | rfl
      · exact de.trans (old _ y hr.2.2.1 hy (by rw [hr.2.2.2, ← ht, hxy]))
      · exact Rch.refl _ _
  · rcases hz with hz | rfl
    · have hzr := hP z hz
      refine ⟨hzr.1, hzr.2.1, ?_, ?_⟩
      · rw [hrd z hzr.1]
        by_cases k : z = e
        · rw [if_pos k]; exact .inr rfl
        · rw [if_neg k, if_neg (show ¬ z = d from fun q => hd (q ▸ hz))]; exact .inl hzr.2.2.1
      · rw [hrd z hzr.1]
        by_cases k : z = e
        · rw [if_pos k, ht, k]
        · rw [if_neg k, if_neg (show ¬ z = d from fun q => hd (q ▸ hz))]; exact hzr.2.2.2
    · refine ⟨hdr.1, hdr.2, ?_, ?_⟩
      · rw [hrd z hdr.1, if_neg hde, if_pos rfl]; exact .inl hr.2.2.1
      · rw [hrd z hdr.1, if_neg hde, if_pos rfl, hr.2.2.2, ht]
/-- All darts of a net. -/
def Same (n : PNet) : Prop := ∀ x y : Int, 0 ≤ x → x < n.T.length → 0 ≤ y → y < n.T.length → rd n.T x = rd n.T y → Rch (rd n.X) x y
/-- What a dart holds. -/
def Caps (n : PNet) : Prop := ∀ c, c ∈ n.C → 0 ≤ c ∧ c ≤ 2147483648
theorem capOf_rng (k : Int) : 0 ≤ capOf k ∧ capOf k ≤ 2147483648 := by
  have h := wi_rng k 1099511627776 (by omega)
  have ht := tdiv_rng (wi k 1099511627776) 7 h.1 (by omega)
  unfold capOf
  generalize wi k 1099511627776 = z at h ht
  generalize z.tdiv 7 = y at ht
  split
  · omega
  · split
    · omega
    · split <;> omega
theorem caps_grow {n : PNet} (h : n.T.length = 0 ∨ Caps n) (k : Int) : Caps (growK n k) := by
  have c1 := capOf_rng (k.tdiv 30)
  have c2 := capOf_rng (k.tdiv 7000)
  unfold growK
  by_cases h0 : n.T.length = 0
  · rw [if_pos h0]
    have key : ∀ c, c ∈ [capOf (k.tdiv 30), capOf (k.tdiv 7000)] → 0 ≤ c ∧ c ≤ 2147483648 := fun c hc => by
      simp at hc
      rcases hc with rfl | rfl
      · exact c1
      · exact c2
    split
    · exact key
    · exact key
  · rw [if_neg h0]
    have h := h.resolve_left h0
    have key : ∀ c, c ∈ n.C ++ [capOf (k.tdiv 30), capOf (k.tdiv 7000)] → 0 ≤ c ∧ c ≤ 2147483648 := fun c hc => by
      simp at hc
      rcases hc with hc | rfl | rfl
      · exact h c hc
      · exact c1
      · exact c2
    split
    · exact key
    · exact key
theorem same_grow {n : PNet} (hF : Fine n) (hM : n.T.length = 0 ∨ Map n) (hS : n.T.length = 0 ∨ Same n) (k : Int) (hk : 0 ≤ k) : Same (growK n k) := by
  unfold growK
  by_cases h0 : n.T.length = 0
  · rw [if_pos h0]
    by_cases h5 : k % 5 = 0
    · rw [if_pos h5]
      intro x y x0 x1 y0 y1 _
      have x1' : x < 2 := x1
      have y1' : y < 2 := y1
      rcases (by omega : x = 0 ∨ x = 1) with rfl | rfl <;> rcases (by omega : y = 0 ∨ y = 1) with rfl | rfl
      · exact ⟨0, rfl⟩
      · exact ⟨1, rfl⟩
      · exact ⟨1, rfl⟩
      · exact ⟨0, rfl⟩
    · rw [if_neg h5]
      intro x y x0 x1 y0 y1 hxy
      have x1' : x < 2 := x1
      have y1' : y < 2 := y1
      rcases (by omega : x = 0 ∨ x = 1) with rfl | rfl <;> rcases (by omega : y = 0 ∨ y = 1) with rfl | rfl
      · exact ⟨0, rfl⟩
      · have h9 : (0 : Int) = 1 := hxy
        omega
      · have h9 : (1 : Int) = 0 := hxy
        omega
      · exact ⟨0, rfl⟩
  · rw [if_neg h0]
    have hM := hM.resolve_left h0
    have hS := hS.resolve_left h0
    have hlx := hF.lx
    have hpos : 0 < n.T.length := by omega
    have hke := tdiv_rng k 5 hk (by omega)
    have hkg := tdiv_rng k 1200 hk (by omega)
    have he := emod_rng (k.tdiv 5) n.T.length hke.1 (by omega)
    simp only []
    obtain ⟨e, hee⟩ : ∃ e, k.tdiv 5 % (n.T.length : Int) = e := ⟨_, rfl⟩
    rw [hee] at he ⊢
    have hsp := same_pos (n := n) he.1 he.2
    have hg := emod_rng (k.tdiv 1200) (sameL n e).length hkg.1 (by omega)
    obtain ⟨g, hge⟩ : ∃ g, rd (sameL n e) (k.tdiv 1200 % ((sameL n e).length : Int)) = g := ⟨_, rfl⟩
    rw [hge]
    have hgm : g ∈ sameL n e := by rw [← hge]; exact rd_mem hg.1 hg.2
    have hgr := (same_mem.1 hgm).1
    obtain ⟨a, ha⟩ : ∃ a : Nat, n.T.length = a := ⟨_, rfl⟩
    rw [ha] at he hgr ⊢
    have hxa : n.X.length = a := by omega
    -- the rows, two darts longer
    have hX0 : ∀ z : Int, 0 ≤ z → z < a + 2 → rd (n.X ++ [(a : Int), (a : Int) + 1]) z = if z < a then rd n.X z else z := fun z z0 z1 => by
      rw [rd_app2 _ _ _ _ z0 (by omega), hxa]
      by_cases c : z < a
      · rw [if_pos c, if_pos c]
      · rw [if_neg c, if_neg c]
        by_cases d : z = a
        · rw [if_pos d, d]
        · rw [if_neg d]; omega
    have hl0 : (n.X ++ [(a : Int), (a : Int) + 1]).length = a + 2 := by simp [hxa]
    have key : ∀ (t : Int), (∃ t0, t = t0) → SameOn (layL (n.X ++ [(a : Int), (a : Int) + 1]) e a) (n.T ++ [rd n.T e, t]) (fun (z : Int) => (0 ≤ z ∧ z < (a : Int)) ∨ z = (a : Int)) ∧ (∀ z : Int, ((0 ≤ z ∧ z < (a : Int)) ∨ z = (a : Int)) → 0 ≤ z ∧ z < ((a + 2 : Nat) : Int) ∧ ((0 ≤ rd (layL (n.X ++ [(a : Int), (a : Int) + 1]) e a) z ∧ rd (layL (n.X ++ [(a : Int), (a : Int) + 1]) e a) z < a) ∨ rd (layL (n.X ++ [(a : Int), (a : Int) + 1]) e a) z = a) ∧ rd (n.T ++ [rd n.T e, t]) (rd (layL (n.X ++ [(a : Int), (a : Int) + 1]) e a) z) = rd (n.T ++ [rd n.T e, t]) z) := fun t _ => by
      have hT0 : ∀ z : Int, 0 ≤ z → z < a → rd (n.T ++ [rd n.T e, t]) z = rd n.T z := fun z z0 z1 => by
        rw [rd_app2 _ _ _ _ z0 (by omega), ha, if_pos z1]
      have hTa : rd (n.T ++ [rd n.T e, t]) (a : Int) = rd n.T e := by
        rw [rd_app2 _ _ _ _ (by omega) (by omega), ha, if_neg (by omega), if_pos rfl]
      have hpx : ∀ z : Int, 0 ≤ z → z < a → 0 ≤ rd n.X z ∧ rd n.X z < a := fun z z0 z1 => by
        have := hF.px.rng z z0 (by rw [hxa]; exact z1)
        rwa [hxa] at this
      refine SameOn.lay (X := n.X ++ [(a : Int), (a : Int) + 1]) (P := fun (z : Int) => 0 ≤ z ∧ z < (a : Int)) (d := (a : Int)) (m := a + 2) ?_ hl0 (fun z hz => ⟨hz.1, by omega, ?_, ?_⟩) he (fun k => by omega) (by omega) ?_
      · intro x y hx hy hxy
        rw [hT0 x hx.1 hx.2, hT0 y hy.1 hy.2] at hxy
        refine (hS x y hx.1 (by omega) hy.1 (by omega) hxy).along (P := fun (z : Int) => 0 ≤ z ∧ z < (a : Int)) (fun z hz => ⟨hpx z hz.1 hz.2, ⟨1, ?_⟩⟩) hx
        show rd (n.X ++ [(a : Int), (a : Int) + 1]) z = rd n.X z
        rw [hX0 z hz.1 (by omega), if_pos hz.2]
      · rw [hX0 z hz.1 (by omega), if_pos hz.2]
        exact hpx z hz.1 hz.2
      · rw [hX0 z hz.1 (by omega), if_pos hz.2]
        have q := hpx z hz.1 hz.2
        rw [hT0 _ q.1 q.2, hT0 z hz.1 hz.2]
        exact hM.tu z hz.1 (by omega)
      · rw [hTa, hT0 e he.1 he.2]
    by_cases h2 : k % 5 < 2
    · rw [if_pos h2]
      obtain ⟨S2, P2⟩ := key n.N ⟨_, rfl⟩
      intro x y x0 x1 y0 y1 hxy
      have x1' : x < (a : Int) + 2 := by
        have h9 : x < ((n.T ++ [rd n.T e, n.N]).length : Int) := x1
        simp [ha] at h9; omega
      have y1' : y < (a : Int) + 2 := by
        have h9 : y < ((n.T ++ [rd n.T e, n.N]).length : Int) := y1
        simp [ha] at h9; omega
      have hTn : rd (n.T ++ [rd n.T e, n.N]) ((a : Int) + 1) = n.N := by
        rw [rd_app2 _ _ _ _ (by omega) (by omega), ha, if_neg (by omega), if_neg (by omega)]
      have hTo : ∀ z : Int, 0 ≤ z → z < (a : Int) + 1 → rd (n.T ++ [rd n.T e, n.N]) z ≠ n.N := fun z z0 z1 => by
        rw [rd_app2 _ _ _ _ z0 (by omega), ha]
        by_cases c : z < a
        · rw [if_pos c]
          have := hF.tr z z0 (by omega)
          omega
        · rw [if_neg c, if_pos (by omega)]
          have := hF.tr e he.1 (by omega)
          omega
      have hxy' : rd (n.T ++ [rd n.T e, n.N]) x = rd (n.T ++ [rd n.T e, n.N]) y := hxy
      by_cases cx : x = (a : Int) + 1
      · by_cases cy : y = (a : Int) + 1
        · rw [cx, cy]; exact Rch.refl _ _
        · rw [cx, hTn] at hxy'
          exact absurd hxy'.symm (hTo y y0 (by omega))
      · by_cases cy : y = (a : Int) + 1
        · rw [cy, hTn] at hxy'
          exact absurd hxy' (hTo x x0 (by omega))
        · exact S2 x y (by omega) (by omega) hxy'
    · rw [if_neg h2]
      obtain ⟨S2, P2⟩ := key (rd n.T g) ⟨_, rfl⟩
      have hl2 : (layL (n.X ++ [(a : Int), (a : Int) + 1]) e a).length = a + 2 := by rw [layL_length, hl0]
      have hg' : (0 ≤ (if g = e then (a : Int) else g) ∧ (if g = e then (a : Int) else g) < a) ∨ (if g = e then (a : Int) else g) = a := by
        split
        · exact .inr rfl
        · exact .inl hgr
      have hTg : rd (n.T ++ [rd n.T e, rd n.T g]) ((a : Int) + 1) = rd (n.T ++ [rd n.T e, rd n.T g]) (if g = e then (a : Int) else g) := by
        rw [rd_app2 _ _ _ _ (by omega) (by omega), ha, if_neg (by omega), if_neg (by omega)]
        split
        · rename_i q
          rw [rd_app2 _ _ _ _ (by omega) (by omega), ha, if_neg (by omega), if_pos rfl, q]
        · rw [rd_app2 _ _ _ _ hgr.1 (by omega), ha, if_pos hgr.2]
      obtain ⟨S3, _⟩ := SameOn.lay (m := a + 2) S2 hl2 P2 hg' (d := (a : Int) + 1) (by omega) (by omega) hTg
      intro x y x0 x1 y0 y1 hxy
      have x1' : x < (a : Int) + 2 := by
        have h9 : x < ((n.T ++ [rd n.T e, rd n.T g]).length : Int) := x1
        simp [ha] at h9; omega
      have y1' : y < (a : Int) + 2 := by
        have h9 : y < ((n.T ++ [rd n.T e, rd n.T g]).length : Int) := y1
        simp [ha] at h9; omega
      exact S3 x y (by omega) (by omega) hxy
end Go.Proofs.Ytidcofjadlfahaa
