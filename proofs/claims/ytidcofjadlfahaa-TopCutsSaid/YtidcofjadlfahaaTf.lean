/- What the numbers of the faces say: one number for each round of darts. No Go in sight. -/
import Derived.Test.YtidcofjadlfahaaGr
set_option linter.unusedVariables false
namespace Go.Proofs.Ytidcofjadlfahaa
open Go.RowKit

theorem rd_setAll (of : List Int) (k : Int) : ∀ (ks : List Int) (z : Int), (∀ y, y ∈ ks → 0 ≤ y ∧ y < of.length) → 0 ≤ z → rd (setAll of ks k) z = if z ∈ ks then k else rd of z := by
  intro ks
  induction ks generalizing of with
  | nil => intro z _ _; simp [setAll]
  | cons x ks ih =>
    intro z h h0
    have hx := h x (by simp)
    have e : setAll of (x :: ks) k = setAll (st of x k) ks k := rfl
    rw [e, ih (st of x k) z (fun y hy => by rw [st_length]; exact h y (by simp [hy])) h0, rd_st _ _ _ _ hx.1 hx.2 h0]
    by_cases h1 : z ∈ ks
    · rw [if_pos h1, if_pos (by simp [h1])]
    · rw [if_neg h1]
      by_cases h2 : z = x
      · rw [if_pos h2, if_pos (by simp [h2])]
      · rw [if_neg h2, if_neg (by simp [h1, h2])]
/-- A row of a round: closed, and each of it is come to. -/
theorem Ch.closed {f : Int → Int} {d : Int} : ∀ {l : List Int} {e : Int}, Ch f d e l → (∀ z, z ∈ l → f z = d ∨ f z ∈ l) ∧ (∀ z, z ∈ l → ∃ j, itr f e j = z) ∧ (∃ j, itr f e j = d)
  | [], e, h => ⟨fun z hz => (by cases hz), fun z hz => (by cases hz), ⟨0, h⟩⟩
  | x :: l, e, h => by
    obtain ⟨rfl, hne, h⟩ := h
    obtain ⟨a, b, c⟩ := Ch.closed h
    have step : ∀ j, itr f x (1 + j) = itr f (f x) j := fun j => by
      induction j with
      | zero => rfl
      | succ j ih => show f (itr f x (1 + j)) = f _; rw [ih]
    refine ⟨fun z hz => ?_, fun z hz => ?_, ?_⟩
    · rcases List.mem_cons.1 hz with rfl | hz
      · cases l with
        | nil => exact .inl h
        | cons y l => exact .inr (by simp [h.1])
      · rcases a z hz with q | q
        · exact .inl q
        · exact .inr (by simp [q])
    · rcases List.mem_cons.1 hz with rfl | hz
      · exact ⟨0, rfl⟩
      · obtain ⟨j, hj⟩ := b z hz
        exact ⟨1 + j, by rw [step, hj]⟩
    · obtain ⟨j, hj⟩ := c
      exact ⟨1 + j, by rw [step, hj]⟩
theorem itr_add' (f : Int → Int) (a : Int) (i : Nat) : ∀ j, itr f a (i + j) = itr f (itr f a i) j
  | 0 => rfl
  | j + 1 => by
    show f (itr f a (i + j)) = f _
    rw [itr_add' f a i j]
/-- The faces that are numbered behind j darts. -/
structure FS (X : List Int) (j : Nat) (of : List Int) (k : Int) : Prop where
  len : of.length = X.length
  k0 : 0 ≤ k
  rng : ∀ z : Int, 0 ≤ z → z < X.length → rd of z = -1 ∨ (0 ≤ rd of z ∧ rd of z < k)
  don : ∀ z : Int, 0 ≤ z → z < X.length → z < j → 0 ≤ rd of z
  inv : ∀ z : Int, 0 ≤ z → z < X.length → 0 ≤ rd of z → rd of (phi X z) = rd of z
  one : ∀ z y : Int, 0 ≤ z → z < X.length → 0 ≤ y → y < X.length → 0 ≤ rd of z → rd of z = rd of y → ∃ i, itr (phi X) z i = y
  all : ∀ c : Int, 0 ≤ c → c < k → ∃ z : Int, 0 ≤ z ∧ z < X.length ∧ rd of z = c
theorem rep_rd (n : Nat) (x i : Int) (h0 : 0 ≤ i) (h1 : i < n) : rd (List.replicate n x) i = x := by
  unfold rd
  rw [List.getD_eq_getElem?_getD, List.getElem?_replicate, if_pos (by omega)]
  rfl
theorem faces_fs {X : List Int} (hp : Perm X.length (rd X)) (he : (X.length : Int) % 2 = 0) : ∀ j, j ≤ X.length → FS X j (facesTo X j).1 (facesTo X j).2
  | 0, _ => by
    refine ⟨by simp [facesTo], by simp [facesTo], fun z h0 h1 => .inl (by simp only [facesTo]; exact rep_rd _ _ _ h0 h1), fun z h0 h1 h2 => by omega, fun z h0 h1 h2 => ?_, fun z y h0 h1 _ _ h2 => ?_, fun c h0 h1 => by simp only [facesTo] at h1; omega⟩
    all_goals
      simp only [facesTo] at h2
      rw [rep_rd _ _ _ h0 h1] at h2
      omega
  | j + 1, hj => by
    have ih := faces_fs hp he j (by omega)
    obtain ⟨of, hof⟩ : ∃ of, (facesTo X j).1 = of := ⟨_, rfl⟩
    obtain ⟨k, hk⟩ : ∃ k, (facesTo X j).2 = k := ⟨_, rfl⟩
    rw [hof, hk] at ih
    have hpp := perm_phi hp he
    rw [facesTo, fstep, hof, hk]
    by_cases c : 0 ≤ rd of j
    · rw [if_pos c]
      have e : (facesTo X j) = (of, k) := by rw [← hof, ← hk]
      rw [e]
      exact ⟨ih.len, ih.k0, ih.rng, fun z h0 h1 h2 => by
        by_cases e : z = j
        · rw [e]; exact c
        · exact ih.don z h0 h1 (by omega), ih.inv, ih.one, ih.all⟩
    · rw [if_neg c]
      obtain ⟨l, hch, hin, _⟩ := hpp.ring (d := (j : Int)) (by omega) (by omega)
      rw [ring_eq hch]
      obtain ⟨q1, q2, q3⟩ := hch.closed
      have hin' : ∀ y, y ∈ (j : Int) :: l → 0 ≤ y ∧ y < of.length := fun y hy => by rw [ih.len]; exact hin y hy
      have hr : ∀ z : Int, 0 ≤ z → rd (setAll of ((j : Int) :: l) k) z = if z ∈ (j : Int) :: l then k else rd of z := fun z h0 => rd_setAll of k _ z hin' h0
      -- the round is closed; from each of it all others are come to
      have clo : ∀ z, z ∈ (j : Int) :: l → phi X z ∈ (j : Int) :: l := fun z hz => by
        rcases List.mem_cons.1 hz with rfl | hz
        · cases l with
          | nil => have : phi X (j : Int) = j := hch; simp [this]
          | cons y l => simp [hch.1]
        · rcases q1 z hz with q | q
          · simp [q]
          · simp [q]
      have fromj : ∀ z, z ∈ (j : Int) :: l → ∃ i, itr (phi X) j i = z := fun z hz => by
        rcases List.mem_cons.1 hz with rfl | hz
        · exact ⟨0, rfl⟩
        · obtain ⟨i, hi⟩ := q2 z hz
          exact ⟨1 + i, by rw [itr_add']; exact hi⟩
      have per : ∃ n, 0 < n ∧ itr (phi X) (j : Int) n = j := by
        obtain ⟨i, hi⟩ := q3
        exact ⟨1 + i, by omega, by rw [itr_add']; exact hi⟩
      have toj : ∀ z, z ∈ (j : Int) :: l → ∃ i, itr (phi X) z i = j := fun z hz => by
        obtain ⟨i, rfl⟩ := fromj z hz
        obtain ⟨n, hn, hp⟩ := per
        have mul : ∀ t, itr (phi X) (j : Int) (t * n) = j := fun t => by
          induction t with
          | zero => rw [Nat.zero_mul]; rfl
          | succ t iht => rw [Nat.succ_mul, itr_add', iht, hp]
        have hle : i ≤ i * n := Nat.le_mul_of_pos_right i hn
        refine ⟨i * n - i, ?_⟩
        rw [← itr_add', show i + (i * n - i) = i * n from by omega, mul]
      have closed_of : ∀ (i : Nat) (z : Int), 0 ≤ z → z < X.length → 0 ≤ rd of z → 0 ≤ rd of (itr (phi X) z i) := fun i => by
        induction i with
        | zero => exact fun z _ _ h => h
        | succ i ihi =>
          intro z h0 h1 h
          have a := ihi z h0 h1 h
          have b := hpp.itr_rng h0 h1 i
          show 0 ≤ rd of (phi X (itr (phi X) z i))
          rw [ih.inv _ b.1 b.2 a]
          exact a
      have unl : ∀ z, z ∈ (j : Int) :: l → ¬ 0 ≤ rd of z := fun z hz h => by
        obtain ⟨i, hi⟩ := toj z hz
        have hzr := hin z hz
        have := closed_of i z hzr.1 hzr.2 h
        rw [hi] at this
        exact c this
      have k0 := ih.k0
      refine ⟨by rw [setAll_length]; exact ih.len, by show (0 : Int) ≤ k + 1; omega, fun z h0 h1 => ?_, fun z h0 h1 h2 => ?_, fun z h0 h1 h2 => ?_, fun z y h0 h1 g0 g1 h2 h3 => ?_, fun d h0 h1 => ?_⟩
      · show rd (setAll of ((j : Int) :: l) k) z = -1 ∨ (0 ≤ rd (setAll of ((j : Int) :: l) k) z ∧ rd (setAll of ((j : Int) :: l) k) z < k + 1)
        rw [hr z h0]
        split
        · right
          omega
        · rcases ih.rng z h0 h1 with h | h
          · exact .inl h
          · right
            omega
      · show 0 ≤ rd (setAll of ((j : Int) :: l) k) z
        rw [hr z h0]
        split
        · exact k0
        · rename_i hn
          refine ih.don z h0 h1 ?_
          have : z ≠ j := fun e => hn (by simp [e])
          omega
      · have hpz := hpp.rng z h0 h1
        show rd (setAll of ((j : Int) :: l) k) (phi X z) = rd (setAll of ((j : Int) :: l) k) z
        have h2' : 0 ≤ rd (setAll of ((j : Int) :: l) k) z := h2
        rw [hr z h0] at h2' ⊢
        rw [hr _ hpz.1]
        by_cases hz : z ∈ (j : Int) :: l
        · rw [if_pos hz, if_pos (clo z hz)]
        · rw [if_neg hz] at h2' ⊢
          have hi := ih.inv z h0 h1 h2'
          rw [if_neg (fun hm => unl _ hm (by rw [hi]; exact h2'))]
          exact hi
      · have h2' : 0 ≤ rd (setAll of ((j : Int) :: l) k) z := h2
        have h3' : rd (setAll of ((j : Int) :: l) k) z = rd (setAll of ((j : Int) :: l) k) y := h3
        rw [hr z h0] at h2' h3'
        rw [hr y g0] at h3'
        by_cases hz : z ∈ (j : Int) :: l
        · rw [if_pos hz] at h3'
          by_cases hy : y ∈ (j : Int) :: l
          · obtain ⟨i1, e1⟩ := toj z hz
            obtain ⟨i2, e2⟩ := fromj y hy
            exact ⟨i1 + i2, by rw [itr_add', e1, e2]⟩
          · rw [if_neg hy] at h3'
            rcases ih.rng y g0 g1 with h | h <;> omega
        · rw [if_neg hz] at h2' h3'
          by_cases hy : y ∈ (j : Int) :: l
          · rw [if_pos hy] at h3'
            rcases ih.rng z h0 h1 with h | h <;> omega
          · rw [if_neg hy] at h3'
            exact ih.one z y h0 h1 g0 g1 h2' h3'
      · have h1' : d < k + 1 := h1
        by_cases e : d = k
        · refine ⟨j, by omega, by omega, ?_⟩
          show rd (setAll of ((j : Int) :: l) k) j = d
          rw [hr j (by omega), if_pos (by simp), e]
        · obtain ⟨z, z0, z1, hz⟩ := ih.all d h0 (by omega)
          refine ⟨z, z0, z1, ?_⟩
          show rd (setAll of ((j : Int) :: l) k) z = d
          rw [hr z z0, if_neg (fun hm => unl z hm (by rw [hz]; exact h0))]
          exact hz
/-- The faces of a net. -/
theorem faces_all {X : List Int} (hp : Perm X.length (rd X)) (he : (X.length : Int) % 2 = 0) : FS X X.length (facesOf X) (faceN X) := faces_fs hp he X.length (Nat.le_refl _)
/-- Who keeps one number along each face and has k of them tells that there are k faces at least. -/
theorem faces_least {X : List Int} (hp : Perm X.length (rd X)) (he : (X.length : Int) % 2 = 0) (g : Int → Int) (k : Nat) (hi : ∀ z : Int, 0 ≤ z → z < X.length → g (phi X z) = g z) (ha : ∀ c : Int, 0 ≤ c → c < k → ∃ z : Int, 0 ≤ z ∧ z < X.length ∧ g z = c) : (k : Int) ≤ faceN X := by
  have F := faces_all hp he
  have hpp := perm_phi hp he
  have hit : ∀ (i : Nat) (z : Int), 0 ≤ z → z < X.length → g (itr (phi X) z i) = g z := fun i => by
    induction i with
    | zero => exact fun z _ _ => rfl
    | succ i ih =>
      intro z h0 h1
      have b := hpp.itr_rng h0 h1 i
      show g (phi X (itr (phi X) z i)) = g z
      rw [hi _ b.1 b.2, ih z h0 h1]
  -- for each number a dart
  have ch : ∀ c : Nat, ∃ z : Int, c < k → 0 ≤ z ∧ z < X.length ∧ g z = c := fun c => by
    by_cases h : c < k
    · obtain ⟨z, a, b, e⟩ := ha c (by omega) (by omega)
      exact ⟨z, fun _ => ⟨a, b, e⟩⟩
    · exact ⟨0, fun h' => absurd h' h⟩
  have hn : ((List.range k).map (fun c => rd (facesOf X) ((ch c).choose))).Nodup := by
    refine nodup_map _ _ (fun i j hij hj e => ?_)
    obtain ⟨a0, a1, a2⟩ := (ch i).choose_spec (by omega)
    obtain ⟨b0, b1, b2⟩ := (ch j).choose_spec hj
    obtain ⟨n, hn⟩ := F.one _ _ a0 a1 b0 b1 (F.don _ a0 a1 (by omega)) e
    have := hit n _ a0 a1
    rw [hn, b2, a2] at this
    omega
  have k0 := F.k0
  have := few (faceN X).toNat _ hn (fun z hz => by
    obtain ⟨c, hc, rfl⟩ := List.mem_map.1 hz
    obtain ⟨a0, a1, a2⟩ := (ch c).choose_spec (by simpa using hc)
    have h1 := F.don _ a0 a1 (by omega)
    rcases F.rng _ a0 a1 with h | h
    · omega
    · exact ⟨h.1, by omega⟩)
  simp at this
  omega
end Go.Proofs.Ytidcofjadlfahaa
