/- The plain laws of forests that are told by two rows of numbers: ways up, roots, link, cut, turn, add, least. No Go in sight. -/
import Derived.RowKit
namespace Go.Proofs.Ytjicapkhlfbgjaa
open Go.RowKit

/-- What a row holds at a place. -/
def rd (xs : List Int) (i : Int) : Int := xs.getD i.toNat 0
/-- A row with one place turned. -/
def st (xs : List Int) (i x : Int) : List Int := xs.set i.toNat x

theorem st_length (xs : List Int) (i x : Int) : (st xs i x).length = xs.length := by simp [st]
theorem rd_st (xs : List Int) (i j x : Int) (hi : 0 ≤ i) (hl : i < xs.length) (hj : 0 ≤ j) : rd (st xs i x) j = if j = i then x else rd xs j := by
  unfold rd st
  simp only [List.getD_eq_getElem?_getD, List.getElem?_set]
  by_cases h : j = i
  · subst h
    have : j.toNat < xs.length := by omega
    simp [this]
  · rw [if_neg (by omega), if_neg h]
theorem rd_st_same (xs : List Int) (i x : Int) (hi : 0 ≤ i) (hl : i < xs.length) : rd (st xs i x) i = x := by rw [rd_st _ _ _ _ hi hl hi, if_pos rfl]
theorem rd_st_ne (xs : List Int) (i j x : Int) (hi : 0 ≤ i) (hl : i < xs.length) (hj : 0 ≤ j) (h : j ≠ i) : rd (st xs i x) j = rd xs j := by rw [rd_st _ _ _ _ hi hl hj, if_neg h]
theorem rows_ext {xs ys : List Int} (hl : xs.length = ys.length) (h : ∀ i : Int, 0 ≤ i → i < xs.length → rd xs i = rd ys i) : xs = ys := by
  apply List.ext_getElem hl
  intro i h1 h2
  have := h i (by omega) (by omega)
  simpa [rd, List.getD_eq_getElem?_getD, List.getElem?_eq_getElem h1, List.getElem?_eq_getElem h2] using this
theorem st_same (xs : List Int) (i : Int) (hi : 0 ≤ i) (hl : i < xs.length) : st xs i (rd xs i) = xs := by
  apply rows_ext (st_length _ _ _)
  intro j h0 h1
  rw [rd_st _ _ _ _ hi hl h0]
  split
  · simp [*]
  · rfl
theorem st_st (xs : List Int) (i x y : Int) : st (st xs i x) i y = st xs i y := by simp [st]

/-- The vertices from one up to its root. -/
inductive Way (U : List Int) : Int → List Int → Prop
  | root : Way U (-1) []
  | step {v : Int} {l : List Int} : 0 ≤ v → v < U.length → Way U (rd U v) l → Way U v (v :: l)

theorem Way.det {U : List Int} {v : Int} {l l' : List Int} (h : Way U v l) (h' : Way U v l') : l = l' := by
  induction h generalizing l' with
  | root =>
    cases h' with
    | root => rfl
    | step h0 _ _ => omega
  | step h0 h1 _ ih =>
    cases h' with
    | root => omega
    | step _ _ k => rw [ih k]
theorem Way.inv {U : List Int} {v : Int} {l : List Int} (h : Way U v l) : (v = -1 ∧ l = []) ∨ (0 ≤ v ∧ v < U.length ∧ ∃ s, l = v :: s ∧ Way U (rd U v) s) := by
  cases h with
  | root => exact .inl ⟨rfl, rfl⟩
  | step a b k => exact .inr ⟨a, b, _, rfl, k⟩
theorem Way.mem {U : List Int} {v x : Int} {l : List Int} (h : Way U v l) (hx : x ∈ l) : 0 ≤ x ∧ x < U.length := by
  induction h with
  | root => simp at hx
  | step h0 h1 _ ih =>
    rcases List.mem_cons.1 hx with rfl | hx
    · exact ⟨h0, h1⟩
    · exact ih hx
theorem Way.cons {U : List Int} {v : Int} {l : List Int} (h : Way U v l) (hv : 0 ≤ v) : ∃ s, l = v :: s ∧ Way U (rd U v) s := by
  cases h with
  | root => omega
  | step _ _ k => exact ⟨_, rfl, k⟩
theorem Way.split {U : List Int} {v x : Int} {l : List Int} (h : Way U v l) (hx : x ∈ l) : ∃ p s, l = p ++ x :: s ∧ Way U x (x :: s) := by
  induction h with
  | root => simp at hx
  | @step v l h0 h1 k ih =>
    rcases List.mem_cons.1 hx with rfl | hx
    · exact ⟨[], l, rfl, .step h0 h1 k⟩
    · obtain ⟨p, s, rfl, k'⟩ := ih hx
      exact ⟨v :: p, s, rfl, k'⟩
theorem Way.notin {U : List Int} {v : Int} {l : List Int} (h : Way U v (v :: l)) : v ∉ l := by
  intro hv
  cases h with
  | step h0 h1 k =>
    obtain ⟨p, s, e, k'⟩ := k.split hv
    have := k'.det (.step h0 h1 k)
    injection this with _ this
    subst this
    have := congrArg List.length e
    simp at this
    omega
theorem Way.nodup {U : List Int} {v : Int} {l : List Int} (h : Way U v l) : l.Nodup := by
  induction h with
  | root => simp
  | step h0 h1 k ih => exact List.nodup_cons.2 ⟨(Way.step h0 h1 k).notin, ih⟩
theorem Way.other {U : List Int} {v i x : Int} {l : List Int} (h : Way U v l) (hi : 0 ≤ i) (hl : i < U.length) (hn : i ∉ l) : Way (st U i x) v l := by
  induction h with
  | root => exact .root
  | @step v l h0 h1 k ih =>
    refine .step h0 (by rw [st_length]; exact h1) ?_
    rw [rd_st_ne _ _ _ _ hi hl h0 (by rintro rfl; simp at hn)]
    exact ih (fun h => hn (List.mem_cons_of_mem _ h))
/-- Where a way is turned at one of its vertices. -/
theorem Way.upto {U : List Int} {v i x : Int} {p s t : List Int} (h : Way U v (p ++ i :: s)) (hx : Way (st U i x) x t) : Way (st U i x) v (p ++ i :: t) := by
  have hm := h.mem (x := i) (by simp)
  have hn := h.nodup
  induction p generalizing v with
  | nil =>
    cases h with
    | step h0 h1 k =>
      refine .step h0 (by rw [st_length]; exact h1) ?_
      rw [rd_st_same _ _ _ h0 h1]
      exact hx
  | cons y p ih =>
    cases h with
    | step h0 h1 k =>
      refine .step h0 (by rw [st_length]; exact h1) ?_
      rw [rd_st_ne _ _ _ _ hm.1 hm.2 h0 (by rintro rfl; simp at hn)]
      exact ih k (List.nodup_cons.1 hn).2

/-- A forest's row: from each vertex there is a way up. -/
def Good (U : List Int) : Prop := ∀ v : Int, -1 ≤ v → v < U.length → ∃ l, Way U v l
theorem Good.rng {U : List Int} (h : Good U) (v : Int) (h0 : 0 ≤ v) (h1 : v < U.length) : -1 ≤ rd U v ∧ rd U v < U.length := by
  obtain ⟨l, hl⟩ := h v (by omega) h1
  obtain ⟨s, _, k⟩ := hl.cons h0
  rcases k.inv with ⟨a, _⟩ | ⟨a, b, _⟩ <;> omega

/-- The way itself. -/
noncomputable def way (U : List Int) (v : Int) : List Int := by
  classical exact if h : ∃ l, Way U v l then h.choose else []
theorem Way.way {U : List Int} {v : Int} {l : List Int} (h : Way U v l) : way U v = l := by
  unfold Ytjicapkhlfbgjaa.way
  rw [dif_pos ⟨l, h⟩]
  exact (Exists.choose_spec (⟨l, h⟩ : ∃ l, Way U v l)).det h
theorem Good.way {U : List Int} (h : Good U) (v : Int) (h0 : -1 ≤ v) (h1 : v < U.length) : Way U v (way U v) := by
  obtain ⟨l, hl⟩ := h v h0 h1
  rw [hl.way]
  exact hl
/-- Its end: the root; of no vertex -1. -/
noncomputable def rootV (U : List Int) (v : Int) : Int := (way U v).getLastD (-1)
def lastD (l : List Int) : Int := l.getLastD (-1)
theorem lastD_cons (v : Int) (l : List Int) : lastD (v :: l) = if l = [] then v else lastD l := by
  cases l <;> simp [lastD]
theorem lastD_append (p : List Int) (v : Int) (l : List Int) : lastD (p ++ v :: l) = lastD (v :: l) := by
  have h : (v :: l).getLast? = some (l.getLast?.getD v) := List.getLast?_cons
  simp only [lastD, List.getLastD_eq_getLast?, List.getLast?_append, h, Option.some_or]
theorem Way.root_eq {U : List Int} {v : Int} {l : List Int} (h : Way U v l) : rootV U v = lastD l := by rw [rootV, h.way, lastD]
theorem Way.last {U : List Int} {v : Int} {l : List Int} (h : Way U v l) (hv : 0 ≤ v) : 0 ≤ lastD l ∧ lastD l < U.length ∧ rd U (lastD l) = -1 ∧ lastD l ∈ l := by
  induction h with
  | root => omega
  | @step v l h0 h1 k ih =>
    rw [lastD_cons]
    rcases k.inv with ⟨a, rfl⟩ | ⟨a, b, s, rfl, k⟩
    · simp [a, h0, h1]
    · rw [if_neg (by simp)]
      have := ih a
      exact ⟨this.1, this.2.1, this.2.2.1, List.mem_cons_of_mem _ this.2.2.2⟩
theorem Way.at_root {U : List Int} {v x : Int} {l : List Int} (h : Way U v l) (hx : x ∈ l) (hr : rd U x = -1) : ∃ p, l = p ++ [x] := by
  obtain ⟨p, s, rfl, k⟩ := h.split hx
  cases k with
  | step _ _ k =>
    rw [hr] at k
    cases k with
    | root => exact ⟨p, rfl⟩
    | step h _ _ => omega
theorem root_self {U : List Int} {v : Int} (h0 : 0 ≤ v) (h1 : v < U.length) (hr : rd U v = -1) : Way U v [v] := .step h0 h1 (by rw [hr]; exact .root)

/-! ### what is asked -/
def isv (U : List Int) (v : Int) : Bool := decide (0 ≤ v) && decide (v < U.length)
theorem isv_iff {U : List Int} {v : Int} : isv U v = true ↔ 0 ≤ v ∧ v < U.length := by simp [isv]
noncomputable def rootA (U : List Int) (v : Int) : Int := if isv U v then rootV U v else -1
def hasUp (U : List Int) (v : Int) : Bool := isv U v && rd U v != -1
def upA (U : List Int) (v : Int) : Int := if isv U v && rd U v != -1 then rd U v else 0
def wtA (U W : List Int) (v : Int) : Int := if isv U v && rd U v != -1 then rd W v else 0

/-! ### link -/
noncomputable def linkE (U : List Int) (v w : Int) : Int := if isv U v = false ∨ isv U w = false then 3 else if rd U v ≠ -1 then 11 else if rootV U w = v then 8 else 0
noncomputable def linkU (U : List Int) (v w : Int) : List Int := if linkE U v w = 0 then st U v w else U
noncomputable def linkW (U W : List Int) (v w x : Int) : List Int := if linkE U v w = 0 then st W v x else W
theorem linkE_zero {U : List Int} {v w : Int} (h : linkE U v w = 0) : (0 ≤ v ∧ v < U.length) ∧ (0 ≤ w ∧ w < U.length) ∧ rd U v = -1 ∧ rootV U w ≠ v := by
  unfold linkE at h
  split at h
  · omega
  · rename_i hv
    split at h
    · omega
    · rename_i hr
      split at h
      · omega
      · rename_i hk
        simp only [not_or, Bool.not_eq_false, isv_iff] at hv
        exact ⟨hv.1, hv.2, by omega, hk⟩
theorem link_way {U : List Int} {v w : Int} (hv : 0 ≤ v) (hv' : v < U.length) (hr : rd U v = -1) {lw : List Int} (hw : Way U w lw) (hn : v ∉ lw) {x : Int} {l : List Int} (h : Way U x l) :
    (v ∉ l → Way (st U v w) x l) ∧ (v ∈ l → Way (st U v w) x (l ++ lw)) := by
  refine ⟨fun hx => h.other hv hv' hx, fun hx => ?_⟩
  obtain ⟨p, rfl⟩ := h.at_root hx hr
  have := h.upto (x := w) (hw.other hv hv' hn)
  simpa using this
theorem root_notin {U : List Int} (h : Good U) {v w : Int} (hr : rd U v = -1) (hw0 : 0 ≤ w) (hw : w < U.length) (hk : rootV U w ≠ v) : v ∉ way U w := by
  intro hx
  have h1 := h.way w (by omega) hw
  obtain ⟨p, e⟩ := h1.at_root hx hr
  apply hk
  rw [h1.root_eq, e]
  simp [lastD]
theorem Good.set {U : List Int} (h : Good U) {v w : Int} (hv : 0 ≤ v) (hv' : v < U.length) (hw0 : 0 ≤ w) (hw : w < U.length) (hr : rd U v = -1) (hk : rootV U w ≠ v) : Good (st U v w) := by
  intro x h0 h1
  rw [st_length] at h1
  obtain ⟨l, hl⟩ := h x h0 h1
  have := link_way hv hv' hr (h.way w (by omega) hw) (root_notin h hr hw0 hw hk) hl
  by_cases hx : v ∈ l
  · exact ⟨_, this.2 hx⟩
  · exact ⟨_, this.1 hx⟩
theorem Good.link {U : List Int} (h : Good U) (v w : Int) : Good (linkU U v w) := by
  unfold linkU
  split
  · rename_i h0
    obtain ⟨⟨a, b⟩, ⟨c, d⟩, e, f⟩ := linkE_zero h0
    exact h.set a b c d e f
  · exact h
theorem linkU_length (U : List Int) (v w : Int) : (linkU U v w).length = U.length := by unfold linkU; split <;> simp [st_length]
theorem linkW_length (U W : List Int) (v w x : Int) : (linkW U W v w x).length = W.length := by unfold linkW; split <;> simp [st_length]

/-! ### cut -/
def cutE (U : List Int) (v : Int) : Int := if isv U v = false then 3 else if rd U v = -1 then 7 else 0
def cutU (U : List Int) (v : Int) : List Int := if cutE U v = 0 then st U v (-1) else U
def cutW (U W : List Int) (v : Int) : List Int := if cutE U v = 0 then st W v 0 else W
theorem cutE_zero {U : List Int} {v : Int} (h : cutE U v = 0) : (0 ≤ v ∧ v < U.length) ∧ rd U v ≠ -1 := by
  unfold cutE at h
  split at h
  · omega
  · rename_i hv
    split at h
    · omega
    · simp only [Bool.not_eq_false, isv_iff] at hv
      exact ⟨hv, by assumption⟩
theorem cut_way {U : List Int} {v x : Int} {l : List Int} (hv : 0 ≤ v) (hv' : v < U.length) (h : Way U x l) : (v ∉ l → Way (st U v (-1)) x l) ∧ (∀ p s, l = p ++ v :: s → Way (st U v (-1)) x (p ++ [v])) := by
  refine ⟨fun hx => h.other hv hv' hx, ?_⟩
  rintro p s rfl
  exact h.upto .root
theorem Good.cutAt {U : List Int} (h : Good U) {v : Int} (hv : 0 ≤ v) (hv' : v < U.length) : Good (st U v (-1)) := by
  intro x h0 h1
  rw [st_length] at h1
  obtain ⟨l, hl⟩ := h x h0 h1
  have := cut_way hv hv' hl
  by_cases hx : v ∈ l
  · obtain ⟨p, s, e, _⟩ := hl.split hx
    exact ⟨_, this.2 _ _ e⟩
  · exact ⟨_, this.1 hx⟩
theorem Good.cut {U : List Int} (h : Good U) (v : Int) : Good (cutU U v) := by
  unfold cutU
  split
  · rename_i h0
    exact h.cutAt (cutE_zero h0).1.1 (cutE_zero h0).1.2
  · exact h
theorem cutU_length (U : List Int) (v : Int) : (cutU U v).length = U.length := by unfold cutU; split <;> simp [st_length]
theorem cutW_length (U W : List Int) (v : Int) : (cutW U W v).length = W.length := by unfold cutW; split <;> simp [st_length]

/-! ### turn -/
/-- From the first of a way up: each hangs on what was ahead of it; the weights go with the edges. -/
def turnU : List Int → List Int → Int → List Int
  | U, [], _ => U
  | U, v :: l, last => turnU (st U v last) l v
def turnW : List Int → List Int → Int → List Int
  | W, [], _ => W
  | W, v :: l, x => turnW (st W v x) l (rd W v)
theorem turnU_length (U l : List Int) (x : Int) : (turnU U l x).length = U.length := by
  induction l generalizing U x with
  | nil => rfl
  | cons v l ih => rw [turnU, ih, st_length]
theorem turnW_length (W l : List Int) (x : Int) : (turnW W l x).length = W.length := by
  induction l generalizing W x with
  | nil => rfl
  | cons v l ih => rw [turnW, ih, st_length]
/-- Two rows that are one along a way. -/
theorem Way.agree {U U' : List Int} {x : Int} {m : List Int} (h : Way U x m) (hl : U'.length = U.length) (he : ∀ z, z ∈ m → rd U' z = rd U z) : Way U' x m := by
  induction h with
  | root => exact .root
  | @step v l h0 h1 k ih =>
    refine .step h0 (by omega) ?_
    rw [he v (by simp)]
    exact ih (fun z hz => he z (List.mem_cons_of_mem _ hz))
theorem Way.join {U U' : List Int} {x y : Int} {p s t : List Int} (h : Way U x (p ++ y :: s)) (hl : U'.length = U.length) (he : ∀ z, z ∈ p → rd U' z = rd U z) (ht : Way U' y t) : Way U' x (p ++ t) := by
  induction p generalizing x with
  | nil =>
    cases h with
    | step _ _ _ => exact ht
  | cons z p ih =>
    cases h with
    | step h0 h1 k =>
      refine .step h0 (by omega) ?_
      rw [he _ (by simp)]
      exact ih k (fun y hy => he y (List.mem_cons_of_mem _ hy))
theorem turn_other {l : List Int} : ∀ (U : List Int) (last z : Int), (∀ y, y ∈ l → 0 ≤ y ∧ y < U.length) → 0 ≤ z → z ∉ l → rd (turnU U l last) z = rd U z := by
  induction l with
  | nil => intros; rfl
  | cons v l ih =>
    intro U last z hv h0 hz
    have hv0 := hv v (by simp)
    rw [turnU, ih _ _ _ (fun y hy => by rw [st_length]; exact hv y (List.mem_cons_of_mem _ hy)) h0 (fun h => hz (List.mem_cons_of_mem _ h)), rd_st_ne _ _ _ _ hv0.1 hv0.2 h0 (by rintro rfl; simp at hz)]
theorem turn_mine {l : List Int} : ∀ (U r : List Int) (last : Int), (∀ y, y ∈ l → 0 ≤ y ∧ y < U.length) → l.Nodup → Way U last r → (∀ y, y ∈ l → y ∉ r) → ∀ l1 y l2, l = l1 ++ y :: l2 → Way (turnU U l last) y (y :: (l1.reverse ++ r)) := by
  induction l with
  | nil => intro U r last _ _ _ _ l1 y l2 e; simp at e
  | cons v l ih =>
    intro U r last hv hn hr hd l1 y l2 e
    have hv0 := hv v (by simp)
    have hvr : v ∉ r := hd v (by simp)
    have hr' : Way (st U v last) v (v :: r) := by
      refine .step hv0.1 (by rw [st_length]; exact hv0.2) ?_
      rw [rd_st_same _ _ _ hv0.1 hv0.2]
      exact hr.other hv0.1 hv0.2 hvr
    have hval : ∀ y, y ∈ l → 0 ≤ y ∧ y < (st U v last).length := fun y hy => by rw [st_length]; exact hv y (List.mem_cons_of_mem _ hy)
    rw [turnU]
    cases l1 with
    | nil =>
      simp only [List.nil_append, List.cons.injEq] at e
      obtain ⟨rfl, rfl⟩ := e
      refine hr'.agree (by rw [turnU_length]) (fun z hz => turn_other _ _ _ hval (hr'.mem hz).1 ?_)
      rcases List.mem_cons.1 hz with rfl | hz
      · exact (List.nodup_cons.1 hn).1
      · exact fun h => hd z (List.mem_cons_of_mem _ h) hz
    | cons v' l1 =>
      simp only [List.cons_append, List.cons.injEq] at e
      obtain ⟨rfl, rfl⟩ := e
      have := ih (st U v last) (v :: r) v hval (List.nodup_cons.1 hn).2 hr' (fun y hy h => by
        rcases List.mem_cons.1 h with rfl | h
        · exact (List.nodup_cons.1 hn).1 hy
        · exact hd y (List.mem_cons_of_mem _ hy) h) l1 y l2 rfl
      simpa using this
noncomputable def turnedU (U : List Int) (v : Int) : List Int := if isv U v then turnU U (way U v) (-1) else U
noncomputable def turnedW (U W : List Int) (v : Int) : List Int := if isv U v then turnW W (way U v) 0 else W
theorem turnedU_length (U : List Int) (v : Int) : (turnedU U v).length = U.length := by unfold turnedU; split <;> simp [turnU_length]
theorem turnedW_length (U W : List Int) (v : Int) : (turnedW U W v).length = W.length := by unfold turnedW; split <;> simp [turnW_length]
/-- The first of a row that is of another one. -/
theorem first_in (l : List Int) : ∀ m : List Int, (∀ y, y ∈ l → y ∉ m) ∨ ∃ p y s, m = p ++ y :: s ∧ y ∈ l ∧ ∀ z, z ∈ p → z ∉ l
  | [] => .inl (fun _ _ => by simp)
  | x :: m => by
    by_cases hx : x ∈ l
    · exact .inr ⟨[], x, m, rfl, hx, by simp⟩
    · rcases first_in l m with h | ⟨p, y, s, rfl, hy, hp⟩
      · refine .inl (fun y hy h' => ?_)
        rcases List.mem_cons.1 h' with rfl | h'
        · exact hx hy
        · exact h y hy h'
      · refine .inr ⟨x :: p, y, s, rfl, hy, fun z hz => ?_⟩
        rcases List.mem_cons.1 hz with rfl | hz
        · exact hx
        · exact hp z hz
theorem turned_way {U : List Int} (h : Good U) {v : Int} (h0 : 0 ≤ v) (h1 : v < U.length) {x : Int} {m : List Int} (hm : Way U x m) :
    ((∀ y, y ∈ way U v → y ∉ m) ∧ Way (turnedU U v) x m) ∨ ((∃ y, y ∈ way U v ∧ y ∈ m) ∧ ∃ t, Way (turnedU U v) x t ∧ t ≠ [] ∧ lastD t = v) := by
  have hw := h.way v (by omega) h1
  have hval : ∀ y, y ∈ way U v → 0 ≤ y ∧ y < U.length := fun y hy => hw.mem hy
  have e : turnedU U v = turnU U (way U v) (-1) := by unfold turnedU; rw [if_pos (isv_iff.2 ⟨h0, h1⟩)]
  rw [e]
  rcases first_in (way U v) m with hd | ⟨p, y, s, rfl, hy, hp⟩
  · exact .inl ⟨hd, hm.agree (turnU_length _ _ _) (fun z hz => turn_other _ _ _ hval (hm.mem hz).1 (fun hz' => hd z hz' hz))⟩
  · obtain ⟨l1, l2, el⟩ := List.append_of_mem hy
    have k := turn_mine U [] (-1) hval hw.nodup .root (by simp) l1 y l2 el
    refine .inr ⟨⟨y, hy, by simp⟩, _, hm.join (turnU_length _ _ _) (fun z hz => turn_other _ _ _ hval (hm.mem (by simp [hz])).1 (hp z hz)) k, by simp, ?_⟩
    rw [lastD_append, lastD_cons]
    obtain ⟨s', es, _⟩ := hw.cons h0
    cases l1 with
    | nil =>
      rw [es] at el
      simp at el
      simp [el]
    | cons z l1 =>
      rw [es] at el
      simp at el
      simp [lastD, List.getLastD_eq_getLast?, el]
theorem Good.turned {U : List Int} (h : Good U) (v : Int) : Good (turnedU U v) := by
  by_cases hv : isv U v = true
  · obtain ⟨h0, h1⟩ := isv_iff.1 hv
    intro x a b
    rw [turnedU_length] at b
    obtain ⟨m, hm⟩ := h x a b
    rcases turned_way h h0 h1 hm with ⟨_, k⟩ | ⟨_, t, k, _⟩
    · exact ⟨_, k⟩
    · exact ⟨_, k⟩
  · unfold turnedU
    rw [if_neg hv]
    exact h
/-- Two ways that meet have one root. -/
theorem meet_root {U : List Int} {x y z : Int} {l m : List Int} (hl : Way U x l) (hm : Way U y m) (h1 : z ∈ l) (h2 : z ∈ m) : lastD l = lastD m := by
  obtain ⟨p, s, rfl, k⟩ := hl.split h1
  obtain ⟨p', s', rfl, k'⟩ := hm.split h2
  have := k.det k'
  injection this with _ this
  subst this
  rw [lastD_append, lastD_append]
theorem turned_root {U : List Int} (h : Good U) {v x : Int} (h0 : 0 ≤ v) (h1 : v < U.length) (a : 0 ≤ x) (b : x < U.length) : rootV (turnedU U v) x = if rootV U x = rootV U v then v else rootV U x := by
  have hx := h.way x (by omega) b
  have hv := h.way v (by omega) h1
  rw [hx.root_eq, hv.root_eq]
  rcases turned_way h h0 h1 hx with ⟨hd, k⟩ | ⟨⟨y, y1, y2⟩, t, k, _, e⟩
  · rw [k.root_eq, if_neg]
    intro e
    have l1 := (hx.last a).2.2.2
    have l2 := (hv.last h0).2.2.2
    rw [e] at l1
    exact hd _ l2 l1
  · rw [k.root_eq, e, if_pos (meet_root hx hv y2 y1)]
theorem root_rng {U : List Int} (h : Good U) {v : Int} (h0 : 0 ≤ v) (h1 : v < U.length) : 0 ≤ rootV U v ∧ rootV U v < U.length ∧ rd U (rootV U v) = -1 := by
  have hv := h.way v (by omega) h1
  rw [hv.root_eq]
  have := hv.last h0
  exact ⟨this.1, this.2.1, this.2.2.1⟩
theorem root_root {U : List Int} {v : Int} (h0 : 0 ≤ v) (h1 : v < U.length) (hr : rd U v = -1) : rootV U v = v := by rw [(root_self h0 h1 hr).root_eq]; rfl
theorem root_idem {U : List Int} (h : Good U) {v : Int} (h0 : 0 ≤ v) (h1 : v < U.length) : rootV U (rootV U v) = rootV U v := by
  have := root_rng h h0 h1
  exact root_root this.1 this.2.1 this.2.2

/-! ### add -/
def addL (b : Int) : List Int → List Int → List Int
  | W, v :: x :: l => addL b (st W v (wrap64 (rd W v + b))) (x :: l)
  | W, _ => W
theorem addL_length (b : Int) (l : List Int) : ∀ W, (addL b W l).length = W.length := by
  induction l with
  | nil => intro W; rfl
  | cons v l ih =>
    intro W
    cases l with
    | nil => rfl
    | cons x l => rw [addL, ih, st_length]
theorem addL_rd (b : Int) (l : List Int) : ∀ W : List Int, l.Nodup → (∀ y, y ∈ l → 0 ≤ y ∧ y < W.length) → ∀ z, 0 ≤ z → rd (addL b W l) z = if z ∈ l.dropLast then wrap64 (rd W z + b) else rd W z := by
  induction l with
  | nil => intro W _ _ z _; simp [addL]
  | cons v l ih =>
    intro W hn hv z hz
    cases l with
    | nil => simp [addL]
    | cons x l =>
      have hv0 := hv v (by simp)
      rw [addL, ih _ (List.nodup_cons.1 hn).2 (fun y hy => by rw [st_length]; exact hv y (List.mem_cons_of_mem _ hy)) z hz, List.dropLast_cons_cons]
      by_cases e : z = v
      · subst e
        have : z ∉ (x :: l).dropLast := fun h => (List.nodup_cons.1 hn).1 (List.dropLast_subset _ h)
        rw [if_neg this, if_pos (by simp), rd_st_same _ _ _ hv0.1 hv0.2]
      · rw [rd_st_ne _ _ _ _ hv0.1 hv0.2 hz e]
        simp only [List.mem_cons, e, false_or]
noncomputable def addedW (U W : List Int) (v b : Int) : List Int := if isv U v then addL b W (way U v) else W
theorem addedW_length (U W : List Int) (v b : Int) : (addedW U W v b).length = W.length := by unfold addedW; split <;> simp [addL_length]

/-! ### least -/
/-- At, weight, is there one: from one vertex up, behind what was met. -/
def leastL (W : List Int) : List Int → Int × Int × Bool → Int × Int × Bool
  | v :: x :: l, a => leastL W (x :: l) (if !a.2.2 || decide (rd W v ≤ a.2.1) then (v, rd W v, true) else a)
  | _, a => a
noncomputable def leastT (U W : List Int) (v : Int) : Int × Int × Bool := if isv U v then leastL W (way U v) (0, 0, false) else (0, 0, false)
/-- The other text's: at alone. -/
def leastAt (W : List Int) : List Int → Int → Int
  | v :: x :: l, a => leastAt W (x :: l) (if rd W v ≤ rd W a then v else a)
  | _, a => a
theorem least_one (W : List Int) (l : List Int) : ∀ a : Int, leastL W l (a, rd W a, true) = (leastAt W l a, rd W (leastAt W l a), true) := by
  induction l with
  | nil => intro a; rfl
  | cons v l ih =>
    intro a
    cases l with
    | nil => rfl
    | cons x l =>
      rw [leastL, leastAt]
      by_cases h : rd W v ≤ rd W a
      · simp only [h, decide_true, Bool.or_true, if_true]
        exact ih v
      · simp only [h, decide_false, Bool.or_false, Bool.not_true, Bool.false_eq_true, if_false]
        exact ih a
theorem least_both (W : List Int) (v x : Int) (l : List Int) : leastL W (v :: x :: l) (0, 0, false) = (leastAt W (v :: x :: l) v, rd W (leastAt W (v :: x :: l) v), true) := by
  rw [leastL, leastAt]
  simp only [Bool.not_false, Bool.true_or, if_true, Int.le_refl]
  exact least_one W _ v
/-- What is told of the least: it is on the way; none is less; none behind it is as little. -/
theorem leastL_spec (W : List Int) (l : List Int) : ∀ a : Int × Int × Bool, 
    (leastL W l a = a ∧ (∀ y, y ∈ l.dropLast → a.2.2 = true ∧ a.2.1 < rd W y)) ∨
    (∃ p y s, l.dropLast = p ++ y :: s ∧ leastL W l a = (y, rd W y, true) ∧ (∀ z, z ∈ p → rd W y ≤ rd W z) ∧ (∀ z, z ∈ s → rd W y < rd W z) ∧ (a.2.2 = true → rd W y ≤ a.2.1)) := by
  induction l with
  | nil => intro a; exact .inl ⟨rfl, by simp⟩
  | cons v l ih =>
    intro a
    cases l with
    | nil => exact .inl ⟨rfl, by simp⟩
    | cons x l =>
      rw [leastL, List.dropLast_cons_cons]
      by_cases h : (!a.2.2 || decide (rd W v ≤ a.2.1)) = true
      · rw [if_pos h]
        have ha : a.2.2 = true → rd W v ≤ a.2.1 := fun e => by simpa [e] using h
        rcases ih (v, rd W v, true) with ⟨e, k⟩ | ⟨p, y, s, e, e', k1, k2, k3⟩
        · exact .inr ⟨[], v, _, rfl, e, by simp, fun z hz => (k z hz).2, ha⟩
        · refine .inr ⟨v :: p, y, s, by rw [e]; rfl, e', fun z hz => ?_, k2, fun e => Int.le_trans (k3 rfl) (ha e)⟩
          rcases List.mem_cons.1 hz with rfl | hz
          · exact k3 rfl
          · exact k1 z hz
      · rw [if_neg h]
        simp only [Bool.or_eq_true, Bool.not_eq_true', decide_eq_true_eq, not_or, Bool.not_eq_false] at h
        rcases ih a with ⟨e, k⟩ | ⟨p, y, s, e, e', k1, k2, k3⟩
        · refine .inl ⟨e, fun y hy => ?_⟩
          rcases List.mem_cons.1 hy with rfl | hy
          · exact ⟨h.1, by omega⟩
          · exact k y hy
        · refine .inr ⟨v :: p, y, s, by rw [e]; rfl, e', fun z hz => ?_, k2, k3⟩
          rcases List.mem_cons.1 hz with rfl | hz
          · have := k3 h.1
            omega
          · exact k1 z hz

end Go.Proofs.Ytjicapkhlfbgjaa
