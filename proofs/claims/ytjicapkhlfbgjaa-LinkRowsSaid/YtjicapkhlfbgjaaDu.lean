/- Two forests side by side through a law, and the plain facts that the laws ask. -/
import Derived.Test.YtjicapkhlfbgjaaLw
import Derived.StillTailTactics
set_option linter.unusedVariables false
namespace Go.Proofs.Ytjicapkhlfbgjaa
open Go.RowKit

/-- The program's forest in the blocks from lo to mid, the other one from mid to hi. -/
structure Duo (w0 w : World) (lo mid hi f x n : Nat) (U W U' W' : List Int) : Prop where
  ge : w0.heap.size ≤ lo
  le : lo ≤ mid
  F : Forest 52 w lo mid f n U W
  X : Forest 54 w mid hi x n U' W'
  B : Below w0.heap.size w0 w
section
variable {w0 w w' : World} {lo mid hi f x n : Nat} {U W U' W' U1 W1 : List Int}
theorem Duo.p (h : Duo w0 w lo mid hi f x n U W U' W') (l : Left 52 lo mid f n w U1 W1 w') : Duo w0 w' lo mid hi f x n U1 W1 U' W' :=
  ⟨h.ge, h.le, l.1, h.X.other l.2 (.inr (Nat.le_refl _)), h.B.trans (l.2.below h.ge h.B.size)⟩
theorem Duo.r (h : Duo w0 w lo mid hi f x n U W U' W') (l : Left 54 mid hi x n w U1 W1 w') : Duo w0 w' lo mid hi f x n U W U1 W1 :=
  ⟨h.ge, h.le, h.F.other l.2 (.inl (Nat.le_refl _)), l.1, h.B.trans (l.2.below (Nat.le_trans h.ge h.le) h.B.size)⟩
theorem Duo.drew (h : Duo w0 w lo mid hi f x n U W U' W') : Duo w0 w.drew lo mid hi f x n U W U' W' :=
  ⟨h.ge, h.le, h.F.other (Rng.refl 0 0 _).drew (.inr (Nat.zero_le _)), h.X.other (Rng.refl 0 0 _).drew (.inr (Nat.zero_le _)), h.B.trans ((Rng.refl lo lo _).drew.below h.ge h.B.size)⟩
theorem Forest.lu {T : TypeId} (h : Forest T w lo hi f n U W) : U.length = n := by
  obtain ⟨_, _, _, _, k⟩ := h
  exact k.lu
theorem Forest.lw {T : TypeId} (h : Forest T w lo hi f n U W) : W.length = n := by
  obtain ⟨_, _, _, _, k⟩ := h
  exact k.lw

/-! ### what is refused changes nothing -/
theorem p_link_no (v z y k : Int) (h : Forest 52 w lo hi f n U W) (hg : Good U) (he : linkE U v z = k) (hk : k ≠ 0) : Calls Try.prog 17 #[.pointer (some ⟨f, 0, none⟩), .int .i64 v, .int .i64 z, .int .i64 y] w fun e w' => e = .returned (.int .i64 k) ∧ Left 52 lo hi f n w U W w' := by
  have := p_link v z y h hg
  have e1 : linkU U v z = U := by unfold linkU; rw [he, if_neg hk]
  have e2 : linkW U W v z y = W := by unfold linkW; rw [he, if_neg hk]
  rwa [e1, e2, he] at this
theorem p_cut_no (v k : Int) (h : Forest 52 w lo hi f n U W) (hg : Good U) (he : cutE U v = k) (hk : k ≠ 0) : Calls Try.prog 25 #[.pointer (some ⟨f, 0, none⟩), .int .i64 v] w fun e w' => e = .returned (.int .i64 k) ∧ Left 52 lo hi f n w U W w' := by
  have := p_cut v h hg
  have e1 : cutU U v = U := by unfold cutU; rw [he, if_neg hk]
  have e2 : cutW U W v = W := by unfold cutW; rw [he, if_neg hk]
  rwa [e1, e2, he] at this
theorem p_turn_no (v : Int) (h : Forest 52 w lo hi f n U W) (hg : Good U) (he : isv U v = false) : Calls Try.prog 19 #[.pointer (some ⟨f, 0, none⟩), .int .i64 v] w fun e w' => e = .returned (.bool false) ∧ Left 52 lo hi f n w U W w' := by
  have := p_turn v h hg
  have e1 : turnedU U v = U := by simp [turnedU, he]
  have e2 : turnedW U W v = W := by simp [turnedW, he]
  rwa [e1, e2, he] at this
theorem p_add_no (v b : Int) (h : Forest 52 w lo hi f n U W) (hg : Good U) (he : isv U v = false) : Calls Try.prog 27 #[.pointer (some ⟨f, 0, none⟩), .int .i64 v, .int .i64 b] w fun e w' => e = .returned (.bool false) ∧ Left 52 lo hi f n w U W w' := by
  have := p_add v b h hg
  have e2 : addedW U W v b = W := by simp [addedW, he]
  rwa [e2, he] at this
end

/-! ### plain facts -/
theorem rootA_of {U : List Int} {v : Int} (h0 : 0 ≤ v) (h1 : v < U.length) : rootA U v = rootV U v := by
  unfold rootA
  rw [if_pos (isv_iff.2 ⟨h0, h1⟩)]
theorem turn_facts {U : List Int} {a : Int} (hg : Good U) (h0 : 0 ≤ a) (h1 : a < U.length) :
    isv U a = true ∧ rootA (turnedU U a) a = a ∧ rootA (turnedU U a) (rootA U a) = a ∧ isv (turnedU U a) (rootA U a) = true ∧ rootA (turnedU (turnedU U a) (rootA U a)) a = rootA U a := by
  have hr := root_rng hg h0 h1
  have hl := turnedU_length U a
  have e1 : rootV (turnedU U a) a = a := by rw [turned_root hg h0 h1 h0 h1, if_pos rfl]
  have e2 : rootV (turnedU U a) (rootV U a) = a := by rw [turned_root hg h0 h1 hr.1 hr.2.1, if_pos (root_idem hg h0 h1)]
  refine ⟨isv_iff.2 ⟨h0, h1⟩, ?_, ?_, ?_, ?_⟩
  · rw [rootA_of h0 (by omega), e1]
  · rw [rootA_of h0 h1, rootA_of hr.1 (by omega), e2]
  · rw [rootA_of h0 h1]
    exact isv_iff.2 ⟨hr.1, by omega⟩
  · rw [rootA_of h0 h1, rootA_of h0 (by rw [turnedU_length]; omega), turned_root (hg.turned a) hr.1 (by omega) h0 (by omega), if_pos (by rw [e1, e2])]
theorem up_facts {U : List Int} {a : Int} (hg : Good U) (h0 : 0 ≤ a) (h1 : a < U.length) (hu : hasUp U a = true) : rd U a ≠ -1 ∧ 0 ≤ rd U a ∧ rd U a < U.length ∧ upA U a = rd U a := by
  have hv : isv U a = true := isv_iff.2 ⟨h0, h1⟩
  have hr := hg.rng a h0 h1
  have hn : rd U a ≠ -1 := by
    intro h
    simp [hasUp, h] at hu
  exact ⟨hn, by omega, hr.2, by simp [upA, hv, hn]⟩
theorem rejoin_facts {U W : List Int} {a : Int} (hg : Good U) (h0 : 0 ≤ a) (h1 : a < U.length) (hw : W.length = U.length) (hu : hasUp U a = true) :
    cutE U a = 0 ∧ rootA (cutU U a) a = a ∧ linkE (cutU U a) a (upA U a) = 0 ∧ linkU (cutU U a) a (upA U a) = U ∧ linkW (cutU U a) (cutW U W a) a (upA U a) (wtA U W a) = W := by
  obtain ⟨hn, hr0, hr1, hup⟩ := up_facts hg h0 h1 hu
  have hv : isv U a = true := isv_iff.2 ⟨h0, h1⟩
  have e0 : cutE U a = 0 := by simp [cutE, hv, hn]
  have e1 : cutU U a = st U a (-1) := by simp [cutU, e0]
  have e2 : cutW U W a = st W a 0 := by simp [cutW, e0]
  have e3 : wtA U W a = rd W a := by simp [wtA, hv, hn]
  have hl : (st U a (-1)).length = U.length := st_length _ _ _
  have hra : rd (st U a (-1)) a = -1 := rd_st_same _ _ _ h0 h1
  have hwa : Way U a (a :: way U (rd U a)) := .step h0 h1 (hg.way _ (by omega) hr1)
  have hna := hwa.notin
  have hwu := (hg.way _ (by omega) hr1).other (x := -1) h0 h1 hna
  have hne : rootV (st U a (-1)) (rd U a) ≠ a := by
    rw [hwu.root_eq]
    intro h
    have hm := (hwu.last hr0).2.2.2
    rw [h] at hm
    exact hna hm
  have e4 : linkE (st U a (-1)) a (rd U a) = 0 := by
    unfold linkE
    have i1 : isv (st U a (-1)) a = true := isv_iff.2 ⟨h0, by omega⟩
    have i2 : isv (st U a (-1)) (rd U a) = true := isv_iff.2 ⟨hr0, by omega⟩
    rw [if_neg (by simp [i1, i2]), if_neg (by simp [hra]), if_neg hne]
  rw [hup, e1, e2, e3]
  refine ⟨e0, ?_, e4, ?_, ?_⟩
  · rw [rootA_of h0 (by omega), root_root h0 (by omega) hra]
  · rw [linkU, if_pos e4, st_st, st_same _ _ h0 h1]
  · rw [linkW, if_pos e4, st_st, st_same _ _ h0 (by omega)]
theorem noup_facts {U : List Int} {a : Int} (h0 : 0 ≤ a) (h1 : a < U.length) (hu : hasUp U a = false) : cutE U a = 7 := by
  have hv : isv U a = true := isv_iff.2 ⟨h0, h1⟩
  have hn : rd U a = -1 := by
    simp [hasUp, hv] at hu
    exact hu
  simp [cutE, hv, hn]
theorem errs_facts {U : List Int} {a b z : Int} (hg : Good U) (h0 : 0 ≤ a) (h1 : a < U.length) (hz : isv U z = false) :
    linkE U z b = 3 ∧ linkE U a z = 3 ∧ cutE U z = 3 ∧ rootA U z = -1 ∧ linkE U (rootA U a) a = 8 ∧ cutE U (rootA U a) = 7 := by
  have hr := root_rng hg h0 h1
  have hv : isv U a = true := isv_iff.2 ⟨h0, h1⟩
  have hvr : isv U (rootV U a) = true := isv_iff.2 ⟨hr.1, hr.2.1⟩
  refine ⟨by simp [linkE, hz], by simp [linkE, hz], by simp [cutE, hz], by simp [rootA, hz], ?_, ?_⟩
  · rw [rootA_of h0 h1]
    unfold linkE
    rw [if_neg (by simp [hv, hvr]), if_neg (by simp [hr.2.2]), if_pos rfl]
  · rw [rootA_of h0 h1]
    simp [cutE, hvr, hr.2.2]
theorem uneven_facts {U : List Int} {a b : Int} (hg : Good U) (h0 : 0 ≤ a) (h1 : a < U.length) (h2 : 0 ≤ b) (h3 : b < U.length) (hu : hasUp U a = true) : linkE U a b = 11 := by
  obtain ⟨hn, _⟩ := up_facts hg h0 h1 hu
  unfold linkE
  rw [if_neg (by simp [isv_iff.2 ⟨h0, h1⟩, isv_iff.2 ⟨h2, h3⟩]), if_pos hn]
end Go.Proofs.Ytjicapkhlfbgjaa
