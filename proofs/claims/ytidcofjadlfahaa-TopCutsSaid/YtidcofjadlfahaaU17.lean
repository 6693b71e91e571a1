/- The walk of Least. -/
import Derived.Test.YtidcofjadlfahaaU14
import Derived.Test.YtidcofjadlfahaaU16
import Derived.Deep.RegionHeldLaw
set_option linter.unusedVariables false
set_option linter.unusedSimpArgs false
namespace Go.Proofs.Ytidcofjadlfahaa
open Go.RowKit

theorem box3_set0 {w : World} {b : Nat} {y0 y1 y2 : Value} {t : TypeId} (h : BoxN w b #[y0, y1, y2] t) (x : Value) : BoxN (w.setCell ⟨b, 0, none⟩ x) b #[x, y1, y2] t := by
  unfold BoxN at *
  simp [World.setCell, Array.getElem?_modify, h]
theorem box3_set1 {w : World} {b : Nat} {y0 y1 y2 : Value} {t : TypeId} (h : BoxN w b #[y0, y1, y2] t) (x : Value) : BoxN (w.setCell ⟨b, 1, none⟩ x) b #[y0, x, y2] t := by
  unfold BoxN at *
  simp [World.setCell, Array.getElem?_modify, h]
theorem box3_set2 {w : World} {b : Nat} {y0 y1 y2 : Value} {t : TypeId} (h : BoxN w b #[y0, y1, y2] t) (x : Value) : BoxN (w.setCell ⟨b, 2, none⟩ x) b #[y0, y1, x] t := by
  unfold BoxN at *
  simp [World.setCell, Array.getElem?_modify, h]
/-- A cut, stored whole. -/
theorem store3 {ops : Array Oper} {rest : List Oper} {o : Oper} {a : Act} {Q : Exit → Act → World → Prop} {W : World} (hgd : o.guard = none) (hd : o.dst = none) (p v : Operand)
    (ho : o.op = .store 42 p v) (b : Nat) (hp : a.eval p = .pointer (some ⟨b, 0, none⟩)) (N : Int) (a1 a3 : Option Addr) (l1 k1 l3 k3 : Nat) (hv : a.eval v = .agg #[.slice a1 l1 k1, .int .i64 N, .slice a3 l3 k3]) (y0 y1 y2 : Value) (t' : TypeId)
    (hbox : BoxN W b #[y0, y1, y2] t') (h : ∀ w1, BoxN w1 b #[.slice a1 l1 k1, .int .i64 N, .slice a3 l3 k3] t' → W.grownBy w1 (some b) → wpList Try.prog ops Q rest a w1) : wpList Try.prog ops Q (o :: rest) a W := by
  obtain ⟨x0, e0⟩ : ∃ x0, x0 = Value.slice a1 l1 k1 := ⟨_, rfl⟩
  obtain ⟨x1, e1⟩ : ∃ x1, x1 = Value.int .i64 N := ⟨_, rfl⟩
  obtain ⟨x2, e2⟩ : ∃ x2, x2 = Value.slice a3 l3 k3 := ⟨_, rfl⟩
  rw [← e0, ← e1, ← e2] at hv h
  have k0 : x0.cells = #[x0] := by rw [e0]; rfl
  have q1 : x1.cells = #[x1] := by rw [e1]; rfl
  have q2 : x2.cells = #[x2] := by rw [e2]; rfl
  have b1 := box3_set0 hbox x0
  have b2 := box3_set1 b1 x1
  have b3 := box3_set2 b2 x2
  have g1 := ((grown_set W ⟨b, 0, none⟩ x0).trans (grown_set _ ⟨b, 1, none⟩ x1)).trans (grown_set _ ⟨b, 2, none⟩ x2)
  refine wpList_plain hgd fun K hK => ?_
  have c0 : W.cell? ⟨b, 0, none⟩ = some y0 := hbox.cell 0
  have f0 := hbox.fz 0
  have c1 : (W.setCell ⟨b, 0, none⟩ x0).cell? ⟨b, 1, none⟩ = some y1 := b1.cell 1
  have f1 := b1.fz 1
  have c2 : ((W.setCell ⟨b, 0, none⟩ x0).setCell ⟨b, 1, none⟩ x1).cell? ⟨b, 2, none⟩ = some y2 := b2.cell 2
  have f2 := b2.fz 2
  unfold Oper.wp execOp
  simp only [ho, hp, hv]
  clear hbox b1 b2 k0 q1 q2
  subst e0 e1 e2
  go_simp
  exact hK _ _ (h _ b3 g1)
theorem OwnK.grown {w w' : World} {B : Nat} {v : Value} {xs : List Int} (h : OwnK w B v xs) {b : Nat} (hg : w.grownBy w' (some b)) (hb : b < B) : OwnK w' B v xs := by
  rcases h with h | ⟨g, c0, c, hv, k⟩
  · exact .inl h
  · exact .inr ⟨g, c0, c, hv, k.grown hg (by have := k.rng.1; simp; omega)⟩
def notL (bs : List Bool) : List Bool := bs.map (fun b => !b)
theorem notL_length (bs : List Bool) : (notL bs).length = bs.length := by simp [notL]
theorem rb_notL {bs : List Bool} {v : Int} (h0 : 0 ≤ v) (h1 : v < bs.length) : rb (notL bs) v = !(rb bs v) := by
  have h : v.toNat < bs.length := by omega
  unfold rb notL
  rw [List.getD_eq_getElem?_getD, List.getD_eq_getElem?_getD, List.getElem?_map, List.getElem?_eq_getElem h]
  rfl
/-- The vertices that hang together with t where s does not come to: all others. -/
def inOf (T C f : List Int) (m n : Nat) (s t : Int) : List Bool := notL (mk1 (bEnd T (okS T (mk1 (byOf T C f m n s)) t) m n t).by_)
noncomputable def cutOf (T X C : List Int) (inb : List Bool) (m n : Nat) : List Int := if cycB T inb m n = true then cycL (facesOf X) (outL T inb n) (outL T inb n).length else []
def LeastPost (T X C : List Int) (m n : Nat) (s t : Int) (w : World) (e : Ending) (w' : World) : Prop :=
  ∃ f g v, e = .returned (.tuple #[.agg #[.slice (some ⟨g, 0, none⟩) m m, .int .i64 (cutSum T C (inOf T C f m n s t) n), v], .int .i64 0]) ∧ MostIs T C m n s t f ∧ BOwnN w' w.heap.size g m m (inOf T C f m n s t) ∧ OwnK w' w.heap.size v (cutOf T X C (inOf T C f m n s t) m n) ∧ Below w.heap.size w w'
section
variable {m n bT oT bX oX bC oC kT kX kC : Nat} {T X C : List Int} {w : World}
set_option maxHeartbeats 6400000 in
set_option maxRecDepth 100000 in
theorem least_any (G : Good m n T X C) (R : Rows3 w n bT oT bX oX bC oC T X C) (s t : Int) (hs0 : 0 ≤ s) (hs1 : s < m) (ht0 : 0 ≤ t) (ht1 : t < m) (hst : s ≠ t) :
    Calls Try.prog 16 #[(.agg #[.int .i64 m, .slice (some ⟨bT, oT, none⟩) n kT, .slice (some ⟨bX, oX, none⟩) n kX, .slice (some ⟨bC, oC, none⟩) n kC]), .int .i64 s, .int .i64 t] w (LeastPost T X C m n s t w) := by
  have MO := fun W (h : Below w.heap.size w W) => most_any (kT := kT) (kX := kX) (kC := kC) G (R.keep h) s t hs0 hs1 ht0 ht1 hst
  have RE := fun W (h : Below w.heap.size w W) (gF : Nat) (f : List Int) (F : RowAt W gF 0 n f) (M : Mid n f) => reach_any (kT := kT) (kX := kX) (kC := kC) (kF := n) G (R.keep h) F M s hs0 hs1
  have PI := fun W (h : Below w.heap.size w W) (gR : Nat) (inb : List Bool) (F : BRowAt W gR 0 m inb) => piece_any (kT := kT) (kX := kX) (kC := kC) (kF := m) G (R.keep h) F t ht0 ht1
  have CY := fun W (h : Below w.heap.size w W) (gR : Nat) (inb : List Bool) (F : BRowAt W gR 0 m inb) => cycle_any (kT := kT) (kX := kX) (kC := kC) (kF := m) G (R.keep h) F
  have SU := fun W (h : Below w.heap.size w W) (gR : Nat) (inb : List Bool) (F : BRowAt W gR 0 m inb) => sum_any (kT := kT) (kX := kX) (kC := kC) (kF := m) G (R.keep h) F
  have GG := Bx.mk G
  have m60 := G.m60
  clear G R
  have hB := below_alloc (below_alloc (Below.refl w.heap.size w) (.cells #[.int .i64 m, .slice (some ⟨bT, oT, none⟩) n kT, .slice (some ⟨bX, oX, none⟩) n kX, .slice (some ⟨bC, oC, none⟩) n kC] 25)) (.cells #[.slice none 0 0, .int .i64 0, .slice none 0 0] 42)
  have hbox := (box_new w #[.int .i64 m, .slice (some ⟨bT, oT, none⟩) n kT, .slice (some ⟨bX, oX, none⟩) n kX, .slice (some ⟨bC, oC, none⟩) n kC] 25).keep (below_alloc (Below.refl _ _) (.cells #[.slice none 0 0, .int .i64 0, .slice none 0 0] 42))
  have hres := box_new (w.alloc (.cells #[.int .i64 m, .slice (some ⟨bT, oT, none⟩) n kT, .slice (some ⟨bX, oX, none⟩) n kX, .slice (some ⟨bC, oC, none⟩) n kC] 25)) #[.slice none 0 0, .int .i64 0, .slice none 0 0] 42
  rw [World.size_alloc] at hres
  have hws : w.heap.size < w.heap.size + 1 := Nat.lt_succ_self _
  go_enter Try.func16, Try.ntmps16
  go_upto_region 1 with fail
  generalize (w.alloc _).alloc _ = wa at hB hbox hres ⊢
  generalize w.heap.size + 1 = b6 at hres hws ⊢
  generalize hb0 : w.heap.size = b at hbox hws ⊢
  have HK := Bx.mk (fun W (h : Below wa.heap.size wa W) => (⟨(hbox.keep h).cell 0, (hbox.keep h).cell 1, (hbox.keep h).cell 2, (hbox.keep h).cell 3⟩ : W.cell? ⟨b, 0, none⟩ = some (.int .i64 m) ∧ W.cell? ⟨b, 1, none⟩ = some (.slice (some ⟨bT, oT, none⟩) n kT) ∧ W.cell? ⟨b, 2, none⟩ = some (.slice (some ⟨bX, oX, none⟩) n kX) ∧ W.cell? ⟨b, 3, none⟩ = some (.slice (some ⟨bC, oC, none⟩) n kC)))
  have HBW := Bx.mk (fun W (h : Below wa.heap.size wa W) => below_below hB h)
  have HRS := Bx.mk (fun W (h : Below wa.heap.size wa W) => hres.keep h)
  have hb6 := hres.lt
  clear hbox hres
  obtain ⟨k0, k1, k2, k3⟩ := HK.out wa (Below.refl _ _)
  have S1 := MO _ (HBW.out _ (Below.refl _ _))
  go_upto_region 4 with (go_at_call 15; refine S1.mono ?_; rintro e w2 ⟨gF, f, rfl, oF, MI, B2⟩)
  clear S1 MO k0 k1 k2 k3
  have MIB := Bx.mk MI
  have MD := (MI.flow GG.out hs0 hs1 ht0 ht1 hst).mid GG.out
  have rF := oF.at'
  have oIN := Bx.mk (show inOf T C f m n s t = notL (mk1 (bEnd T (okS T (mk1 (byOf T C f m n s)) t) m n t).by_) from rfl)
  have oBY := Bx.mk (show (bEnd T (okR C f) m n s).by_ = byOf T C f m n s from rfl)
  have RE2 := fun W (h : Below w2.heap.size w2 W) => RE W (HBW.out _ (below_below B2 h)) gF f (rF.keep h) MD
  have PI2 := fun W (h : Below w2.heap.size w2 W) (gR : Nat) (inb : List Bool) (F : BRowAt W gR 0 m inb) => PI W (HBW.out _ (below_below B2 h)) gR inb F
  have HKW := Bx.mk (fun W (h : Below w2.heap.size w2 W) => (⟨h, HK.out W (below_below B2 h)⟩ : Below w2.heap.size w2 W ∧ W.cell? ⟨b, 0, none⟩ = some (.int .i64 m) ∧ W.cell? ⟨b, 1, none⟩ = some (.slice (some ⟨bT, oT, none⟩) n kT) ∧ W.cell? ⟨b, 2, none⟩ = some (.slice (some ⟨bX, oX, none⟩) n kX) ∧ W.cell? ⟨b, 3, none⟩ = some (.slice (some ⟨bC, oC, none⟩) n kC)))
  rw [oBY.out] at RE2
  obtain ⟨D, hD⟩ : ∃ D, mk1 (byOf T C f m n s) = D := ⟨_, rfl⟩
  rw [hD] at RE2 oIN
  clear hD MI oF RE PI
  have PI3 := fun W h gR F => PI2 W h gR D F
  obtain ⟨E, hE⟩ : ∃ E, mk1 (bEnd T (okS T D t) m n t).by_ = E := ⟨_, rfl⟩
  rw [hE] at PI3 oIN
  clear hE PI2
  go_region_held_law (fun W => Below w2.heap.size w2 W ∧ W.cell? ⟨b, 0, none⟩ = some (.int .i64 m) ∧ W.cell? ⟨b, 1, none⟩ = some (.slice (some ⟨bT, oT, none⟩) n kT) ∧ W.cell? ⟨b, 2, none⟩ = some (.slice (some ⟨bX, oX, none⟩) n kX) ∧ W.cell? ⟨b, 3, none⟩ = some (.slice (some ⟨bC, oC, none⟩) n kC))
    (first | assumption | exact HKW.out _ (Below.drew (Below.refl _ _)) | exact HKW.out _ B5 | exact HKW.out _ B7)
    (first
      | (go_at_call 37; (with_reducible refine (RE2 _ (And.left ‹_ ∧ _›)).mono ?_); rintro e W5 ⟨g5, rfl, o5, B5'⟩; have B5 := below_below (And.left ‹_ ∧ _›) B5')
      | (go_at_call 36; (with_reducible refine (PI3 _ B5 _ o5.at').mono ?_); rintro e W7 ⟨g7, rfl, o7, B7'⟩; have B7 := below_below B5 B7'))
  have B8 := below_below B2 B7
  have o8 := o7.low3 (B' := wa.heap.size) (below_below B2 B5).size
  clear B7 B7' B5 B5' o7 o5 RE2 PI3 HKW B2
  go_wp2
  have EL := Bx.mk o8.1
  have hg7 : wa.heap.size ≤ g7 := o8.rng.1
  go_loopg [36] (m + 1) (fun q y wr => ∃ j : Nat, y = .int .i64 j ∧ q = m + 1 - j ∧ j ≤ m ∧ (∃ D', BOwnN wr wa.heap.size g7 m m D' ∧ Bx (∀ v : Int, 0 ≤ v → v < m → rb D' v = if v < j then !(rb E v) else rb E v)) ∧ Below wa.heap.size wa wr)
  case atStart => exact ⟨0, rfl, by omega, by omega, ⟨E, o8, ⟨fun v h0 h1 => by rw [if_neg (by omega)]⟩⟩, B8⟩
  case round =>
    clear o8 B8
    obtain ⟨j, rfl, hq, hj, ⟨D', o8, HD⟩, BW⟩ := hrel
    by_cases hjm : j < m
    · have hjI : (j : Int) < m := by omega
      have c1 := o8.cell j (by omega) hjI
      have f1 := o8.fz j
      have hv := HD.out j (by omega) hjI
      rw [if_neg (by omega)] at hv
      have o9 := o8.set j (!(rb E j))
      have B9 := below_set BW (p := ⟨g7, (j : Int).toNat, none⟩) hg7 (.bool (!(rb E j)))
      have H2 := Bx.mk (show ∀ v : Int, 0 ≤ v → v < m → rb (sb D' j (!(rb E j))) v = if v < ((j + 1 : Nat) : Int) then !(rb E v) else rb E v from fun v v0 v1 => by
        rw [rb_sb _ _ _ _ (by omega) (by rw [o8.1]; exact hjI) v0]
        by_cases e : v = j
        · rw [if_pos e, if_pos (by omega), e]
        · rw [if_neg e, HD.out v v0 v1]
          by_cases e2 : v < j
          · rw [if_pos e2, if_pos (by omega)]
          · rw [if_neg e2, if_neg (by omega)])
      rw [hv] at c1
      rw [Int.toNat_natCast] at c1 f1 o9 B9
      obtain ⟨x, hx⟩ : ∃ x, rb E j = x := ⟨_, rfl⟩
      rw [hx] at c1 o9 B9 H2
      clear hx hv o8 BW HD
      cases x
      all_goals
        go_wp2
        go_roundg (m + 1 - (j + 1))
        case rel => exact ⟨j + 1, rfl, rfl, by omega, ⟨_, o9, H2⟩, B9⟩
        case measure => omega
    · have hjI : ¬ (j : Int) < m := by omega
      obtain rfl : m = j := by omega
      have hD' : D' = inOf T C f m n s t := by
        rw [oIN.out]
        exact brows_ext (by rw [o8.1, notL_length, EL.out]) (fun v v0 v1 => by
          rw [o8.1] at v1
          rw [HD.out v v0 v1, if_pos v1, rb_notL v0 (by rw [EL.out]; exact v1)])
      rw [hD'] at o8
      clear hD' HD
      obtain ⟨I, hI⟩ : ∃ I, inOf T C f m n s t = I := ⟨_, rfl⟩
      rw [hI] at o8
      have IB := Bx.mk hI
      clear hI
      have S1 := CY _ (HBW.out _ BW) g7 I o8.at'
      obtain ⟨k0, k1, k2, k3⟩ := HK.out _ BW
      go_wp2_with fail
      refine S1.mono ?_
      rintro e w5 ⟨v5, rfl, o5, B5⟩
      have BW5 := below_below BW B5
      have o9 := o8.keep B5
      have o10 := o5.low (show wa.heap.size ≤ wr.heap.size from BW.size)
      clear S1 CY k0 k1 k2 k3 BW B5 o8 o5
      have S1 := SU _ (HBW.out _ BW5) g7 I o9.at'
      obtain ⟨k0, k1, k2, k3⟩ := HK.out _ BW5
      have r6 := (HRS.out _ BW5)
      have r60 : w5.cell? ⟨b6, 0, none⟩ = some (.slice none 0 0) := r6.cell 0
      have r61 : w5.cell? ⟨b6, 1, none⟩ = some (.int .i64 0) := r6.cell 1
      have r62 : w5.cell? ⟨b6, 2, none⟩ = some (.slice none 0 0) := r6.cell 2
      obtain ⟨a5, c5, rfl, _⟩ := o10.row
      obtain ⟨l5, hl5⟩ : ∃ l5, (if cycB T I m n = true then cycL (facesOf X) (outL T I n) (outL T I n).length else []).length = l5 := ⟨_, rfl⟩
      rw [hl5] at o10 ⊢
      have HL5 := Bx.mk hl5
      clear hl5
      have O10 := Bx.mk o10
      clear o10
      go_wp2_with fail
      refine S1.mono ?_
      rintro e w6 ⟨rfl, B6⟩
      have BW6 := below_below BW5 B6
      have rz := HRS.out _ BW6
      have k10 := O10.out.keep B6
      have k9 := o9.keep B6
      clear S1 SU k0 k1 k2 k3 r6 r60 r61 r62 B6 BW5 o9 O10
      go_wp2_with (refine store3 (by rfl) (by rfl) (.tmp 6) (.tmp 59) (by rfl) b6 (by rfl) (cutSum T C I n) (some ⟨g7, 0, none⟩) a5 m m l5 c5 (by rfl) _ _ _ 42 rz ?_; intro w1 hb1 hg1)
      have d0 : w1.cell? ⟨b6, 0, none⟩ = some (.slice (some ⟨g7, 0, none⟩) m m) := hb1.cell 0
      have d1 : w1.cell? ⟨b6, 1, none⟩ = some (.int .i64 (cutSum T C I n)) := hb1.cell 1
      have d2 : w1.cell? ⟨b6, 2, none⟩ = some (.slice a5 l5 c5) := hb1.cell 2
      try simp only [Exit.inBlock, Exit.then]
      refine bodyPost_ret (v := .tuple #[.agg #[.slice (some ⟨g7, 0, none⟩) m m, .int .i64 (cutSum T C I n), .slice a5 l5 c5], .int .i64 0]) (by simp [results, Try.results16, go_sem, d0, d1, d2]) rfl ?_
      have j9 := (k9.grown hg1 (by simp; omega)).low3 (B' := w.heap.size) hB.size
      have j10 := (k10.grown hg1 hb6).low (show w.heap.size ≤ wa.heap.size from hB.size)
      have jB := below_grown (HBW.out _ BW6) hg1 (fun k hk => by injection hk with hk; omega)
      rw [← IB.out] at j9 j10 ⊢
      exact ⟨f, g7, _, rfl, MIB.out, j9, j10, jB⟩
end
end Go.Proofs.Ytidcofjadlfahaa
