/- The walks of Reach, Value, out, Sum. -/
import Derived.Test.YtidcofjadlfahaaU9
import Derived.Test.YtidcofjadlfahaaSl
set_option linter.unusedVariables false
set_option linter.unusedSimpArgs false
namespace Go.Proofs.Ytidcofjadlfahaa
open Go.RowKit

theorem brows_ext {xs ys : List Bool} (hl : xs.length = ys.length) (h : ∀ i : Int, 0 ≤ i → i < xs.length → rb xs i = rb ys i) : xs = ys := by
  apply List.ext_getElem hl
  intro i h1 h2
  have := h i (by omega) (by omega)
  unfold rb at this
  rw [Int.toNat_natCast, List.getD_eq_getElem?_getD, List.getD_eq_getElem?_getD, List.getElem?_eq_getElem h1, List.getElem?_eq_getElem h2] at this
  exact this
/-- What runs out of a vertex. -/
def valF (T f : List Int) (s : Int) : Nat → Int
  | 0 => 0
  | j + 1 => if rd T j = s then valF T f s j + rd f j else valF T f s j
theorem valF_bound {T f : List Int} {s : Int} {n : Nat} (M : Mid n f) : ∀ j, j ≤ n → -(1099511627776 * (j : Int)) ≤ valF T f s j ∧ valF T f s j ≤ 1099511627776 * (j : Int)
  | 0, _ => by simp [valF]
  | j + 1, h => by
    have ih := valF_bound (T := T) (s := s) M j (by omega)
    have := M j (by omega) (by omega)
    rw [valF]
    split <;> omega
/-- The darts that run out. -/
def outL (T : List Int) (inb : List Bool) : Nat → List Int
  | 0 => []
  | j + 1 => if rb inb (rd T j) = true ∧ rb inb (rd T (ot j)) = false then outL T inb j ++ [(j : Int)] else outL T inb j
theorem outL_len (T : List Int) (inb : List Bool) : ∀ j, (outL T inb j).length ≤ j
  | 0 => by simp [outL]
  | j + 1 => by
    have := outL_len T inb j
    rw [outL]
    split
    · simp; omega
    · omega
theorem outL_mem {T : List Int} {inb : List Bool} {d : Int} : ∀ {j : Nat}, d ∈ outL T inb j ↔ 0 ≤ d ∧ d < j ∧ rb inb (rd T d) = true ∧ rb inb (rd T (ot d)) = false
  | 0 => by simp [outL]; omega
  | j + 1 => by
    have ih := outL_mem (T := T) (inb := inb) (d := d) (j := j)
    rw [outL]
    split
    · rename_i h
      rw [List.mem_append, ih, List.mem_singleton]
      constructor
      · rintro (k | rfl)
        · exact ⟨k.1, by omega, k.2.2⟩
        · exact ⟨by omega, by omega, h⟩
      · rintro ⟨a, b, c⟩
        by_cases e : d = j
        · exact .inr e
        · exact .inl ⟨a, by omega, c⟩
    · rename_i h
      rw [ih]
      constructor
      · rintro k
        exact ⟨k.1, by omega, k.2.2⟩
      · rintro ⟨a, b, c⟩
        by_cases e : d = j
        · subst e; exact absurd c h
        · exact ⟨a, by omega, c⟩
/-- What a row of darts holds. -/
def sumC (C : List Int) : List Int → Int
  | [] => 0
  | d :: l => rd C d + sumC C l
def sumTo (C L : List Int) (j : Nat) : Int := sumC C (L.take j)
theorem sumC_app (C : List Int) : ∀ l k : List Int, sumC C (l ++ k) = sumC C l + sumC C k
  | [], k => by simp [sumC]
  | d :: l, k => by rw [List.cons_append, sumC, sumC, sumC_app C l k]; omega
theorem sumTo_next (C L : List Int) (j : Nat) (h : j < L.length) : sumTo C L (j + 1) = sumTo C L j + rd C (rd L j) := by
  unfold sumTo
  have e : rd L j = L[j] := by simp [rd, List.getD_eq_getElem?_getD, List.getElem?_eq_getElem h]
  rw [List.take_add_one, List.getElem?_eq_getElem h, sumC_app, e]
  simp [sumC]
theorem sumTo_bound {C L : List Int} {n : Nat} (hL : ∀ d, d ∈ L → 0 ≤ rd C d ∧ rd C d ≤ 2147483648) : ∀ j, j ≤ L.length → 0 ≤ sumTo C L j ∧ sumTo C L j ≤ 2147483648 * (j : Int)
  | 0, _ => by simp [sumTo, sumC]
  | j + 1, h => by
    have ih := sumTo_bound (n := n) hL j (by omega)
    have := hL (rd L j) (rd_mem (by omega) (by omega))
    rw [sumTo_next _ _ _ (by omega)]
    omega
section
variable {m n bT oT bX oX bC oC kT kX kC : Nat} {T X C : List Int} {w : World} {bF oF kF : Nat} {f : List Int} {inb : List Bool}
set_option maxHeartbeats 1600000 in
theorem value_any (G : Good m n T X C) (R : Rows3 w n bT oT bX oX bC oC T X C) (F : RowAt w bF oF n f) (M : Mid n f) (s : Int) :
    Calls Try.prog 11 #[(.agg #[.int .i64 m, .slice (some ⟨bT, oT, none⟩) n kT, .slice (some ⟨bX, oX, none⟩) n kX, .slice (some ⟨bC, oC, none⟩) n kC]), .int .i64 s, .slice (some ⟨bF, oF, none⟩) n kF] w fun e w' => e = .returned (.int .i64 (valF T f s n)) ∧ Below w.heap.size w w' := by
  have GG := Bx.mk G
  have RR := Bx.mk R
  have FF := Bx.mk F
  have VB := Bx.mk (fun j hj => valF_bound (T := T) (s := s) M j hj)
  have MM := Bx.mk M
  have n240 := G.n240
  clear G R F M
  have hB := below_alloc (Below.refl w.heap.size w) (.cells #[.int .i64 m, .slice (some ⟨bT, oT, none⟩) n kT, .slice (some ⟨bX, oX, none⟩) n kX, .slice (some ⟨bC, oC, none⟩) n kC] 25)
  have hbox := box_new w #[.int .i64 m, .slice (some ⟨bT, oT, none⟩) n kT, .slice (some ⟨bX, oX, none⟩) n kX, .slice (some ⟨bC, oC, none⟩) n kC] 25
  go_enter Try.func11, Try.ntmps11
  go_upto_region 1 with fail
  generalize w.alloc _ = wa at hB hbox ⊢
  generalize w.heap.size = b at hbox ⊢
  have HK := Bx.mk (fun W (h : Below wa.heap.size wa W) => (⟨(hbox.keep h).cell 0, (hbox.keep h).cell 1, (hbox.keep h).cell 2, (hbox.keep h).cell 3⟩ : W.cell? ⟨b, 0, none⟩ = some (.int .i64 m) ∧ W.cell? ⟨b, 1, none⟩ = some (.slice (some ⟨bT, oT, none⟩) n kT) ∧ W.cell? ⟨b, 2, none⟩ = some (.slice (some ⟨bX, oX, none⟩) n kX) ∧ W.cell? ⟨b, 3, none⟩ = some (.slice (some ⟨bC, oC, none⟩) n kC)))
  have HBX := Bx.mk hbox
  have HBW := Bx.mk (fun W (h : Below wa.heap.size wa W) => below_below hB h)
  clear hbox
  obtain ⟨k0, k1, k2, k3⟩ := HK.out wa (Below.refl _ _)
  go_wp2
  go_loopg [7, 13] (n + 1) (fun q y7 y13 wr => ∃ j : Nat, y7 = .int .i64 (valF T f s j) ∧ y13 = .int .i64 j ∧ q = n + 1 - j ∧ j ≤ n ∧ wr = wa)
  case atStart => exact ⟨0, rfl, rfl, by omega, by omega, rfl⟩
  case round =>
    obtain ⟨j, rfl, rfl, hq, hj, rfl⟩ := hrel
    have NX := Bx.mk (show valF T f s (j + 1) = if rd T j = s then valF T f s j + rd f j else valF T f s j from rfl)
    have vb := VB.out j hj
    obtain ⟨z, hz⟩ : ∃ z, valF T f s j = z := ⟨_, rfl⟩
    rw [hz] at NX vb ⊢
    by_cases hjn : j < n
    · have hjI : (j : Int) < n := by omega
      have ct := (RR.out.keep (HBW.out _ (Below.refl _ _))).T.get j (by omega) hjI
      have cf := (FF.out.keep (HBW.out _ (Below.refl _ _))).get j (by omega) hjI
      have fb := MM.out j (by omega) hjI
      rw [Int.toNat_natCast] at ct cf
      obtain ⟨t, ht⟩ : ∃ t, rd T j = t := ⟨_, rfl⟩
      obtain ⟨y, hy⟩ : ∃ y, rd f j = y := ⟨_, rfl⟩
      rw [ht] at ct NX
      rw [hy] at cf fb NX
      clear ht hy hz
      have y1 : IntKind.i64.wrap (z + y) = z + y := IntWalk.i64_in _ (by omega)
      by_cases c : t = s
      · have e1 : (t == s) = true := by simpa using c
        have N2 := Bx.mk (NX.out.trans (if_pos c))
        clear c NX
        go_wp2
        go_roundg (n + 1 - (j + 1))
        case rel => exact ⟨j + 1, by rw [N2.out], rfl, rfl, by omega, rfl⟩
        case measure => omega
      · have e1 : (t == s) = false := by simpa using c
        have N2 := Bx.mk (NX.out.trans (if_neg c))
        clear c NX
        go_wp2
        go_roundg (n + 1 - (j + 1))
        case rel => exact ⟨j + 1, by rw [N2.out], rfl, rfl, by omega, rfl⟩
        case measure => omega
    · have hjI : ¬ (j : Int) < n := by omega
      obtain rfl : n = j := by omega
      have ZB := Bx.mk hz
      have BF := Bx.mk (HBW.out _ (Below.refl _ _))
      clear hz NX
      go_wp2
      go_ret
      exact ⟨by rw [ZB.out]; rfl, BF.out⟩
set_option maxHeartbeats 1600000 in
theorem reach_any (G : Good m n T X C) (R : Rows3 w n bT oT bX oX bC oC T X C) (F : RowAt w bF oF n f) (M : Mid n f) (s : Int) (hs0 : 0 ≤ s) (hs1 : s < m) :
    Calls Try.prog 37 #[(.agg #[.int .i64 m, .slice (some ⟨bT, oT, none⟩) n kT, .slice (some ⟨bX, oX, none⟩) n kX, .slice (some ⟨bC, oC, none⟩) n kC]), .int .i64 s, .slice (some ⟨bF, oF, none⟩) n kF] w fun e w' => ∃ g, e = .returned (.slice (some ⟨g, 0, none⟩) m m) ∧ BOwnN w' w.heap.size g m m (mk1 (bEnd T (okR C f) m n s).by_) ∧ Below w.heap.size w w' := by
  have FI := fun W (h : Below w.heap.size w W) => find_any (kT := kT) (kX := kX) (kC := kC) (kF := kF) G (R.keep h) (F.keep h) M s hs0 hs1
  have BL := Bx.mk (show (bEnd T (okR C f) m n s).by_.length = m from (bEnd_found G.ev G.t hs0 hs1).lb)
  have m1 := G.m1
  have m60 := G.m60
  clear G R F M
  obtain ⟨D, hD⟩ : ∃ D, (bEnd T (okR C f) m n s).by_ = D := ⟨_, rfl⟩
  rw [hD] at FI BL ⊢
  clear hD
  have hB := below_alloc (Below.refl w.heap.size w) (.cells #[.int .i64 m, .slice (some ⟨bT, oT, none⟩) n kT, .slice (some ⟨bX, oX, none⟩) n kX, .slice (some ⟨bC, oC, none⟩) n kC] 25)
  have hbox := box_new w #[.int .i64 m, .slice (some ⟨bT, oT, none⟩) n kT, .slice (some ⟨bX, oX, none⟩) n kX, .slice (some ⟨bC, oC, none⟩) n kC] 25
  go_enter Try.func37, Try.ntmps37
  go_upto_region 1 with fail
  generalize w.alloc _ = wa at hB hbox ⊢
  generalize w.heap.size = b at hbox ⊢
  have HK := Bx.mk (fun W (h : Below wa.heap.size wa W) => (⟨(hbox.keep h).cell 0, (hbox.keep h).cell 1, (hbox.keep h).cell 2, (hbox.keep h).cell 3⟩ : W.cell? ⟨b, 0, none⟩ = some (.int .i64 m) ∧ W.cell? ⟨b, 1, none⟩ = some (.slice (some ⟨bT, oT, none⟩) n kT) ∧ W.cell? ⟨b, 2, none⟩ = some (.slice (some ⟨bX, oX, none⟩) n kX) ∧ W.cell? ⟨b, 3, none⟩ = some (.slice (some ⟨bC, oC, none⟩) n kC)))
  have HBX := Bx.mk hbox
  have HBW := Bx.mk (fun W (h : Below wa.heap.size wa W) => below_below hB h)
  clear hbox
  obtain ⟨k0, k1, k2, k3⟩ := HK.out wa (Below.refl _ _)
  have S1 := FI _ hB
  go_wp2_with fail
  refine S1.mono ?_
  rintro e w2 ⟨g2, rfl, o2, B2⟩
  clear S1 FI k0 k1 k2 k3
  have hmk : ∀ w : World, (Instr.makeSlice 31 (.int .i64 m) (.int .i64 m)).run Try.prog w = .ok (.slice (some ⟨w.heap.size, 0, none⟩) m m) (w.alloc (.cells (madeCells #[.bool false] m) 4)) :=
    run_make_row' (P := Try.prog) 31 4 (.bool false) 1 Try.underlying31 info4 rfl .i64 .i64 m (by omega) (by omega)
  have o1 := bown_made w2 wa.heap.size m B2.size (by omega)
  have B1 := below_alloc B2 (.cells (madeCells #[.bool false] m) 4)
  have o3 := o2.keep (below_alloc (Below.refl _ _) (.cells (madeCells #[.bool false] m) 4))
  have hne : w2.heap.size ≠ g2 := by have := o2.rng.2; omega
  obtain ⟨gB, hgB⟩ : ∃ gB, w2.heap.size = gB := ⟨_, rfl⟩
  have hgl : wa.heap.size ≤ gB := by have := B2.size; omega
  rw [hgB] at hne
  rw [show BOwnN (w2.alloc (.cells (madeCells #[.bool false] m) 4)) wa.heap.size w2.heap.size m m (List.replicate m false) = BOwnN (w2.alloc (.cells (madeCells #[.bool false] m) 4)) wa.heap.size gB m m (List.replicate m false) from by rw [hgB]] at o1
  go_upto_region 3 with fail
  generalize w2.alloc _ = wb at o1 B1 o3 ⊢
  clear hmk hgB o2 B2
  go_wp2
  go_loopg [20] (m + 1) (fun q y wr => ∃ j : Nat, y = .int .i64 j ∧ q = m + 1 - j ∧ j ≤ m ∧ OwnN wr wa.heap.size g2 m m D ∧ (∃ E, BOwnN wr wa.heap.size gB m m E ∧ Bx (∀ v : Int, 0 ≤ v → v < j → rb E v = decide (0 ≤ rd D v))) ∧ Below wa.heap.size wa wr)
  case atStart => exact ⟨0, rfl, by omega, by omega, o3, ⟨_, o1, ⟨fun v h0 h1 => by omega⟩⟩, B1⟩
  case round =>
    clear o1 B1 o3
    obtain ⟨j, rfl, hq, hj, oD, ⟨E, oE, HE⟩, BW⟩ := hrel
    by_cases hjm : j < m
    · have hjI : (j : Int) < m := by omega
      have c1 := oD.cell j (by omega) hjI
      have c2 := oE.cell j (by omega) hjI
      have f2 := oE.fz j
      have o5 := oE.set j (decide (rd D j ≥ 0))
      have o6 := oD.far (p := ⟨gB, (j : Int).toNat, none⟩) hne (.bool (decide (rd D j ≥ 0)))
      have B5 := below_set BW (p := ⟨gB, (j : Int).toNat, none⟩) hgl (.bool (decide (rd D j ≥ 0)))
      have HE2 := Bx.mk (show ∀ v : Int, 0 ≤ v → v < ((j + 1 : Nat) : Int) → rb (sb E j (decide (rd D j ≥ 0))) v = decide (0 ≤ rd D v) from fun v v0 v1 => by
        rw [rb_sb _ _ _ _ (by omega) (by rw [oE.1]; exact hjI) v0]
        by_cases e : v = j
        · rw [if_pos e, e]
        · rw [if_neg e]; exact HE.out v v0 (by omega))
      rw [Int.toNat_natCast] at c1 c2 f2 o6 B5 o5
      obtain ⟨x, hx⟩ : ∃ x, rd D j = x := ⟨_, rfl⟩
      rw [hx] at c1 o5 o6 B5 HE2
      clear hx oD oE BW HE
      go_wp2
      go_roundg (m + 1 - (j + 1))
      case rel => exact ⟨j + 1, rfl, rfl, by omega, o6, ⟨_, o5, HE2⟩, B5⟩
      case measure => omega
    · have hjI : ¬ (j : Int) < m := by omega
      obtain rfl : m = j := by omega
      have hE : E = mk1 D := brows_ext (by rw [oE.1, mk1_length, BL.out]) (fun v v0 v1 => by
        rw [oE.1] at v1
        rw [HE.out v v0 v1, rb_mk1 v0 (by rw [BL.out]; exact v1)])
      rw [hE] at oE
      have OE := Bx.mk (oE.low3 (B' := w.heap.size) (by have := hB.size; omega))
      have BF := Bx.mk (HBW.out _ BW)
      clear oE hE HE oD
      go_wp2
      go_ret
      exact ⟨gB, rfl, OE.out, BF.out⟩
end
end Go.Proofs.Ytidcofjadlfahaa
