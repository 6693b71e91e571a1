/- The walk of TreeKnown. -/
import Derived.Test.YtjeddcijefnbfaaKc
set_option linter.unusedVariables false
set_option linter.unusedSimpArgs false
namespace Go.Proofs.Ytjeddcijefnbfaa
open Go.RowKit

theorem own_heap {w : World} {B g n : Nat} (h : w.heap[g]? = some (.cells (madeCells #[.int .i64 0] n) 3)) (hB : B ≤ g) (hn : n ≤ 1000) : OwnN w B g n n (List.replicate n 0) := by
  refine ⟨by simp, ⟨by simp [nums], .inr ⟨g, n, madeCells #[.int .i64 0] n, rfl, hB, h, Nat.le_refl _, by unfold maxLen; omega, by rw [size_madeCells]; omega, ?_⟩⟩⟩
  rw [toList_madeCells_one, show nums (List.replicate n 0) = List.replicate n (.int .i64 0) from by simp [nums]]
  exact List.take_of_length_le (by simp)
theorem heap_at {w : World} {o : Obj} {i : Nat} (h : i = w.heap.size) : (w.alloc o).heap[i]? = some o := by
  subst h
  show (w.heap.push o)[w.heap.size]? = _
  rw [Array.getElem?_push, if_pos rfl]
theorem heap_lo {w : World} {o : Obj} {i : Nat} {x : Option Obj} (h : i < w.heap.size) (k : w.heap[i]? = x) : (w.alloc o).heap[i]? = x := by
  rw [← k]
  show (w.heap.push o)[i]? = _
  rw [Array.getElem?_push, if_neg (by omega)]
section
variable (w : World) (o1 o2 o3 o4 : Obj)
theorem h4_3 : (((((w.alloc o1).alloc o2).alloc o3).alloc o4).drew).heap[w.heap.size + 1 + 1 + 1]? = some o4 := by
  show ((((w.alloc o1).alloc o2).alloc o3).alloc o4).heap[w.heap.size + 1 + 1 + 1]? = _
  exact heap_at (by simp only [World.size_alloc])
theorem h4_2 : (((((w.alloc o1).alloc o2).alloc o3).alloc o4).drew).heap[w.heap.size + 1 + 1]? = some o3 := by
  show ((((w.alloc o1).alloc o2).alloc o3).alloc o4).heap[w.heap.size + 1 + 1]? = _
  exact heap_lo (by simp only [World.size_alloc]; omega) (heap_at (by simp only [World.size_alloc]))
theorem h4_1 : (((((w.alloc o1).alloc o2).alloc o3).alloc o4).drew).heap[w.heap.size + 1]? = some o2 := by
  show ((((w.alloc o1).alloc o2).alloc o3).alloc o4).heap[w.heap.size + 1]? = _
  exact heap_lo (by simp only [World.size_alloc]; omega) (heap_lo (by simp only [World.size_alloc]; omega) (heap_at (by simp only [World.size_alloc])))
theorem h4_0 : (((((w.alloc o1).alloc o2).alloc o3).alloc o4).drew).heap[w.heap.size]? = some o1 := by
  show ((((w.alloc o1).alloc o2).alloc o3).alloc o4).heap[w.heap.size]? = _
  exact heap_lo (by simp only [World.size_alloc]; omega) (heap_lo (by simp only [World.size_alloc]; omega) (heap_lo (by simp only [World.size_alloc]; omega) (heap_at rfl)))
theorem b4 : Below w.heap.size w (((((w.alloc o1).alloc o2).alloc o3).alloc o4).drew) := Below.drew (below_alloc (below_alloc (below_alloc (below_alloc (Below.refl _ _) _) _) _) _)
end
def pmod (k : Nat) (z : Int) : Int := if z = 0 then (k : Int) - 1 else z - 1
theorem pmod_eq {k : Nat} {z : Int} (h0 : 0 ≤ z) (h1 : z < k) : (z + k - 1) % k = pmod k z := by
  unfold pmod
  split
  · rename_i h
    rw [h, show (0 : Int) + k - 1 = k - 1 from by omega, Int.emod_eq_of_lt (by omega) (by omega)]
  · rw [show z + (k : Int) - 1 = z - 1 + k from by omega, Int.add_emod_right, Int.emod_eq_of_lt (by omega) (by omega)]
theorem pmod_rng {k : Nat} {z : Int} (h0 : 0 ≤ z) (h1 : z < k) : 0 ≤ pmod k z ∧ pmod k z < k := by
  unfold pmod
  split <;> omega
theorem pmod_inj {k : Nat} {z y : Int} (h0 : 0 ≤ z) (h1 : z < k) (g0 : 0 ≤ y) (g1 : y < k) (h : z ≠ y) : pmod k z ≠ pmod k y := by
  unfold pmod
  split <;> split <;> omega
def farP (T U : List Int) (k : Nat) : Nat → Nat
  | 0 => 0
  | i + 1 => max (farP T U k i) (wayL T U k i).length
theorem farP_eq (k r : Nat) : farP (cT k) (spanL (cT k) k r) k k = farK k r := by
  have go : ∀ i, farP (cT k) (spanL (cT k) k r) k i = (List.range i).foldl (fun (m v : Nat) => max m (wayL (cT k) (spanL (cT k) k r) k v).length) 0 := by
    intro i
    induction i with
    | zero => rfl
    | succ i ih => rw [List.range_succ, List.foldl_append, ← ih]; rfl
  exact go k
/-- The new net in memory. -/
structure NewNet (w1 wx : World) (k n b gT gX gC : Nat) (s : Value) : Prop where
  ptr : s = .pointer (some ⟨b, 0, none⟩)
  box : wx.heap[b]? = some (.cells #[.int .i64 k, .slice (some ⟨gT, 0, none⟩) n n, .slice (some ⟨gX, 0, none⟩) n n, .slice (some ⟨gC, 0, none⟩) n n] 25)
  hT : wx.heap[gT]? = some (.cells (madeCells #[.int .i64 0] n) 3)
  hX : wx.heap[gX]? = some (.cells (madeCells #[.int .i64 0] n) 3)
  hC : wx.heap[gC]? = some (.cells (madeCells #[.int .i64 0] n) 3)
  ne : gT ≠ gX ∧ gT ≠ gC ∧ gX ≠ gC ∧ b ≠ gT ∧ b ≠ gX ∧ b ≠ gC
  ge : w1.heap.size ≤ gT ∧ w1.heap.size ≤ gX ∧ w1.heap.size ≤ gC ∧ w1.heap.size ≤ b
  bel : Below w1.heap.size w1 wx
set_option maxHeartbeats 12800000 in
set_option maxRecDepth 100000 in
theorem known_walk (size at0 : Int) (w : World) : Calls Try.prog 10 #[.int .i64 size, .int .i64 at0] w fun e w' => e = .returned (.bool true) ∧ Below w.heap.size w w' := by
  have hs := wi_rng size 9 (by omega)
  have WS := fun w => within4_any size 9 (by omega) (by omega) w
  obtain ⟨p, hp⟩ : ∃ p : Nat, wi size 9 = p := ⟨(wi size 9).toNat, by omega⟩
  rw [hp] at hs WS
  obtain ⟨k, hk⟩ : ∃ k, 3 + p = k := ⟨_, rfl⟩
  have y1 : IntKind.i64.wrap (3 + (p : Int)) = k := by rw [IntWalk.i64_in _ (by omega)]; omega
  have y1' : 3 + (p : Int) = k := by omega
  have h3 : 3 ≤ k := by omega
  have h11 : k ≤ 11 := by omega
  have R := round_k h3 h11
  obtain ⟨n, hn⟩ : ∃ n, 2 * k = n := ⟨_, rfl⟩
  have y2 : IntKind.i64.wrap (2 * (k : Int)) = n := by rw [IntWalk.i64_in _ (by omega)]; omega
  have y2' : 2 * (k : Int) = n := by omega
  have hmk : ∀ w : World, (Instr.makeSlice 22 (.int .i64 n) (.int .i64 n)).run Try.prog w = .ok (.slice (some ⟨w.heap.size, 0, none⟩) n n) (w.alloc (.cells (madeCells #[.int .i64 0] n) 3)) :=
    run_make_row' (P := Try.prog) 22 3 (.int .i64 0) 8 Try.underlying22 info3 rfl .i64 .i64 n (by omega) (by omega)
  have RR := Bx.mk R
  have HP := Bx.mk hp
  have HN := Bx.mk hn
  have HKP := Bx.mk hk
  clear R hp hn hk hs
  go_enter Try.func10, Try.ntmps10
  go_wp2_with fail
  refine (known_any _).mono ?_
  rintro e w1 ⟨rfl, hB1⟩
  go_wp2_with fail
  refine (WS _).mono ?_
  rintro e w' ⟨rfl, rfl⟩
  clear WS
  go_upto_region 4 with fail
  go_cut [6] from 21 to 31 (fun s wx => ∃ b gT gX gC : Nat, NewNet w1 wx k n b gT gX gC s)
  case first =>
    go_region
    all_goals
      go_step
      go_step
      go_meet
      case rel => exact ⟨_, _, _, _, ⟨rfl, (by first | with_reducible exact h4_0 _ _ _ _ _ | with_reducible exact h4_1 _ _ _ _ _ | with_reducible exact h4_2 _ _ _ _ _ | with_reducible exact h4_3 _ _ _ _ _), (by first | with_reducible exact h4_0 _ _ _ _ _ | with_reducible exact h4_1 _ _ _ _ _ | with_reducible exact h4_2 _ _ _ _ _ | with_reducible exact h4_3 _ _ _ _ _), (by first | with_reducible exact h4_0 _ _ _ _ _ | with_reducible exact h4_1 _ _ _ _ _ | with_reducible exact h4_2 _ _ _ _ _ | with_reducible exact h4_3 _ _ _ _ _), (by first | with_reducible exact h4_0 _ _ _ _ _ | with_reducible exact h4_1 _ _ _ _ _ | with_reducible exact h4_2 _ _ _ _ _ | with_reducible exact h4_3 _ _ _ _ _), by omega, by omega, b4 _ _ _ _ _⟩⟩
  case rest =>
    obtain ⟨b, gT, gX, gC, NN⟩ := hcut
    obtain ⟨rfl, box, hT, hX, hC, ne, ge, bel⟩ := NN
    have B0 := below_below hB1 bel
    have hbox : BoxN wc b #[.int .i64 k, .slice (some ⟨gT, 0, none⟩) n n, .slice (some ⟨gX, 0, none⟩) n n, .slice (some ⟨gC, 0, none⟩) n n] 25 := box
    have oT := own_heap (B := w1.heap.size) hT ge.1 (by omega)
    have oX := own_heap (B := w1.heap.size) hX ge.2.1 (by omega)
    have oC := own_heap (B := w1.heap.size) hC ge.2.2.1 (by omega)
    obtain ⟨n1, n2, n3, n4, n5, n6⟩ := ne
    obtain ⟨g1, g2, g3, g4⟩ := ge
    clear hmk y1 y1' y2 y2' box hT hX hC
    have BB := Bx.mk (fun W (h : Below w1.heap.size w1 W) => below_below hB1 h)
    clear hB1 B0
    have hk0 : ¬ (k : Int) = 0 := by omega
    have hn2 := HN.out
    go_wp2
    go_loopg [7] (k + 1) (fun q y wr => ∃ e : Nat, y = .int .i64 e ∧ q = k + 1 - e ∧ e ≤ k ∧ BoxN wr b #[.int .i64 k, .slice (some ⟨gT, 0, none⟩) n n, .slice (some ⟨gX, 0, none⟩) n n, .slice (some ⟨gC, 0, none⟩) n n] 25 ∧ (∃ D, OwnN wr w1.heap.size gT n n D ∧ Bx (∀ z : Int, 0 ≤ z → z < 2 * (e : Int) → rd D z = rd (cT k) z)) ∧ OwnN wr w1.heap.size gX n n (List.replicate n 0) ∧ OwnN wr w1.heap.size gC n n (List.replicate n 0) ∧ Below w1.heap.size w1 wr)
    case atStart => exact ⟨0, rfl, by omega, by omega, hbox, ⟨_, oT, ⟨fun z h0 h1 => by omega⟩⟩, oX, oC, bel⟩
    case round =>
      clear hbox oT oX oC bel
      obtain ⟨e, rfl, hq, he, hbox, ⟨D, oT, HD⟩, oX, oC, bel⟩ := hrel
      by_cases hek : e < k
      · have hE : (e : Int) < k := by omega
        have b1 := hbox.cell 1
        have b1d : wr.drew.cell? ⟨b, 1, none⟩ = some (.slice (some ⟨gT, 0, none⟩) n n) := b1
        have L := RR.out.laid e (by omega) hE
        have HDl := Bx.mk oT.1
        have tm : ((e : Int) + 1).tmod (k : Int) = ((e : Int) + 1) % k := Int.tmod_eq_emod_of_nonneg (by omega)
        have mr0 := Int.emod_nonneg ((e : Int) + 1) hk0
        have mr1 := Int.emod_lt_of_pos ((e : Int) + 1) (show (0 : Int) < k by omega)
        obtain ⟨m, hm⟩ : ∃ m, ((e : Int) + 1) % k = m := ⟨_, rfl⟩
        rw [hm] at L tm mr0 mr1
        have hd := oT.keep (Below.drew (Below.refl _ _))
        have c1d := hd.cell (2 * (e : Int)) (by omega) (by omega)
        have f1d := hd.fz (2 * (e : Int))
        have c2d := (oT.set (2 * (e : Int)) e).cell (2 * (e : Int) + 1) (by omega) (by omega)
        have f2d := (oT.set (2 * (e : Int)) e).fz (2 * (e : Int) + 1)
        have c2 := oT.cell (2 * (e : Int) + 1) (by omega) (by omega)
        have f2 := oT.fz (2 * (e : Int) + 1)
        have c1 := oT.cell (2 * (e : Int)) (by omega) (by omega)
        have f1 := oT.fz (2 * (e : Int))
        have t1 : (2 * (e : Int)).toNat = 2 * e := by omega
        have t2 : (2 * (e : Int) + 1).toNat = 2 * e + 1 := by omega
        have i0 : 2 * (e : Int) < n := by omega
        have i1 : 2 * (e : Int) + 1 < n := by omega
        have S2 := Bx.mk (((oT.set (2 * (e : Int)) e).set (2 * (e : Int) + 1) m).keep (Below.drew (Below.refl _ _)))
        have SX := Bx.mk (((oX.far (p := ⟨gT, 2 * e, none⟩) n1 (.int .i64 e)).far (p := ⟨gT, 2 * e + 1, none⟩) n1 (.int .i64 m)).keep (Below.drew (Below.refl _ _)))
        have SC := Bx.mk (((oC.far (p := ⟨gT, 2 * e, none⟩) n2 (.int .i64 e)).far (p := ⟨gT, 2 * e + 1, none⟩) n2 (.int .i64 m)).keep (Below.drew (Below.refl _ _)))
        have SB := Bx.mk (((hbox.far (p := ⟨gT, 2 * e, none⟩) (fun h => n4 h.symm) (.int .i64 e)).far (p := ⟨gT, 2 * e + 1, none⟩) (fun h => n4 h.symm) (.int .i64 m)).keep (Below.drew (Below.refl _ _)))
        have SW := Bx.mk ((below_set (below_set bel (p := ⟨gT, 2 * e, none⟩) g1 (.int .i64 e)) (p := ⟨gT, 2 * e + 1, none⟩) g1 (.int .i64 m)).drew)
        rw [t1] at c1d f1d c2d f2d S2 c1 f1
        rw [t2] at c2d f2d S2 c2 f2
        have NX := Bx.mk (show ∀ z : Int, 0 ≤ z → z < 2 * ((e + 1 : Nat) : Int) → rd (st (st D (2 * (e : Int)) e) (2 * (e : Int) + 1) m) z = rd (cT k) z from fun z h0 h1 => by
          rw [rd_st _ _ _ _ (by omega) (by rw [st_length, HDl.out]; omega) h0]
          by_cases z1 : z = 2 * (e : Int) + 1
          · rw [if_pos z1, z1]; exact L.2.1.symm
          · rw [if_neg z1, rd_st _ _ _ _ (by omega) (by rw [HDl.out]; omega) h0]
            by_cases z2 : z = 2 * (e : Int)
            · rw [if_pos z2, z2]; exact L.1.symm
            · rw [if_neg z2]; exact HD.out z h0 (by omega))
        clear L hd oT oX oC hbox bel HD hm hn2
        go_upto_region 8 with fail
        go_region
        clear c1 c2 f1 f2 c1d f1d c2d f2d b1 b1d
        have S2 := S2.out
        have SX := SX.out
        have SC := SC.out
        have SB := SB.out
        have SW := SW.out
        generalize (World.drew _) = w9 at S2 SX SC SB SW ⊢
        go_wp2
        go_roundg (k + 1 - (e + 1))
        case rel => exact ⟨e + 1, rfl, by omega, by omega, SB, ⟨_, S2, NX⟩, SX, SC, SW⟩
        case measure => omega
      · have hE : ¬ (e : Int) < k := by omega
        obtain rfl : e = k := by omega
        have hD : D = cT e := rows_ext (by rw [oT.1, RR.out.lT]; omega) (fun z h0 h1 => by rw [oT.1] at h1; exact HD.out z h0 (by omega))
        rw [hD] at oT
        clear hD HD hq he hek
        go_wp2
        go_loopg [8] (e + 1) (fun q y wr => ∃ v : Nat, y = .int .i64 v ∧ q = e + 1 - v ∧ v ≤ e ∧ BoxN wr b #[.int .i64 e, .slice (some ⟨gT, 0, none⟩) n n, .slice (some ⟨gX, 0, none⟩) n n, .slice (some ⟨gC, 0, none⟩) n n] 25 ∧ (∃ D, OwnN wr w1.heap.size gX n n D ∧ Bx (∀ z : Int, 0 ≤ z → z < v → rd D (2 * z) = rd (cX e) (2 * z) ∧ rd D (2 * pmod e z + 1) = rd (cX e) (2 * pmod e z + 1))) ∧ OwnN wr w1.heap.size gT n n (cT e) ∧ OwnN wr w1.heap.size gC n n (List.replicate n 0) ∧ Below w1.heap.size w1 wr)
        case atStart => exact ⟨0, rfl, by omega, by omega, hbox, ⟨_, oX, ⟨fun z h0 h1 => by omega⟩⟩, oT, oC, bel⟩
        case round =>
          clear hbox oT oX oC bel
          obtain ⟨v, rfl, hq, hv, hbox, ⟨D, oX, HD⟩, oT, oC, bel⟩ := hrel
          by_cases hvk : v < e
          · have hV : (v : Int) < e := by omega
            have b2 := hbox.cell 2
            have L := RR.out.laid v (by omega) hV
            have HDl := Bx.mk oX.1
            have tm : ((v : Int) + e - 1).tmod (e : Int) = ((v : Int) + e - 1) % e := Int.tmod_eq_emod_of_nonneg (by omega)
            have PM := pmod_eq (k := e) (z := v) (by omega) hV
            have PR := pmod_rng (k := e) (z := v) (by omega) hV
            rw [PM] at L tm
            obtain ⟨m, hm⟩ : ∃ m, pmod e v = m := ⟨_, rfl⟩
            have HM := Bx.mk hm
            rw [hm] at L tm PR
            have mr0 := PR.1
            have mr1 := PR.2
            have t1 : (2 * (v : Int)).toNat = 2 * v := by omega
            have t2 : (2 * m + 1).toNat = 2 * m.toNat + 1 := by omega
            have i0 : 2 * (v : Int) < n := by omega
            have i1 : 2 * m + 1 < n := by omega
            have i2 : 0 ≤ 2 * m + 1 := by omega
            clear L hm
            have L := Bx.mk (show rd (cX e) (2 * (v : Int)) = 2 * m + 1 ∧ rd (cX e) (2 * m + 1) = 2 * (v : Int) from by
              have := RR.out.laid v (by omega) hV
              rw [PM, HM.out] at this
              exact ⟨this.2.2.1, this.2.2.2⟩)
            clear PM PR
            go_upto_region 12 with fail
            go_quiet (fail)
            have hbox := hbox.keep (below_drewN (Below.refl _ _) nq)
            have oX := oX.keep (below_drewN (Below.refl _ _) nq)
            have oT := oT.keep (below_drewN (Below.refl _ _) nq)
            have oC := oC.keep (below_drewN (Below.refl _ _) nq)
            have bel := below_drewN bel nq
            clear b2
            generalize wr.drewN nq = wz at hbox oX oT oC bel ⊢
            have b2 := hbox.cell 2
            have b2d : wz.drew.cell? ⟨b, 2, none⟩ = some (.slice (some ⟨gX, 0, none⟩) n n) := b2
            have c1 := oX.cell (2 * (v : Int)) (by omega) i0
            have f1 := oX.fz (2 * (v : Int))
            have c2 := oX.cell (2 * m + 1) i2 i1
            have f2 := oX.fz (2 * m + 1)
            have c2d := (oX.set (2 * (v : Int)) (2 * m + 1)).cell (2 * m + 1) i2 i1
            have f2d := (oX.set (2 * (v : Int)) (2 * m + 1)).fz (2 * m + 1)
            have S2 := Bx.mk (((oX.set (2 * (v : Int)) (2 * m + 1)).set (2 * m + 1) (2 * (v : Int))).keep (Below.drew (Below.refl _ _)))
            have ST := Bx.mk (((oT.far (p := ⟨gX, 2 * v, none⟩) (fun h => n1 h.symm) (.int .i64 (2 * m + 1))).far (p := ⟨gX, 2 * m.toNat + 1, none⟩) (fun h => n1 h.symm) (.int .i64 (2 * (v : Int)))).keep (Below.drew (Below.refl _ _)))
            have SC := Bx.mk (((oC.far (p := ⟨gX, 2 * v, none⟩) n3 (.int .i64 (2 * m + 1))).far (p := ⟨gX, 2 * m.toNat + 1, none⟩) n3 (.int .i64 (2 * (v : Int)))).keep (Below.drew (Below.refl _ _)))
            have SB := Bx.mk (((hbox.far (p := ⟨gX, 2 * v, none⟩) (fun h => n5 h.symm) (.int .i64 (2 * m + 1))).far (p := ⟨gX, 2 * m.toNat + 1, none⟩) (fun h => n5 h.symm) (.int .i64 (2 * (v : Int)))).keep (Below.drew (Below.refl _ _)))
            have SW := Bx.mk ((below_set (below_set bel (p := ⟨gX, 2 * v, none⟩) g2 (.int .i64 (2 * m + 1))) (p := ⟨gX, 2 * m.toNat + 1, none⟩) g2 (.int .i64 (2 * (v : Int)))).drew)
            rw [t1] at c1 f1 c2d f2d S2
            rw [t2] at c2 f2 c2d f2d S2
            have NX := Bx.mk (show ∀ z : Int, 0 ≤ z → z < ((v + 1 : Nat) : Int) → rd (st (st D (2 * (v : Int)) (2 * m + 1)) (2 * m + 1) (2 * (v : Int))) (2 * z) = rd (cX e) (2 * z) ∧ rd (st (st D (2 * (v : Int)) (2 * m + 1)) (2 * m + 1) (2 * (v : Int))) (2 * pmod e z + 1) = rd (cX e) (2 * pmod e z + 1) from fun z h0 h1 => by
              have pz := pmod_rng (k := e) (z := z) h0 (by omega)
              rw [rd_st _ _ _ _ i2 (by rw [st_length, HDl.out]; exact i1) (by omega), if_neg (by omega), rd_st _ _ _ _ (by omega) (by rw [HDl.out]; exact i0) (by omega)]
              rw [rd_st _ _ _ _ i2 (by rw [st_length, HDl.out]; exact i1) (by omega), rd_st _ _ _ _ (by omega) (by rw [HDl.out]; exact i0) (by omega)]
              by_cases hz : z = v
              · subst hz
                rw [if_pos rfl, HM.out, if_pos rfl]
                exact ⟨L.out.1.symm, L.out.2.symm⟩
              · have := pmod_inj (k := e) (z := z) (y := v) h0 (by omega) (by omega) hV hz
                rw [HM.out] at this
                rw [if_neg (by omega), if_neg (by omega), if_neg (by omega)]
                exact HD.out z h0 (by omega))
            clear oT oX oC hbox bel HD HM L hn2
            go_upto_region 13 with fail
            go_region
            clear c1 c2 f1 f2 c2d f2d b2 b2d
            have S2 := S2.out
            have ST := ST.out
            have SC := SC.out
            have SB := SB.out
            have SW := SW.out
            generalize (World.drew _) = w9 at S2 ST SC SB SW ⊢
            go_wp2
            go_roundg (e + 1 - (v + 1))
            case rel => exact ⟨v + 1, rfl, by omega, by omega, SB, ⟨_, S2, NX⟩, ST, SC, SW⟩
            case measure => omega
          · have hV : ¬ (v : Int) < e := by omega
            obtain rfl : v = e := by omega
            have hD : D = cX v := rows_ext (by rw [oX.1, RR.out.lX]; omega) (fun z h0 h1 => by
              rw [oX.1] at h1
              by_cases hz : z % 2 = 0
              · have := (HD.out (z / 2) (by omega) (by omega)).1
                rwa [show 2 * (z / 2) = z from by omega] at this
              · have hu : (z / 2 + 1) % (v : Int) = if z / 2 + 1 = v then 0 else z / 2 + 1 := by
                  split
                  · rename_i h; rw [h, Int.emod_self]
                  · exact Int.emod_eq_of_lt (by omega) (by omega)
                have r0 : 0 ≤ (z / 2 + 1) % (v : Int) ∧ (z / 2 + 1) % (v : Int) < v := by rw [hu]; split <;> omega
                have := (HD.out ((z / 2 + 1) % (v : Int)) r0.1 r0.2).2
                have e3 : pmod v ((z / 2 + 1) % (v : Int)) = z / 2 := by
                  rw [hu]
                  unfold pmod
                  split <;> split <;> omega
                rwa [e3, show 2 * (z / 2) + 1 = z from by omega] at this)
            rw [hD] at oX
            clear hD HD hq hv hvk
            have hat := wi_rng at0 v (by omega)
            have WA := fun w => within4_any at0 v (by omega) (by omega) w
            generalize wi at0 v = r at hat WA
            have r0 := hat.1
            have r1 := hat.2
            have R := RR.out
            have hn2 : 2 * v = n := HN.out
            have lT : (cT v).length = n := by rw [R.lT]; exact hn2
            have lX : (cX v).length = n := by rw [R.lX]; exact hn2
            have ht : ∀ d : Int, 0 ≤ d → d < (cT v).length → 0 ≤ rd (cT v) d ∧ rd (cT v) d < v := fun d h0 h1 => R.t0 d h0 (by rw [lT] at h1; omega)
            have he : ((cT v).length : Int) % 2 = 0 := by rw [lT]; omega
            have YT := span_tree he ht r0 r1 (R.conn h3)
            have SP := fun (W : World) (hW : RowOf W (some ⟨gT, 0, none⟩) (cT v)) => span_any (w := W) (aX := some ⟨gX, 0, none⟩) (aC := some ⟨gC, 0, none⟩) (cT := n) (cX := n) (cC := n) (X := cX v) (C := cC v) hW he (by rw [lT]; omega) (by omega) ht r0 r1
            rw [lT, lX, cC_length, hn2] at SP
            have LC := left_count YT he ht
            have FK := farP_eq v r.toNat
            have FO := far_all ⟨v, by omega⟩ h3
            have FR : farK v r.toNat = v / 2 := by
              simp only [farOk, List.all_eq_true, List.mem_range, decide_eq_true_eq] at FO
              exact FO r.toNat (by omega)
            rw [FR, Int.toNat_of_nonneg r0] at FK
            obtain ⟨U, hU⟩ : ∃ U, spanL (cT v) v r = U := ⟨_, rfl⟩
            rw [hU] at YT SP LC FK
            have hUl := YT.len
            have UOK : UpOk (cT v) U U.length := fun z z0 z1 => by
              rw [hUl] at z1
              have := YT.ok z z0 z1
              by_cases hz : z = r
              · exact .inl (this.1 hz)
              · exact .inr ⟨(this.2 hz).1, (this.2 hz).2.1⟩
            have LF := fun (W : World) (c : Nat) (a : Option Addr) (hW : RowOf W a U) => left_any (w := W) (N := v) (aT := some ⟨gT, 0, none⟩) (aX := some ⟨gX, 0, none⟩) (aC := some ⟨gC, 0, none⟩) (cT := n) (cX := n) (cC := n) (cU := c) (T := cT v) (X := cX v) (C := cC v) hW he (by rw [lT]; omega) (by omega)
            rw [lT, lX, cC_length, hn2, hUl] at LF
            have hL1 : (leftL (cT v) U).length = 1 := by rw [lT] at LC; omega
            rw [← hn2] at SP LF
            have CK := fun (W : World) (h1 : RowOf W (some ⟨gT, 0, none⟩) (cT v)) (h2 : RowOf W (some ⟨gX, 0, none⟩) (cX v)) (h3' : RowOf W (some ⟨gC, 0, none⟩) (cC v)) => check_any (w := W) (kT := 2 * v) (kX := 2 * v) (kC := 2 * v) R h3 h11 h1 h2 h3'
            have WY := fun (W : World) (c : Nat) (a : Option Addr) (z : Int) (hW : RowOf W (some ⟨gT, 0, none⟩) (cT v)) (hW2 : RowOf W a U) (z0 : 0 ≤ z) (z1 : z < v) => way_any (w := W) (N := v) (aT := some ⟨gT, 0, none⟩) (aX := some ⟨gX, 0, none⟩) (aC := some ⟨gC, 0, none⟩) (cT := n) (cX := n) (cC := n) (cU := c) (T := cT v) (X := cX v) (C := cC v) (up := U) z hW hW2 he (by rw [lT]; omega) (by omega) (by rw [hUl]; exact ht) UOK z0 (by rw [hUl]; exact z1)
            rw [lT, lX, cC_length, hn2, hUl] at WY
            rw [hn2] at SP LF CK
            have RY := fun (W : World) (c : Nat) (a : Option Addr) (hW : RowOf W (some ⟨gT, 0, none⟩) (cT v)) (hW2 : RowOf W a U) => right_yes (w := W) (aX := some ⟨gX, 0, none⟩) (aC := some ⟨gC, 0, none⟩) (cT := n) (cX := n) (cC := n) (cU := c) (X := cX v) (C := cC v) hW hW2 he (by rw [lT]; omega) (by omega) (by omega) (by omega) ht YT
            rw [lT, lX, cC_length, hn2, hUl] at RY
            have rT := oT.row
            have rX := oX.row
            have rC := oC.row
            rw [show List.replicate n (0 : Int) = cC v from by unfold cC; rw [hn2]] at rC
            have b0 := hbox.cell 0
            have b1 := hbox.cell 1
            have b2 := hbox.cell 2
            have b3 := hbox.cell 3
            have HUL := Bx.mk hUl
            have HL1 := Bx.mk hL1
            have HFK := Bx.mk FK
            clear YT UOK LC FO FR FK hU lT lX ht he R hat oT oX oC hL1
            go_wp2_with fail
            refine (WA _).mono ?_
            rintro e w' ⟨rfl, rfl⟩
            clear WA
            go_wp2_with fail
            refine (SP _ rT).mono ?_
            rintro e w2 ⟨v2, rfl, o2, B2⟩
            obtain ⟨aU, cU, rfl, rU⟩ := o2.row
            rw [HUL.out]
            have hbox := hbox.keep B2
            have rT := rT.keep B2
            have rX := rX.keep B2
            have rC := rC.keep B2
            have bel := below_below bel B2
            clear SP B2 o2 b0 b1 b2 b3
            have b0 := hbox.cell 0
            have b1 := hbox.cell 1
            have b2 := hbox.cell 2
            have b3 := hbox.cell 3
            have LF := LF _ cU _ rU
            go_wp2_with fail
            refine LF.mono ?_
            rintro e w3 ⟨v3, rfl, o3, B3⟩
            obtain ⟨aL, cL, rfl, rL⟩ := o3.row
            rw [HL1.out]
            have hbox := hbox.keep B3
            have rT := rT.keep B3
            have rX := rX.keep B3
            have rC := rC.keep B3
            have rU := rU.keep B3
            have bel := below_below bel B3
            clear LF B3 o3 b0 b1 b2 b3 rL
            have b0 := hbox.cell 0
            have b1 := hbox.cell 1
            have b2 := hbox.cell 2
            have b3 := hbox.cell 3
            have CK := CK _ rT rX rC
            go_wp2_with fail
            refine CK.mono ?_
            rintro e w4 ⟨rfl, B4⟩
            have hbox := hbox.keep B4
            have rT := rT.keep B4
            have rU := rU.keep B4
            have bel := below_below bel B4
            clear CK B4 b0 b1 b2 b3 rX rC
            have e1 : ((v : Int) != (v : Int)) = false := by simp
            go_wp2
            go_loopg [14, 15] (v + 1) (fun q y z wr => ∃ j : Nat, z = .int .i64 j ∧ y = .int .i64 (farP (cT v) U v j) ∧ q = v + 1 - j ∧ j ≤ v ∧ Below w4.heap.size w4 wr)
            case atStart => exact ⟨0, rfl, rfl, by omega, by omega, Below.refl _ _⟩
            case round =>
              obtain ⟨j, rfl, rfl, hq, hj, BW⟩ := hrel
              have b0 := (hbox.keep BW).cell 0
              have b1 := (hbox.keep BW).cell 1
              have b2 := (hbox.keep BW).cell 2
              have b3 := (hbox.keep BW).cell 3
              by_cases hjv : j < v
              · have hJ : (j : Int) < v := by omega
                have W1 := WY wr cU aU j (rT.keep BW) (rU.keep BW) (by omega) hJ
                have NX := Bx.mk (show farP (cT v) U v (j + 1) = max (farP (cT v) U v j) (wayL (cT v) U v j).length from rfl)
                have NL := wayL_le (cT v) U v j
                obtain ⟨L, hL⟩ : ∃ L, wayL (cT v) U v j = L := ⟨_, rfl⟩
                rw [hL] at W1 NX NL
                obtain ⟨f, hf⟩ : ∃ f, farP (cT v) U v j = f := ⟨_, rfl⟩
                rw [hf] at NX ⊢
                clear hf hL
                go_wp2_with fail
                refine W1.mono ?_
                rintro e w5 ⟨v5, rfl, o5, B5⟩
                obtain ⟨aW, cW, rfl, _⟩ := o5.row
                have BW := below_below BW B5
                clear W1 B5 o5 b0 b1 b2 b3
                by_cases hmx : (f : Int) < L.length
                · have NX2 := Bx.mk (show farP (cT v) U v (j + 1) = L.length from by rw [NX.out]; omega)
                  have hmx2 : ¬ ((L.length : Int) ≤ f) := by omega
                  have hmx3 : (f : Int) ≤ L.length := by omega
                  clear NX
                  go_wp2
                  all_goals
                    go_roundg (v + 1 - (j + 1))
                    case rel => exact ⟨j + 1, rfl, by rw [NX2.out], by omega, by omega, BW⟩
                    case measure => omega
                · have NX2 := Bx.mk (show farP (cT v) U v (j + 1) = f from by rw [NX.out]; omega)
                  have hmx2 : ((L.length : Int) ≤ f) := by omega
                  clear NX
                  go_wp2
                  all_goals
                    go_roundg (v + 1 - (j + 1))
                    case rel => exact ⟨j + 1, rfl, by rw [NX2.out], by omega, by omega, BW⟩
                    case measure => omega
              · have hJ : ¬ (j : Int) < v := by omega
                obtain rfl : j = v := by omega
                have RYY := RY wr cU aU (rT.keep BW) (rU.keep BW)
                rw [HFK.out]
                have BF := Bx.mk (BB.out _ (below_below bel BW))
                go_wp2_with fail
                refine RYY.mono ?_
                rintro e w6 ⟨rfl, B6⟩
                have e2 : (((j / 2 : Nat) : Int) == (j : Int) / 2) = true := beq_iff_eq.2 (by omega)
                have e3 : (((j / 2 : Nat) : Int) == (j : Int).tdiv 2) = true := beq_iff_eq.2 (by rw [Int.tdiv_eq_ediv_of_nonneg (by omega)]; omega)
                have BF := below_below BF.out B6
                go_wp2
                go_ret
                exact ⟨rfl, BF⟩
end Go.Proofs.Ytjeddcijefnbfaa
