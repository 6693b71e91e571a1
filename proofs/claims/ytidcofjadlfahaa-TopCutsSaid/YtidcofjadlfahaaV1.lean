/- The walks of the document's reach, Value, Most; of Side, Both. -/
import Derived.Test.YtidcofjadlfahaaU27
import Derived.Test.YtidcofjadlfahaaU25
set_option linter.unusedVariables false
set_option linter.unusedSimpArgs false
namespace Go.Proofs.Ytidcofjadlfahaa
open Go.RowKit

/-- By which dart each vertex is found, but the first one. -/
def ByOk (m : Nat) (s : Int) (B D : List Int) : Prop := ∀ v : Int, 0 ≤ v → v < m → v ≠ s → 0 ≤ rd B v → rd D v = rd B v
theorem ByOk.start (m : Nat) (s x : Int) (D : List Int) (hs0 : 0 ≤ s) (hs1 : s < m) : ByOk m s (st (List.replicate m (-1)) s x) D := fun v v0 v1 hv h => by
  rw [rd_st _ _ _ _ hs0 (by simp; exact hs1) v0, if_neg hv, rep_rd _ _ _ v0 v1] at h
  omega
theorem ByOk.step {m : Nat} {s : Int} {B D : List Int} (h : ByOk m s B D) (lB : B.length = m) (lD : D.length = m) {v : Int} (v0 : 0 ≤ v) (v1 : v < m) (j : Int) : ByOk m s (st B v j) (st D v j) := fun u u0 u1 hu hb => by
  have e1 := rd_st B v u j v0 (by rw [lB]; exact v1) u0
  have e2 := rd_st D v u j v0 (by rw [lD]; exact v1) u0
  rw [e1] at hb ⊢
  rw [e2]
  by_cases e : u = v
  · rw [if_pos e, if_pos e]
  · rw [if_neg e] at hb ⊢
    rw [if_neg e]
    exact h u u0 u1 hu hb
section
variable {m n bT oT bX oX bC oC kT kX kC : Nat} {T X C : List Int} {w : World} {bF oF kF : Nat} {f : List Int}
theorem rghead_any (G : Good m n T X C) (R : Rows3 w n bT oT bX oX bC oC T X C) (d : Int) (h0 : 0 ≤ d) (h1 : d < n) :
    Calls Try.prog 61 #[(.agg #[.int .i64 m, .slice (some ⟨bT, oT, none⟩) n kT, .slice (some ⟨bX, oX, none⟩) n kX, .slice (some ⟨bC, oC, none⟩) n kC]), .int .i64 d] w fun e w' => e = .returned (.int .i64 (rd T (ot d))) ∧ Below w.heap.size w w' := by
  have := rhead_any (N := (m : Int)) (aT := some ⟨bT, oT, none⟩) (aX := some ⟨bX, oX, none⟩) (aC := some ⟨bC, oC, none⟩) (cT := kT) (cX := kX) (cC := kC) (T := T) (X := X) (C := C) (w := w) d R.T.row h0 (by rw [G.lT]; exact h1) (by rw [G.lT]; exact G.ev) (by rw [G.lT]; exact G.n240)
  rwa [G.lT, G.lX, G.lC] at this
set_option maxHeartbeats 6400000 in
theorem reach9_any (G : Good m n T X C) (R : Rows3 w n bT oT bX oX bC oC T X C) (F : RowAt w bF oF n f) (M : Mid n f) (s : Int) (hs0 : 0 ≤ s) (hs1 : s < m) :
    Calls Try.prog 46 #[(.agg #[.int .i64 m, .slice (some ⟨bT, oT, none⟩) n kT, .slice (some ⟨bX, oX, none⟩) n kX, .slice (some ⟨bC, oC, none⟩) n kC]), .int .i64 s, .slice (some ⟨bF, oF, none⟩) n kF] w fun e w' => ∃ gB gD D, e = .returned (.tuple #[.slice (some ⟨gB, 0, none⟩) m m, .slice (some ⟨gD, 0, none⟩) m m]) ∧ BOwnN w' w.heap.size gB m m (mk1 (bEnd T (okR C f) m n s).by_) ∧ OwnN w' w.heap.size gD m m D ∧ ByOk m s (bEnd T (okR C f) m n s).by_ D ∧ Below w.heap.size w w' := by
  have GG := Bx.mk G
  have RR := Bx.mk R
  have FF := Bx.mk F
  have MM := Bx.mk M
  have m1 := G.m1
  have m60 := G.m60
  have n2 := G.n2
  have n240 := G.n240
  have EV := Bx.mk G.ev
  clear G R F M
  have hB := below_alloc (Below.refl w.heap.size w) (.cells #[.int .i64 m, .slice (some ⟨bT, oT, none⟩) n kT, .slice (some ⟨bX, oX, none⟩) n kX, .slice (some ⟨bC, oC, none⟩) n kC] 25)
  have hbox := box_new w #[.int .i64 m, .slice (some ⟨bT, oT, none⟩) n kT, .slice (some ⟨bX, oX, none⟩) n kX, .slice (some ⟨bC, oC, none⟩) n kC] 25
  go_enter Try.func46, Try.ntmps46
  go_upto_region 1 with fail
  generalize w.alloc _ = wa at hB hbox ⊢
  generalize w.heap.size = b at hbox ⊢
  have HK := Bx.mk (fun W (h : Below wa.heap.size wa W) => (⟨(hbox.keep h).cell 0, (hbox.keep h).cell 1, (hbox.keep h).cell 2, (hbox.keep h).cell 3⟩ : W.cell? ⟨b, 0, none⟩ = some (.int .i64 m) ∧ W.cell? ⟨b, 1, none⟩ = some (.slice (some ⟨bT, oT, none⟩) n kT) ∧ W.cell? ⟨b, 2, none⟩ = some (.slice (some ⟨bX, oX, none⟩) n kX) ∧ W.cell? ⟨b, 3, none⟩ = some (.slice (some ⟨bC, oC, none⟩) n kC)))
  have HBX := Bx.mk hbox
  have HBW := Bx.mk (fun W (h : Below wa.heap.size wa W) => below_below hB h)
  clear hbox
  have HH := fun W (h : Below wa.heap.size wa W) (d : Int) (d0 : 0 ≤ d) (d1 : d < n) => rghead_any (kT := kT) (kX := kX) (kC := kC) GG.out (RR.out.keep (HBW.out W h)) d d0 d1
  obtain ⟨k0, k1, k2, k3⟩ := HK.out wa (Below.refl _ _)
  have hmk : ∀ w : World, (Instr.makeSlice 31 (.int .i64 m) (.int .i64 m)).run Try.prog w = .ok (.slice (some ⟨w.heap.size, 0, none⟩) m m) (w.alloc (.cells (madeCells #[.bool false] m) 4)) :=
    run_make_row' (P := Try.prog) 31 4 (.bool false) 1 Try.underlying31 info4 rfl .i64 .i64 m (by omega) (by omega)
  have hmk2 : ∀ w : World, (Instr.makeSlice 22 (.int .i64 m) (.int .i64 m)).run Try.prog w = .ok (.slice (some ⟨w.heap.size, 0, none⟩) m m) (w.alloc (.cells (madeCells #[.int .i64 0] m) 3)) :=
    run_make_row' (P := Try.prog) 22 3 (.int .i64 0) 8 Try.underlying22 info3 rfl .i64 .i64 m (by omega) (by omega)
  have o1 := bown_made wa wa.heap.size m (Nat.le_refl _) (by omega)
  have B1 := below_alloc (Below.refl wa.heap.size wa) (.cells (madeCells #[.bool false] m) 4)
  obtain ⟨gB, hgB⟩ : ∃ gB, wa.heap.size = gB := ⟨_, rfl⟩
  have hgl : wa.heap.size ≤ gB := by omega
  rw [show BOwnN (wa.alloc (.cells (madeCells #[.bool false] m) 4)) wa.heap.size wa.heap.size m m (List.replicate m false) = BOwnN (wa.alloc (.cells (madeCells #[.bool false] m) 4)) wa.heap.size gB m m (mk1 (List.replicate m (-1))) from by rw [hgB, mk1_none]] at o1
  go_upto_region 2 with fail
  generalize wa.alloc _ = wb at o1 B1 ⊢
  clear k0 k1 k2 k3 hmk hgB
  obtain ⟨k0, k1, k2, k3⟩ := HK.out _ B1
  have p1 := own_made wb wa.heap.size m B1.size (by omega)
  have B2 := below_alloc B1 (.cells (madeCells #[.int .i64 0] m) 3)
  have o2 := o1.keep (below_alloc (Below.refl wb.heap.size wb) (.cells (madeCells #[.int .i64 0] m) 3))
  have hne : gB < wb.heap.size := o1.rng.2
  obtain ⟨gD, hgD⟩ : ∃ gD, wb.heap.size = gD := ⟨_, rfl⟩
  rw [hgD] at hne
  have hgd : wa.heap.size ≤ gD := by omega
  rw [show OwnN (wb.alloc (.cells (madeCells #[.int .i64 0] m) 3)) wa.heap.size wb.heap.size m m (List.replicate m 0) = OwnN (wb.alloc (.cells (madeCells #[.int .i64 0] m) 3)) wa.heap.size gD m m (List.replicate m 0) from by rw [hgD]] at p1
  go_upto_region 3 with fail
  generalize wb.alloc _ = w3 at o2 p1 B2 ⊢
  clear k0 k1 k2 k3 hmk2 hgD o1 B1
  have cs := o2.cell s hs0 hs1
  have fs := o2.fz s
  have o3 := o2.set s true
  rw [sb_mk1 (x := (n : Int)) (by omega) hs0 (by simp; omega)] at o3
  have p2 := p1.far (p := ⟨gB, s.toNat, none⟩) (by show gB ≠ gD; omega) (.bool true)
  have cs2 := p2.cell s hs0 hs1
  have fs2 := p2.fz s
  have p3 := p2.set s (-1)
  have o4 := o3.far (p := ⟨gD, s.toNat, none⟩) (by show gD ≠ gB; omega) (.int .i64 (-1))
  have B4 := below_set (below_set B2 (p := ⟨gB, s.toNat, none⟩) hgl (.bool true)) (p := ⟨gD, s.toNat, none⟩) hgd (.int .i64 (-1))
  go_upto_region 4 with fail
  clear cs fs cs2 fs2
  generalize (w3.setCell _ _).setCell _ _ = w4 at o4 p3 B4 ⊢
  clear o2 o3 p1 p2 B2
  have hqs : Own (w4.alloc (.cells #[.int .i64 s] 3)) (gD + 1) (.slice (some ⟨w4.heap.size, 0, none⟩) 1 1) [s] := (own_lit w4 (gD + 1) [s] (by have := p3.rng.2; omega) (by simp)).own
  have o5 := o4.keep (below_alloc (Below.refl w4.heap.size w4) (.cells #[.int .i64 s] 3))
  have p5 := p3.keep (below_alloc (Below.refl w4.heap.size w4) (.cells #[.int .i64 s] 3))
  have B5 := below_alloc B4 (.cells #[.int .i64 s] 3)
  clear o4 p3 B4
  go_wp2
  generalize w4.alloc _ = wc at hqs o5 p5 B5 ⊢
  generalize w4.heap.size = gq at hqs ⊢
  go_loopg [10, 11] (m + 2) (fun q vq y11 wx => ∃ (i : Nat) (D : List Int), y11 = .int .i64 i ∧ q = m + 2 - i ∧ i ≤ (bTo T (okR C f) m n s i).q.length ∧ BOwnN wx wa.heap.size gB m m (mk1 (bTo T (okR C f) m n s i).by_) ∧ OwnN wx wa.heap.size gD m m D ∧ Bx (ByOk m s (bTo T (okR C f) m n s i).by_ D) ∧ Own wx (gD + 1) vq (bTo T (okR C f) m n s i).q ∧ Below wa.heap.size wa wx)
  case atStart => exact ⟨0, _, rfl, by omega, by omega, o5, p5, ⟨ByOk.start m s n _ hs0 hs1⟩, hqs, B5⟩
  case round =>
    clear hqs o5 p5 B5
    obtain ⟨i, D, rfl, hq, hi, oB, oD, YB, oQ, BW⟩ := hrel
    have IB := Bx.mk (bTo_at (ok := okR C f) EV.out GG.out.t hs0 hs1 hi)
    have hlen := IB.out.len
    obtain ⟨S, hSS⟩ : ∃ S, bTo T (okR C f) m n s i = S := ⟨_, rfl⟩
    rw [hSS] at hi oB oQ hlen IB YB
    have SB := Bx.mk hSS
    clear hSS
    obtain ⟨aq, cq, rfl, hqr⟩ := oQ.row
    obtain ⟨k0, k1, k2, k3⟩ := HK.out _ BW
    by_cases hlt : i < S.q.length
    · have hltI : (i : Int) < S.q.length := by omega
      go_wp2
      clear k0 k1 k2 k3 hqr
      go_loopg [10, 12] (n + 1) (fun q vq y12 wx => ∃ (j : Nat) (D : List Int), y12 = .int .i64 j ∧ q = n + 1 - j ∧ j ≤ n ∧ BOwnN wx wa.heap.size gB m m (mk1 (bRow T (okR C f) (rd S.q i) S j).by_) ∧ OwnN wx wa.heap.size gD m m D ∧ Bx (ByOk m s (bRow T (okR C f) (rd S.q i) S j).by_ D) ∧ Own wx (gD + 1) vq (bRow T (okR C f) (rd S.q i) S j).q ∧ Below wa.heap.size wa wx)
      case atStart => exact ⟨0, D, rfl, by omega, by omega, oB, oD, YB, oQ, BW⟩
      case round =>
        clear oB oD YB oQ BW
        obtain ⟨j, D, rfl, hq2, hj, oB, oD, YB, oQ, BW⟩ := hrel
        obtain ⟨R1, R2, R3⟩ := IB.out.row hlt EV.out GG.out.t j hj
        have R3' := R3 i (by omega) (by omega)
        have hl1 := R1.len
        have NX := Bx.mk (show bRow T (okR C f) (rd S.q i) S (j + 1) = bD T (okR C f) (rd S.q i) (bRow T (okR C f) (rd S.q i) S j) j from rfl)
        obtain ⟨S1, hS1⟩ : ∃ S1, bRow T (okR C f) (rd S.q i) S j = S1 := ⟨_, rfl⟩
        rw [hS1] at oB oQ R1 R2 R3' hl1 NX YB
        have HS1 := Bx.mk hS1
        clear hS1 R3
        have RB := Bx.mk R1
        obtain ⟨aq1, cq1, rfl, hqr⟩ := oQ.row
        obtain ⟨k0, k1, k2, k3⟩ := HK.out _ BW
        by_cases hjn : j < n
        · have hjI : (j : Int) < n := by omega
          obtain ⟨a, ha⟩ : ∃ a, rd S.q i = a := ⟨_, rfl⟩
          rw [ha] at R3' NX
          obtain ⟨bq, oq, rfl, RQ⟩ := hqr.at' rfl (by omega)
          have HA := Bx.mk ha
          have HHj := HH _ BW j (by omega) hjI
          have oj := ot_rng j n (by omega) hjI EV.out
          have vr := GG.out.t (ot j) oj.1 oj.2
          have v0 := vr.1
          have v1 := vr.2
          have KX := Bx.mk (show okR C f j = decide (0 < rd C j - rd f j) from rfl)
          obtain ⟨t, ht⟩ : ∃ t, rd T j = t := ⟨_, rfl⟩
          obtain ⟨v, hv⟩ : ∃ v, rd T (ot j) = v := ⟨_, rfl⟩
          rw [hv] at v0 v1 HHj
          have R3B := Bx.mk R3'
          clear ha R1 R3' oj vr
          go_wp2_with fail
          refine HHj.mono ?_
          rintro e w5 ⟨rfl, B5⟩
          have BW5 := below_below BW B5
          have oB5 := oB.keep B5
          have oD5 := oD.keep B5
          have oQ5 := oQ.keep B5
          have RQ5 := RQ.keep B5
          clear oB oD oQ RQ BW B5 hqr k0 k1 k2 k3 HHj
          obtain ⟨k0, k1, k2, k3⟩ := HK.out _ BW5
          have cqa := RQ5.get i (by omega) (by omega)
          rw [R3B.out, Int.toNat_natCast] at cqa
          have ct := (RR.out.keep (HBW.out _ BW5)).T.get j (by omega) hjI
          have cc := (RR.out.keep (HBW.out _ BW5)).C.get j (by omega) hjI
          have cf := (FF.out.keep (HBW.out _ BW5)).get j (by omega) hjI
          have lby := RB.out.lb
          have cb := oB5.cell v v0 v1
          rw [rb_mk1 v0 (by rw [lby]; exact v1)] at cb
          obtain ⟨c, hc⟩ : ∃ c, rd S1.by_ v = c := ⟨_, rfl⟩
          obtain ⟨x, hx⟩ : ∃ x, rd C j = x := ⟨_, rfl⟩
          obtain ⟨y, hy⟩ : ∃ y, rd f j = y := ⟨_, rfl⟩
          rw [ht] at ct
          rw [hx] at cc KX
          rw [hy] at cf KX
          rw [hc] at cb
          rw [Int.toNat_natCast] at ct cc cf
          have TV := Bx.mk (And.intro ht (And.intro hv hc))
          have LB := Bx.mk lby
          have LD := oD5.1
          clear ht hv hc hx hy lby
          by_cases yes : t = a ∧ y < x ∧ c < 0
          · obtain ⟨c1, c2, c3⟩ := yes
            have N2 := Bx.mk (show bRow T (okR C f) a S (j + 1) = ⟨st S1.by_ v j, S1.q ++ [v]⟩ from by
              rw [NX.out, bD, if_pos ⟨TV.out.1.trans c1, by rw [KX.out]; exact decide_eq_true (by omega), by rw [TV.out.2.1, TV.out.2.2]; exact c3⟩, TV.out.2.1])
            rw [decide_eq_false (by omega)] at cb
            have e1 : (t == a) = true := by simpa using c1
            have e2 : decide (y < x) = true := decide_eq_true c2
            clear c1 c2 c3 NX KX
            go_upto_region 12 with fail
            go_quiet (fail)
            have BW6 := below_drewN BW5 nq
            have oB6 := oB5.keep (below_drewN (Below.refl _ _) nq)
            have oD6 := oD5.keep (below_drewN (Below.refl _ _) nq)
            have oQ6 := oQ5.keep (below_drewN (Below.refl _ _) nq)
            generalize w5.drewN nq = w6 at BW6 oB6 oD6 oQ6 ⊢
            clear nq cqa ct cc cf cb e1 e2 oB5 oD5 oQ5 RQ5 BW5 k0 k1 k2 k3
            have cs := oB6.cell v v0 v1
            have fs := oB6.fz v
            have o3 := oB6.set v true
            rw [sb_mk1 (x := (j : Int)) (by omega) v0 (by rw [LB.out]; exact v1)] at o3
            have p2 := oD6.far (p := ⟨gB, v.toNat, none⟩) (by show gB ≠ gD; omega) (.bool true)
            have cs2 := p2.cell v v0 v1
            have fs2 := p2.fz v
            have p3 := p2.set v j
            have o4 := o3.far (p := ⟨gD, v.toNat, none⟩) (by show gD ≠ gB; omega) (.int .i64 j)
            have B7 := below_set (below_set BW6 (p := ⟨gB, v.toNat, none⟩) hgl (.bool true)) (p := ⟨gD, v.toNat, none⟩) hgd (.int .i64 j)
            have oQ7 := own_far' (own_far' oQ6 (p := ⟨gB, v.toNat, none⟩) (show gB < gD + 1 by omega) (.bool true)) (p := ⟨gD, v.toNat, none⟩) (show gD < gD + 1 by omega) (.int .i64 j)
            go_upto_region 14 with fail
            clear cs fs cs2 fs2
            generalize (w6.setCell _ _).setCell _ _ = w7 at o4 p3 B7 oQ7 ⊢
            have oB8 := o4.keep (below_alloc (Below.refl w7.heap.size w7) (.cells #[.int .i64 v] 3))
            have oD8 := p3.keep (below_alloc (Below.refl w7.heap.size w7) (.cells #[.int .i64 v] 3))
            have oQ8 := oQ7.keep (below_alloc (Below.refl w7.heap.size w7) (.cells #[.int .i64 v] 3))
            have BW8 := below_alloc B7 (.cells #[.int .i64 v] 3)
            have n8 : RowOf (w7.alloc (.cells #[.int .i64 v] 3)) (some ⟨w7.heap.size, 0, none⟩) [v] := row_new w7 [v]
            have hB8 : gD + 1 ≤ (w7.alloc (.cells #[.int .i64 v] 3)).heap.size := by have := oD8.rng.2; omega
            have YB2 := Bx.mk (YB.out.step LB.out LD v0 v1 j)
            clear oB6 oD6 oQ6 BW6 o3 o4 p2 p3 oQ7 B7 YB
            go_wp2_with (at_builtin; refine app_any rfl (.tmp 80) (.tmp 82) rfl (gD + 1) _ S1.q [v] rfl oQ8 (some ⟨w7.heap.size, 0, none⟩) 1 1 rfl rfl n8 (by omega) (by omega) hB8 (S1.q.length + 1) rfl ?_; intro g9 p9 w9 q9 gr9 _; have B9 := below_app BW8 oQ8 (by omega) gr9; have oB9 := oB8.grown gr9 (Own.block oQ8 (b := gB) (by omega)); have oD9 := oD8.grown gr9 (Own.block oQ8 (b := gD) (by omega)); have Q9 := Bx.mk q9; clear q9 gr9 oQ8 n8 oB8 oD8 BW8)
            go_roundg (n + 1 - (j + 1))
            case rel => exact ⟨j + 1, _, rfl, rfl, by omega, by rw [HA.out, N2.out]; exact oB9, oD9, by rw [HA.out, N2.out]; exact YB2, by rw [HA.out, N2.out]; have := Q9.out.own; simpa using this, B9⟩
            case measure => omega
          · have N2 := Bx.mk (show bRow T (okR C f) a S (j + 1) = S1 from by
              rw [NX.out, bD, if_neg (fun h => yes ⟨TV.out.1.symm.trans h.1, by have := h.2.1; rw [KX.out] at this; have := of_decide_eq_true this; omega, by have := h.2.2; rwa [TV.out.2.1, TV.out.2.2] at this⟩)])
            have hno : ¬ t = a ∨ (t = a ∧ ¬ y < x) ∨ (t = a ∧ y < x ∧ ¬ c < 0) := by omega
            clear yes NX KX
            rcases hno with c1 | ⟨c1, c2⟩ | ⟨c1, c2, c3⟩
            · have e1 : (t == a) = false := by simpa using c1
              clear c1
              go_upto_region 12 with fail
              go_quiet (fail)
              have BW6 := below_drewN BW5 nq
              have oB6 := oB5.keep (below_drewN (Below.refl _ _) nq)
              have oD6 := oD5.keep (below_drewN (Below.refl _ _) nq)
              have oQ6 := oQ5.keep (below_drewN (Below.refl _ _) nq)
              clear cqa ct cc cf cb k0 k1 k2 k3
              go_wp2
              go_roundg (n + 1 - (j + 1))
              case rel => exact ⟨j + 1, _, rfl, rfl, by omega, by rw [HA.out, N2.out]; exact oB6, oD6, by rw [HA.out, N2.out]; exact YB, by rw [HA.out, N2.out]; exact oQ6, BW6⟩
              case measure => omega
            · have e1 : (t == a) = true := by simpa using c1
              have e2 : decide (y < x) = false := decide_eq_false c2
              clear c1 c2
              go_upto_region 12 with fail
              go_quiet (fail)
              have BW6 := below_drewN BW5 nq
              have oB6 := oB5.keep (below_drewN (Below.refl _ _) nq)
              have oD6 := oD5.keep (below_drewN (Below.refl _ _) nq)
              have oQ6 := oQ5.keep (below_drewN (Below.refl _ _) nq)
              clear cqa ct cc cf cb k0 k1 k2 k3
              go_wp2
              go_roundg (n + 1 - (j + 1))
              case rel => exact ⟨j + 1, _, rfl, rfl, by omega, by rw [HA.out, N2.out]; exact oB6, oD6, by rw [HA.out, N2.out]; exact YB, by rw [HA.out, N2.out]; exact oQ6, BW6⟩
              case measure => omega
            · have e1 : (t == a) = true := by simpa using c1
              have e2 : decide (y < x) = true := decide_eq_true c2
              rw [decide_eq_true (by omega)] at cb
              clear c1 c2 c3
              go_upto_region 12 with fail
              go_quiet (fail)
              have BW6 := below_drewN BW5 nq
              have oB6 := oB5.keep (below_drewN (Below.refl _ _) nq)
              have oD6 := oD5.keep (below_drewN (Below.refl _ _) nq)
              have oQ6 := oQ5.keep (below_drewN (Below.refl _ _) nq)
              clear cqa ct cc cf cb k0 k1 k2 k3
              go_wp2
              go_roundg (n + 1 - (j + 1))
              case rel => exact ⟨j + 1, _, rfl, rfl, by omega, by rw [HA.out, N2.out]; exact oB6, oD6, by rw [HA.out, N2.out]; exact YB, by rw [HA.out, N2.out]; exact oQ6, BW6⟩
              case measure => omega
        · have hjI : ¬ (j : Int) < n := by omega
          obtain rfl : n = j := by omega
          have N2 := Bx.mk (show bTo T (okR C f) m n s (i + 1) = S1 from by rw [bTo, SB.out, if_pos hlt]; exact HS1.out)
          have hnext : i + 1 ≤ S1.q.length := by omega
          clear NX
          go_wp2
          go_roundg (m + 2 - (i + 1))
          case rel => exact ⟨i + 1, D, rfl, rfl, by rw [N2.out]; exact hnext, by rw [N2.out]; exact oB, oD, by rw [N2.out]; exact YB, by rw [N2.out]; exact oQ, BW⟩
          case measure => omega
    · have hltI : ¬ (i : Int) < S.q.length := by omega
      have NE := Bx.mk (show (bEnd T (okR C f) m n s).by_ = S.by_ from by
        have := bTo_stop (T := T) (ok := okR C f) (m := m) (n := n) (r := s) (i := i) (by rw [SB.out]; exact hlt) (m - i)
        rw [show i + (m - i) = m from by omega, SB.out] at this
        unfold bEnd
        rw [this])
      have BF := Bx.mk (HBW.out _ BW)
      have OE := Bx.mk (oB.low3 (B' := w.heap.size) (by have := hB.size; omega))
      have OD := Bx.mk (oD.low3 (B' := w.heap.size) (by have := hB.size; omega))
      clear oB oD
      go_wp2
      go_ret2
      exact ⟨gB, gD, rfl, by rw [NE.out]; exact OE.out, D, OD.out, by rw [NE.out]; exact YB.out, BF.out⟩
end

/-- The less of two ints, in a region that draws its order. -/
theorem istep_min {ops : Array Oper} {o : Oper} {a : Act} {W : World} {K : Act → World → Prop} {Q : Exit → Act → World → Prop} {E : Prop} (hgd : o.guard = none) (x y : Operand) (tys : Array TypeId)
    (ho : o.op = .call { callee := .builtin .min, args := #[x, y], argTypes := tys }) (u v : Int) (hx : a.eval x = .int .i64 u) (hy : a.eval y = .int .i64 v)
    (h : K (a.put o.dst (.int .i64 (min u v))) W) :
    if Region.wanted o (yielded ops a.tmps) = true then Oper.wp Try.prog o a W K Q else E := by
  have HM : ∀ tys ty w, (Builtin.min_ tys ty #[.int .i64 u, .int .i64 v]).run Try.prog w = .ok (.int .i64 (min u v)) w := fun tys ty w => by
    have e : min u v = if v < u then v else u := by split <;> omega
    rw [e]
    rfl
  have hw : Region.wanted o (yielded ops a.tmps) = true := by simp [Region.wanted, hgd]
  rw [if_pos hw]
  unfold Oper.wp
  simp [execOp, ho, resolve, invoke, builtin, hx, hy, HM, Result.andThen]
  exact h
/-- The greater of two ints, in a region that draws its order. -/
theorem istep_max {ops : Array Oper} {o : Oper} {a : Act} {W : World} {K : Act → World → Prop} {Q : Exit → Act → World → Prop} {E : Prop} (hgd : o.guard = none) (x y : Operand) (tys : Array TypeId)
    (ho : o.op = .call { callee := .builtin .max, args := #[x, y], argTypes := tys }) (u v : Int) (hx : a.eval x = .int .i64 u) (hy : a.eval y = .int .i64 v)
    (h : K (a.put o.dst (.int .i64 (max u v))) W) :
    if Region.wanted o (yielded ops a.tmps) = true then Oper.wp Try.prog o a W K Q else E := by
  have HM : ∀ tys ty w, (Builtin.max_ tys ty #[.int .i64 u, .int .i64 v]).run Try.prog w = .ok (.int .i64 (max u v)) w := fun tys ty w => by
    have e : max u v = if v > u then v else u := by split <;> omega
    rw [e]
    rfl
  have hw : Region.wanted o (yielded ops a.tmps) = true := by simp [Region.wanted, hgd]
  rw [if_pos hw]
  unfold Oper.wp
  simp [execOp, ho, resolve, invoke, builtin, hx, hy, HM, Result.andThen]
  exact h
section
variable {m n bT oT bX oX bC oC kT kX kC : Nat} {T X C : List Int} {w : World} {bF oF kF : Nat} {f : List Int}
set_option maxHeartbeats 1600000 in
theorem value9_any (G : Good m n T X C) (R : Rows3 w n bT oT bX oX bC oC T X C) (F : RowAt w bF oF n f) (M : Mid n f) (s : Int) :
    Calls Try.prog 47 #[(.agg #[.int .i64 m, .slice (some ⟨bT, oT, none⟩) n kT, .slice (some ⟨bX, oX, none⟩) n kX, .slice (some ⟨bC, oC, none⟩) n kC]), .int .i64 s, .slice (some ⟨bF, oF, none⟩) n kF] w fun e w' => e = .returned (.int .i64 (valF T f s n)) ∧ Below w.heap.size w w' := by
  have GG := Bx.mk G
  have RR := Bx.mk R
  have FF := Bx.mk F
  have VB := Bx.mk (fun j hj => valF_bound (T := T) (s := s) M j hj)
  have MM := Bx.mk M
  have n240 := G.n240
  clear G R F M
  have hB := below_alloc (Below.refl w.heap.size w) (.cells #[.int .i64 m, .slice (some ⟨bT, oT, none⟩) n kT, .slice (some ⟨bX, oX, none⟩) n kX, .slice (some ⟨bC, oC, none⟩) n kC] 25)
  have hbox := box_new w #[.int .i64 m, .slice (some ⟨bT, oT, none⟩) n kT, .slice (some ⟨bX, oX, none⟩) n kX, .slice (some ⟨bC, oC, none⟩) n kC] 25
  go_enter Try.func47, Try.ntmps47
  go_upto_region 1 with fail
  generalize w.alloc _ = wa at hB hbox ⊢
  generalize w.heap.size = b at hbox ⊢
  have HK := Bx.mk (fun W (h : Below wa.heap.size wa W) => (⟨(hbox.keep h).cell 0, (hbox.keep h).cell 1, (hbox.keep h).cell 2, (hbox.keep h).cell 3⟩ : W.cell? ⟨b, 0, none⟩ = some (.int .i64 m) ∧ W.cell? ⟨b, 1, none⟩ = some (.slice (some ⟨bT, oT, none⟩) n kT) ∧ W.cell? ⟨b, 2, none⟩ = some (.slice (some ⟨bX, oX, none⟩) n kX) ∧ W.cell? ⟨b, 3, none⟩ = some (.slice (some ⟨bC, oC, none⟩) n kC)))
  have HBX := Bx.mk hbox
  have HBW := Bx.mk (fun W (h : Below wa.heap.size wa W) => below_below hB h)
  clear hbox
  obtain ⟨k0, k1, k2, k3⟩ := HK.out wa (Below.refl _ _)
  go_wp2
  go_loopg [7, 8] (n + 1) (fun q y7 y8 wr => ∃ j : Nat, y7 = .int .i64 (valF T f s j) ∧ y8 = .int .i64 j ∧ q = n + 1 - j ∧ j ≤ n ∧ wr = wa)
  case atStart => exact ⟨0, rfl, rfl, by omega, by omega, rfl⟩
  case round =>
    obtain ⟨j, rfl, rfl, hq, hj, rfl⟩ := hrel
    have NX := Bx.mk (show valF T f s (j + 1) = if rd T j = s then valF T f s j + rd f j else valF T f s j from rfl)
    have vb := VB.out j hj
    obtain ⟨z, hz⟩ : ∃ z, valF T f s j = z := ⟨_, rfl⟩
    rw [hz] at NX vb ⊢
    by_cases hjn : j < n
    · have hjI : (j : Int) < n := by omega
      have ct := (RR.out.keep (HBW.out _ (Below.refl _ _))).T.get j (by omega) hjI
      have cf := (FF.out.keep (HBW.out _ (Below.refl _ _))).get j (by omega) hjI
      have fb := MM.out j (by omega) hjI
      rw [Int.toNat_natCast] at ct cf
      obtain ⟨t, ht⟩ : ∃ t, rd T j = t := ⟨_, rfl⟩
      obtain ⟨y, hy⟩ : ∃ y, rd f j = y := ⟨_, rfl⟩
      rw [ht] at ct NX
      rw [hy] at cf fb NX
      clear ht hy hz
      have y1 : IntKind.i64.wrap (z + y) = z + y := IntWalk.i64_in _ (by omega)
      by_cases c : t = s
      · have e1 : (t == s) = true := by simpa using c
        have N2 := Bx.mk (NX.out.trans (if_pos c))
        clear c NX
        go_wp2
        go_roundg (n + 1 - (j + 1))
        case rel => exact ⟨j + 1, by rw [N2.out], rfl, rfl, by omega, rfl⟩
        case measure => omega
      · have e1 : (t == s) = false := by simpa using c
        have N2 := Bx.mk (NX.out.trans (if_neg c))
        clear c NX
        go_wp2
        go_roundg (n + 1 - (j + 1))
        case rel => exact ⟨j + 1, by rw [N2.out], rfl, rfl, by omega, rfl⟩
        case measure => omega
    · have hjI : ¬ (j : Int) < n := by omega
      obtain rfl : n = j := by omega
      have ZB := Bx.mk hz
      have BF := Bx.mk (HBW.out _ (Below.refl _ _))
      clear hz NX
      go_wp2
      go_ret
      exact ⟨by rw [ZB.out]; rfl, BF.out⟩
end
section
variable {m n bT oT bX oX bC oC kT kX kC : Nat} {T X C : List Int} {w : World}
set_option maxHeartbeats 6400000 in
set_option maxRecDepth 100000 in
theorem most9_any (G : Good m n T X C) (R : Rows3 w n bT oT bX oX bC oC T X C) (s t : Int) (hs0 : 0 ≤ s) (hs1 : s < m) (ht0 : 0 ≤ t) (ht1 : t < m) (hst : s ≠ t) :
    Calls Try.prog 26 #[(.agg #[.int .i64 m, .slice (some ⟨bT, oT, none⟩) n kT, .slice (some ⟨bX, oX, none⟩) n kX, .slice (some ⟨bC, oC, none⟩) n kC]), .int .i64 s, .int .i64 t] w fun e w' => ∃ g f, e = .returned (.tuple #[.slice (some ⟨g, 0, none⟩) n n, .int .i64 (valF T f s n), .int .i64 0]) ∧ OwnN w' w.heap.size g n n f ∧ MostIs T C m n s t f ∧ Below w.heap.size w w' := by
  have FI := fun W (h : Below w.heap.size w W) (gF : Nat) (f : List Int) (F : RowAt W gF 0 n f) (M : Mid n f) => reach9_any (kT := kT) (kX := kX) (kC := kC) (kF := n) G (R.keep h) F M s hs0 hs1
  have VA := fun W (h : Below w.heap.size w W) (gF : Nat) (f : List Int) (F : RowAt W gF 0 n f) (M : Mid n f) => value9_any (kT := kT) (kX := kX) (kC := kC) (kF := n) G (R.keep h) F M s
  have GG := Bx.mk G
  have RR := Bx.mk R
  have m1 := G.m1
  have m60 := G.m60
  have n2 := G.n2
  have n240 := G.n240
  clear G R
  have hB := below_alloc (Below.refl w.heap.size w) (.cells #[.int .i64 m, .slice (some ⟨bT, oT, none⟩) n kT, .slice (some ⟨bX, oX, none⟩) n kX, .slice (some ⟨bC, oC, none⟩) n kC] 25)
  have hbox := box_new w #[.int .i64 m, .slice (some ⟨bT, oT, none⟩) n kT, .slice (some ⟨bX, oX, none⟩) n kX, .slice (some ⟨bC, oC, none⟩) n kC] 25
  go_enter Try.func26, Try.ntmps26
  go_upto_region 1 with fail
  generalize w.alloc _ = wa at hB hbox ⊢
  generalize w.heap.size = b at hbox ⊢
  have HK := Bx.mk (fun W (h : Below wa.heap.size wa W) => (⟨(hbox.keep h).cell 0, (hbox.keep h).cell 1, (hbox.keep h).cell 2, (hbox.keep h).cell 3⟩ : W.cell? ⟨b, 0, none⟩ = some (.int .i64 m) ∧ W.cell? ⟨b, 1, none⟩ = some (.slice (some ⟨bT, oT, none⟩) n kT) ∧ W.cell? ⟨b, 2, none⟩ = some (.slice (some ⟨bX, oX, none⟩) n kX) ∧ W.cell? ⟨b, 3, none⟩ = some (.slice (some ⟨bC, oC, none⟩) n kC)))
  have HBX := Bx.mk hbox
  have HBW := Bx.mk (fun W (h : Below wa.heap.size wa W) => below_below hB h)
  clear hbox
  obtain ⟨k0, k1, k2, k3⟩ := HK.out wa (Below.refl _ _)
  have e1 : decide (s < 0) = false := decide_eq_false (by omega)
  have e2 : decide (t < 0) = false := decide_eq_false (by omega)
  have e3 : decide (s ≥ (m : Int)) = false := decide_eq_false (by omega)
  have e4 : decide (t ≥ (m : Int)) = false := decide_eq_false (by omega)
  have e5 : (s == t) = false := by simpa using hst
  have hmk : ∀ w : World, (Instr.makeSlice 22 (.int .i64 n) (.int .i64 n)).run Try.prog w = .ok (.slice (some ⟨w.heap.size, 0, none⟩) n n) (w.alloc (.cells (madeCells #[.int .i64 0] n) 3)) :=
    run_make_row' (P := Try.prog) 22 3 (.int .i64 0) 8 Try.underlying22 info3 rfl .i64 .i64 n (by omega) (by omega)
  have o1 := own_made wa wa.heap.size n (Nat.le_refl _) (by omega)
  have B3 := below_alloc (Below.refl wa.heap.size wa) (.cells (madeCells #[.int .i64 0] n) 3)
  obtain ⟨gF, hgF⟩ : ∃ gF, wa.heap.size = gF := ⟨_, rfl⟩
  have hgl : wa.heap.size ≤ gF := by omega
  rw [show OwnN (wa.alloc (.cells (madeCells #[.int .i64 0] n) 3)) wa.heap.size wa.heap.size n n (List.replicate n 0) = OwnN (wa.alloc (.cells (madeCells #[.int .i64 0] n) 3)) wa.heap.size gF n n (mIt T C m n s t 0) from by rw [hgF]; rfl] at o1
  go_wp2
  generalize wa.alloc _ = wb at o1 B3 ⊢
  clear k0 k1 k2 k3 hmk hgF e1 e2 e3 e4 e5
  go_loopg [10] (2147483648 * n + 1) (fun q y wr => ∃ k : Nat, OwnN wr wa.heap.size gF n n (mIt T C m n s t k) ∧ Below wa.heap.size wa wr ∧ (q : Int) = 2147483648 * (n : Int) + 1 - valF T (mIt T C m n s t k) s n)
  case atStart => exact ⟨0, o1, B3, by have : valF T (mIt T C m n s t 0) s n = 0 := valF_zero s n (Nat.le_refl _); omega⟩
  case round =>
    clear o1 B3
    obtain ⟨k, o1, BW, hq⟩ := hrel
    have K := mIt_ok GG.out hs0 hs1 ht0 ht1 hst k
    have KB := Bx.mk K
    have MD := K.mid GG.out
    have vb := K.bound GG.out s n (Nat.le_refl _)
    have NX := Bx.mk (show mIt T C m n s t (k + 1) = mStep T C m n s t (mIt T C m n s t k) from rfl)
    have ST := Bx.mk (fun hb => step_ok GG.out hs0 hs1 ht0 ht1 hst K hb)
    have FO := Bx.mk (bEnd_found (ok := okR C (mIt T C m n s t k)) GG.out.ev GG.out.t hs0 hs1)
    obtain ⟨f, hf⟩ : ∃ f, mIt T C m n s t k = f := ⟨_, rfl⟩
    rw [hf] at o1 hq KB MD vb NX ST FO
    have FB := Bx.mk hf
    clear hf K
    have S1 := FI _ (HBW.out _ BW) gF f o1.at' MD
    obtain ⟨k0, k1, k2, k3⟩ := HK.out _ BW
    go_wp2_with fail
    refine S1.mono ?_
    rintro e w4 ⟨gO, g4, D9, rfl, oO, o4, YB, B4⟩
    clear S1 k0 k1 k2 k3
    have BW4 := below_below BW B4
    have o5 := o1.keep B4
    have n4 : g4 ≠ gF := by have := o4.rng.1; have := o1.rng.2; omega
    have n4' : wa.heap.size ≤ g4 := by have := o4.rng.1; have := BW.size; omega
    replace o4 := o4.low3 (B' := wa.heap.size) BW.size
    have co := oO.cell t ht0 ht1
    rw [rb_mk1 ht0 (by rw [FO.out.lb]; exact ht1)] at co
    clear o1 BW B4 oO
    have BYD := Bx.mk (show (bEnd T (okR C f) m n s).by_ = byOf T C f m n s from rfl)
    obtain ⟨D, hD⟩ : ∃ D, byOf T C f m n s = D := ⟨_, rfl⟩
    rw [BYD.out, hD] at co YB
    have YY := Bx.mk YB
    clear YB
    rw [hD] at ST
    have DB := Bx.mk hD
    clear hD
    obtain ⟨z, hz⟩ : ∃ z, rd D t = z := ⟨_, rfl⟩
    rw [hz] at co ST
    have ZB := Bx.mk hz
    clear hz
    by_cases hzn : z < 0
    · rw [decide_eq_false (by omega)] at co
      have MI := Bx.mk (show MostIs T C m n s t f from ⟨by rw [DB.out, ZB.out]; exact hzn, k, FB.out.symm⟩)
      have S1 := VA _ (HBW.out _ BW4) gF f o5.at' MD
      obtain ⟨k0, k1, k2, k3⟩ := HK.out _ BW4
      go_wp2_with fail
      refine S1.mono ?_
      rintro e w5 ⟨rfl, B5⟩
      have OE := Bx.mk ((o5.keep B5).low3 (B' := w.heap.size) (by have := hB.size; omega))
      have BF := Bx.mk (HBW.out _ (below_below BW4 B5))
      clear S1 k0 k1 k2 k3 o5 BW4 o4 B5 co
      go_wp2
      go_ret3
      exact ⟨gF, f, rfl, OE.out, MI.out, BF.out⟩
    · have hz0 : 0 ≤ z := by omega
      rw [decide_eq_true hz0] at co
      obtain ⟨P, p1, p2, p3, p4, p5, p6, p7⟩ := ST.out hz0
      have hP0 : P ≠ [] := fun h => by rw [h] at p1; exact hst p1.symm
      obtain ⟨x, hx⟩ : ∃ x, leastR C f P = x := ⟨_, rfl⟩
      rw [hx] at p4 p5 p6 p7
      have hxb : x ≤ 4294967296 := by
        obtain ⟨d0, hd0⟩ := List.exists_mem_of_ne_nil P hP0
        have h1 := leastR_le (C := C) (f := f) hd0
        have h2 := p3.rng d0 hd0
        have h3 := GG.out.c d0 h2.1 h2.2.1
        have h4 := (show -2147483648 ≤ rd f d0 from by
          have ho := ot_rng d0 n h2.1 h2.2.1 GG.out.ev
          have h5 := KB.out.cap (ot d0) ho.1 ho.2
          have h6 := KB.out.odd d0 h2.1 h2.2.1
          have h7 := GG.out.c (ot d0) ho.1 ho.2
          omega)
        omega
      have W1 := Bx.mk p1
      have W3 := Bx.mk p3
      have W4 := Bx.mk (And.intro p4 (And.intro p5 p6))
      have HP0 := Bx.mk hP0
      have HX := Bx.mk hx
      clear p1 p3 p4 p5 p6 hP0 hx ST vb
      go_wp2
      clear co
      go_loopg [12, 13] (P.length + 1) (fun q y12 y13 wx => ∃ (lw : Int) (v : Int) (pre suf : List Int), y12 = .int .i64 lw ∧ y13 = .int .i64 v ∧ q = suf.length + 1 ∧ Bx (P = pre ++ suf) ∧ Bx (Way T D s v suf) ∧ Bx (v ∈ (bEnd T (okR C f) m n s).q) ∧ Bx (lw = if pre = [] then 1152921504606846976 else leastR C f pre) ∧ OwnN wx wa.heap.size gF n n f ∧ OwnN wx wa.heap.size g4 m m D9 ∧ Below wa.heap.size wa wx)
      case atStart => exact ⟨_, t, [], P, rfl, rfl, rfl, ⟨rfl⟩, W1, ⟨(FO.out.fq t ht0 ht1).1 (by rw [BYD.out, DB.out, ZB.out]; exact hz0)⟩, ⟨by rw [if_pos rfl]⟩, o5, o4, BW4⟩
      case round =>
        clear o5 o4 BW4
        obtain ⟨lw, v, pre, suf, rfl, rfl, hq3, PS, WS, VQ, LW, o5, o4, BW4⟩ := hrel
        cases suf with
        | nil =>
          obtain rfl : s = v := WS.out.symm
          have hpre := PS.out
          rw [List.append_nil] at hpre
          obtain rfl : P = pre := hpre
          obtain rfl : x = lw := by rw [LW.out, if_neg HP0.out, HX.out]
          have e6 : (s != s) = false := by simp
          clear LW PS WS VQ
          go_wp2
          go_loopg [14] (P.length + 1) (fun q y14 wx => ∃ (u : Int) (pr sf : List Int), y14 = .int .i64 u ∧ q = sf.length + 1 ∧ Bx (P = pr ++ sf) ∧ Bx (Way T D s u sf) ∧ Bx (u ∈ (bEnd T (okR C f) m n s).q) ∧ OwnN wx wa.heap.size gF n n (aug f x pr) ∧ OwnN wx wa.heap.size g4 m m D9 ∧ Below wa.heap.size wa wx)
          case atStart => exact ⟨t, [], P, rfl, rfl, ⟨rfl⟩, W1, ⟨(FO.out.fq t ht0 ht1).1 (by rw [BYD.out, DB.out, ZB.out]; exact hz0)⟩, o5, o4, BW4⟩
          case round =>
            clear o5 o4 BW4
            obtain ⟨u, pr, sf, rfl, hq4, PS, WS, VQ, o5, o4, BW4⟩ := hrel
            cases sf with
            | nil =>
              obtain rfl : s = u := WS.out.symm
              have hpre := PS.out
              rw [List.append_nil] at hpre
              obtain rfl : P = pr := hpre
              have vb2 := W4.out.2.1.bound GG.out s n (Nat.le_refl _)
              rw [W4.out.2.2] at vb2
              have GQ : ((2147483648 * (n : Int) + 1 - (valF T f s n + x)).toNat : Int) = 2147483648 * (n : Int) + 1 - (valF T f s n + x) := by omega
              go_wp2
              go_roundg ((2147483648 * (n : Int) + 1 - (valF T f s n + x)).toNat)
              case rel => exact ⟨k + 1, by rw [NX.out, W4.out.1]; exact o5, BW4, by rw [NX.out, W4.out.1, W4.out.2.2]; exact GQ⟩
              case measure => omega
            | cons d l =>
              obtain ⟨hvs, hdv, WL⟩ := WS.out
              obtain ⟨a1, a2, a3, a4, a5⟩ := FO.out.above VQ.out hvs
              rw [BYD.out, DB.out, ← hdv] at a1 a2 a3 a4 a5
              have vr := FO.out.rg u VQ.out
              have v0 := vr.1
              have v1 := vr.2
              have cv := o4.cell u v0 v1
              have hdu : rd D9 u = d := by rw [YY.out u v0 v1 hvs (by rw [← hdv]; exact a1), ← hdv]
              rw [hdu] at cv
              have e7 : (u != s) = true := by simpa using hvs
              have ho := ot_rng d n a1 a2 GG.out.ev
              have ho0 := ho.1
              have ho1 := ho.2
              have hx1 := xor_one d a1 (by omega)
              have hPr : ∀ e, e ∈ pr → 0 ≤ e ∧ e < n := fun e he => by
                have := W3.out.rng e (by rw [PS.out]; simp [he])
                exact ⟨this.1, this.2.1⟩
              have hPd : (pr ++ [d]).Nodup := by
                have := W3.out.nd
                rw [PS.out, show pr ++ d :: l = (pr ++ [d]) ++ l from by simp] at this
                exact (List.nodup_append.1 this).1
              have b1 := aug_bound (z := d) GG.out.ev KB.out.len hPr (List.nodup_append.1 hPd).1 MD (by omega) hxb a1 a2
              have b2 := aug_bound (z := ot d) GG.out.ev KB.out.len hPr (List.nodup_append.1 hPd).1 MD (by omega) hxb ho.1 ho.2
              have PS2 := Bx.mk (show P = (pr ++ [d]) ++ l from by rw [PS.out]; simp)
              have WLB := Bx.mk WL
              have VQ2 := Bx.mk a5
              have AA := Bx.mk (aug_app x d pr f)
              obtain ⟨A, hA⟩ : ∃ A, aug f x pr = A := ⟨_, rfl⟩
              rw [hA] at o5 b1 b2 AA
              have o6 := o5.set d (rd A d + x)
              have c1 := o5.cell d a1 a2
              have f1 := o5.fz d
              have c2 := o6.cell (ot d) ho.1 ho.2
              have f2 := o6.fz (ot d)
              have o7 := o6.set (ot d) (rd (st A d (rd A d + x)) (ot d) - x)
              have A2 := Bx.mk (show st (st A d (rd A d + x)) (ot d) (rd (st A d (rd A d + x)) (ot d) - x) = aug f x (pr ++ [d]) from by rw [AA.out]; rfl)
              rw [A2.out] at o7
              have er : rd (st A d (rd A d + x)) (ot d) = rd A (ot d) := by
                rw [rd_st _ _ _ _ a1 (by rw [o5.1]; exact a2) ho.1, if_neg (ot_ne d)]
              rw [er] at c2 o7
              have q4 := (o4.far (p := ⟨gF, d.toNat, none⟩) (by show gF ≠ g4; exact n4.symm) (.int .i64 (rd A d + x)))
              have cv2 := q4.cell u v0 v1
              rw [hdu] at cv2
              have q5 := q4.far (p := ⟨gF, (ot d).toNat, none⟩) (by show gF ≠ g4; exact n4.symm) (.int .i64 (rd A (ot d) - x))
              have B5 := below_set BW4 (p := ⟨gF, d.toNat, none⟩) hgl (.int .i64 (rd A d + x))
              have B6 := below_set B5 (p := ⟨gF, (ot d).toNat, none⟩) hgl (.int .i64 (rd A (ot d) - x))
              obtain ⟨y, hy⟩ : ∃ y, rd A d = y := ⟨_, rfl⟩
              obtain ⟨y2, hy2⟩ : ∃ y2, rd A (ot d) = y2 := ⟨_, rfl⟩
              rw [hy] at b1 c1 c2 f2 o7 cv2 q5 B6
              rw [hy2] at b2 c2 o7 q5 B6
              have i1 : IntKind.i64.wrap (y + x) = y + x := IntWalk.i64_in _ (by omega)
              have i2 : IntKind.i64.wrap (y2 - x) = y2 - x := IntWalk.i64_in _ (by omega)
              have HDV := Bx.mk hdu
              clear hdv hdu hA hy hy2 er A2 AA hPr hPd a3 a4 a5 WL vr ho hvs o5 o4 BW4 o6 q4 B5
              go_upto_region 16 with fail
              clear c1 f1 c2 f2 cv cv2 i1 i2
              generalize (wr.setCell _ _).setCell _ _ = w8 at o7 q5 B6 ⊢
              have cv := q5.cell u v0 v1
              have ct := (RR.out.keep (HBW.out _ B6)).T.get d a1 a2
              obtain ⟨v2, hv2⟩ : ∃ v2, rd T d = v2 := ⟨_, rfl⟩
              rw [hv2] at ct WLB VQ2
              rw [HDV.out] at cv
              clear hv2
              obtain ⟨k0, k1, k2, k3⟩ := HK.out _ B6
              go_quiet (fail)
              go_wp2
              go_roundg (l.length + 1)
              case rel => exact ⟨_, pr ++ [d], l, rfl, rfl, PS2, WLB, VQ2, o7.keep (below_drewN (Below.refl _ _) _), q5.keep (below_drewN (Below.refl _ _) _), below_drewN B6 _⟩
              case measure => simp at hq4; omega
        | cons d l =>
          obtain ⟨hvs, hdv, WL⟩ := WS.out
          obtain ⟨a1, a2, a3, a4, a5⟩ := FO.out.above VQ.out hvs
          rw [BYD.out, DB.out, ← hdv] at a1 a2 a3 a4 a5
          have vr := FO.out.rg v VQ.out
          have v0 := vr.1
          have v1 := vr.2
          have cv := o4.cell v v0 v1
          have hdu : rd D9 v = d := by rw [YY.out v v0 v1 hvs (by rw [← hdv]; exact a1), ← hdv]
          rw [hdu] at cv
          have e6 : (v != s) = true := by simpa using hvs
          have cb := GG.out.c d a1 a2
          have fb := MD d a1 a2
          have LX := Bx.mk (show leastR C f (pre ++ [d]) = if pre = [] then rd C d - rd f d else min (leastR C f pre) (rd C d - rd f d) from by
            by_cases e : pre = []
            · rw [e, if_pos rfl]; rfl
            · rw [if_neg e, leastR_app e])
          have cc := (RR.out.keep (HBW.out _ BW4)).C.get d a1 a2
          have cf := o5.cell d a1 a2
          obtain ⟨k0, k1, k2, k3⟩ := HK.out _ BW4
          have LW2 := Bx.mk (show min lw (rd C d - rd f d) = if pre ++ [d] = [] then 1152921504606846976 else leastR C f (pre ++ [d]) from by
            rw [if_neg (by simp), LX.out, LW.out]
            by_cases e : pre = []
            · rw [if_pos e, if_pos e]; omega
            · rw [if_neg e, if_neg e])
          have PS2 := Bx.mk (show P = (pre ++ [d]) ++ l from by rw [PS.out]; simp)
          have WLB := Bx.mk WL
          have VQ2 := Bx.mk a5
          have HDV := Bx.mk hdu
          obtain ⟨x1, hx1⟩ : ∃ x, rd C d = x := ⟨_, rfl⟩
          obtain ⟨y1, hy1⟩ : ∃ y, rd f d = y := ⟨_, rfl⟩
          rw [hx1] at cc cb LW2
          rw [hy1] at cf fb LW2
          rw [hx1, hy1] at LX
          have i1 : IntKind.i64.wrap (x1 - y1) = x1 - y1 := IntWalk.i64_in _ (by omega)
          have hS := Bx.mk (fun W (h : Below wr.heap.size wr W) => (⟨(HK.out W (below_below BW4 h)).2.2.2, by have := (o4.keep h).cell v v0 v1; rw [HDV.out] at this; exact this, by have := (RR.out.keep (HBW.out _ (below_below BW4 h))).C.get d a1 a2; rw [hx1] at this; exact this, by have := (o5.keep h).cell d a1 a2; rw [hy1] at this; exact this⟩ : W.cell? ⟨b, 3, none⟩ = some (.slice (some ⟨bC, oC, none⟩) n kC) ∧ W.cell? ⟨g4, v.toNat, none⟩ = some (.int .i64 d) ∧ W.cell? ⟨bC, oC + d.toNat, none⟩ = some (.int .i64 x1) ∧ W.cell? ⟨gF, d.toNat, none⟩ = some (.int .i64 y1)))
          have bD := Below.drew (Below.refl wr.heap.size wr)
          clear a3 a4 a5 WL hdv hdu vr hvs hx1 hy1
          go_upto_region 13 with fail
          go_region_held_law (fun W => W.cell? ⟨b, 3, none⟩ = some (.slice (some ⟨bC, oC, none⟩) n kC) ∧ W.cell? ⟨g4, v.toNat, none⟩ = some (.int .i64 d) ∧ W.cell? ⟨bC, oC + d.toNat, none⟩ = some (.int .i64 x1) ∧ W.cell? ⟨gF, d.toNat, none⟩ = some (.int .i64 y1))
            (first | assumption | exact hS.out _ bD)
            ((refine istep_min rfl (.tmp 70) (.tmp 86) #[3, 3] rfl lw (x1 - y1) rfl rfl ?_))
          all_goals
            have o6 := o5.keep bD
            have o7 := o4.keep bD
            have B9 := below_below BW4 bD
            generalize wr.drew = w8 at *
            clear o5 o4 cc cf cv k0 k1 k2 k3 i1
            obtain ⟨k0, k1, k2, k3⟩ := HK.out _ B9
            have cv := o7.cell v v0 v1
            rw [HDV.out] at cv
            have ct := (RR.out.keep (HBW.out _ B9)).T.get d a1 a2
            obtain ⟨v2, hv2⟩ : ∃ v2, rd T d = v2 := ⟨_, rfl⟩
            rw [hv2] at ct WLB VQ2
            clear hv2
            go_upto_region 12 with fail
            go_quiet (fail)
            go_wp2
            go_roundg (l.length + 1)
            case rel => exact ⟨_, _, pre ++ [d], l, rfl, rfl, rfl, PS2, WLB, VQ2, LW2, o6.keep (below_drewN (Below.refl _ _) _), o7.keep (below_drewN (Below.refl _ _) _), below_drewN B9 _⟩
            case measure => simp at hq3; omega
end

section
variable {m n bT oT bX oX bC oC kT kX kC : Nat} {T X C : List Int} {w : World} {aM : Option Addr} {lm cM : Nat} {ms : List Int}
set_option maxHeartbeats 3200000 in
theorem side_any (hm1 : 1 ≤ m) (hm6 : m ≤ 60) (hM : RowOf w aM ms) (lM : ms.length = lm) :
    Calls Try.prog 10 #[(.agg #[.int .i64 m, .slice (some ⟨bT, oT, none⟩) n kT, .slice (some ⟨bX, oX, none⟩) n kX, .slice (some ⟨bC, oC, none⟩) n kC]), .slice aM lm cM] w fun e w' => ∃ g I, e = .returned (.slice (some ⟨g, 0, none⟩) m m) ∧ BOwnN w' w.heap.size g m m I ∧ Below w.heap.size w w' := by
  have MK := Bx.mk (fun W (h : Below w.heap.size w W) => hM.keep h)
  have LM := Bx.mk lM
  clear hM lM
  have hB := below_alloc (Below.refl w.heap.size w) (.cells #[.int .i64 m, .slice (some ⟨bT, oT, none⟩) n kT, .slice (some ⟨bX, oX, none⟩) n kX, .slice (some ⟨bC, oC, none⟩) n kC] 25)
  have hbox := box_new w #[.int .i64 m, .slice (some ⟨bT, oT, none⟩) n kT, .slice (some ⟨bX, oX, none⟩) n kX, .slice (some ⟨bC, oC, none⟩) n kC] 25
  go_enter Try.func10, Try.ntmps10
  go_upto_region 1 with fail
  generalize w.alloc _ = wa at hB hbox ⊢
  generalize w.heap.size = b at hbox ⊢
  have HK := Bx.mk (fun W (h : Below wa.heap.size wa W) => (⟨(hbox.keep h).cell 0, (hbox.keep h).cell 1, (hbox.keep h).cell 2, (hbox.keep h).cell 3⟩ : W.cell? ⟨b, 0, none⟩ = some (.int .i64 m) ∧ W.cell? ⟨b, 1, none⟩ = some (.slice (some ⟨bT, oT, none⟩) n kT) ∧ W.cell? ⟨b, 2, none⟩ = some (.slice (some ⟨bX, oX, none⟩) n kX) ∧ W.cell? ⟨b, 3, none⟩ = some (.slice (some ⟨bC, oC, none⟩) n kC)))
  have HBX := Bx.mk hbox
  have HBW := Bx.mk (fun W (h : Below wa.heap.size wa W) => below_below hB h)
  clear hbox
  obtain ⟨k0, k1, k2, k3⟩ := HK.out wa (Below.refl _ _)
  have hmk : ∀ w : World, (Instr.makeSlice 31 (.int .i64 m) (.int .i64 m)).run Try.prog w = .ok (.slice (some ⟨w.heap.size, 0, none⟩) m m) (w.alloc (.cells (madeCells #[.bool false] m) 4)) :=
    run_make_row' (P := Try.prog) 31 4 (.bool false) 1 Try.underlying31 info4 rfl .i64 .i64 m (by omega) (by omega)
  have o1 := bown_made wa wa.heap.size m (Nat.le_refl _) (by omega)
  have B1 := below_alloc (Below.refl wa.heap.size wa) (.cells (madeCells #[.bool false] m) 4)
  obtain ⟨gB, hgB⟩ : ∃ gB, wa.heap.size = gB := ⟨_, rfl⟩
  have hgl : wa.heap.size ≤ gB := by omega
  rw [show BOwnN (wa.alloc (.cells (madeCells #[.bool false] m) 4)) wa.heap.size wa.heap.size m m (List.replicate m false) = BOwnN (wa.alloc (.cells (madeCells #[.bool false] m) 4)) wa.heap.size gB m m (List.replicate m false) from by rw [hgB]] at o1
  go_upto_region 2 with fail
  generalize wa.alloc _ = wb at o1 B1 ⊢
  clear k0 k1 k2 k3 hmk hgB
  go_wp2
  go_loopg [6] 13 (fun q y wr => ∃ (i : Nat) (I : List Bool), y = .int .i64 i ∧ q = 13 - i ∧ i ≤ 12 ∧ BOwnN wr wa.heap.size gB m m I ∧ Below wa.heap.size wa wr)
  case atStart => exact ⟨0, _, rfl, by omega, by omega, o1, B1⟩
  case round =>
    clear o1 B1
    obtain ⟨i, I, rfl, hq, hi, oB, BW⟩ := hrel
    by_cases h3 : i < lm ∧ i < 12
    · obtain ⟨h1, h2⟩ := h3
      have hI1 : (i : Int) < lm := by omega
      have hI2 : (i : Int) < 12 := by omega
      obtain ⟨bM, oM, rfl, hbM, cM1⟩ := (MK.out _ (HBW.out _ BW)) i (by omega) (by rw [LM.out]; exact hI1)
      rw [Int.toNat_natCast] at cM1
      have WI := fun W => within10_any (rd ms i) (m : Int) (by omega) (by omega) W
      have kr := wi_rng (rd ms i) (m : Int) (by omega)
      obtain ⟨v, hv⟩ : ∃ v, wi (rd ms i) (m : Int) = v := ⟨_, rfl⟩
      rw [hv] at WI kr
      clear hv
      obtain ⟨v0, v1⟩ := kr
      obtain ⟨x, hx⟩ : ∃ x, rd ms i = x := ⟨_, rfl⟩
      rw [hx] at cM1 WI
      have hS := Bx.mk (fun W (h : Below wa.heap.size wa W) => (⟨(HK.out W h).1, by
        obtain ⟨b', o', e, _, c⟩ := (MK.out W (HBW.out _ h)) i (by omega) (by rw [LM.out]; exact hI1)
        cases e
        rw [hx, Int.toNat_natCast] at c
        exact c⟩ : W.cell? ⟨b, 0, none⟩ = some (.int .i64 m) ∧ W.cell? ⟨bM, oM + i, none⟩ = some (.int .i64 x)))
      have bD := below_below BW (Below.drew (Below.refl wr.heap.size wr))
      have cb := (oB.keep (Below.drew (Below.refl wr.heap.size wr))).cell v v0 v1
      have fb := (oB.keep (Below.drew (Below.refl wr.heap.size wr))).fz v
      have cb' := oB.cell v v0 v1
      have fb' := oB.fz v
      have o2 := (oB.keep (Below.drew (Below.refl wr.heap.size wr))).set v true
      have o3 := (oB.set v true).keep (Below.drew (Below.refl _ _))
      have B2 := below_set bD (p := ⟨gB, v.toNat, none⟩) hgl (.bool true)
      have B3 := below_below (below_set BW (p := ⟨gB, v.toNat, none⟩) hgl (.bool true)) (Below.drew (Below.refl _ _))
      clear hx
      go_upto_region 5 with fail
      go_region_held_law (fun W => W.cell? ⟨b, 0, none⟩ = some (.int .i64 m) ∧ W.cell? ⟨bM, oM + i, none⟩ = some (.int .i64 x))
        (first | assumption | exact hS.out _ bD | exact hS.out _ B2 | exact hS.out _ B3)
        ((go_at_call 27; (with_reducible refine (WI _).mono ?_); rintro e W1 ⟨rfl, rfl⟩))
      all_goals
        first
        | generalize (wr.setCell _ _).drew = w9 at o3 B3 ⊢
        | generalize wr.drew.setCell _ _ = w9 at o2 B2 ⊢
      all_goals
        clear cb fb cb' fb' bD
        go_wp2
        go_roundg (13 - (i + 1))
        case rel => first | exact ⟨i + 1, _, rfl, rfl, by omega, o3, B3⟩ | exact ⟨i + 1, _, rfl, rfl, by omega, o2, B2⟩
        case measure => omega
    · have hex : ¬ i < lm ∨ (i < lm ∧ ¬ i < 12) := by omega
      have OE := Bx.mk (oB.low3 (B' := w.heap.size) (by have := hB.size; omega))
      have BF := Bx.mk (HBW.out _ BW)
      clear h3 oB
      rcases hex with h1 | ⟨h1, h2⟩
      · have hI1 : ¬ (i : Int) < lm := by omega
        go_wp2
        go_ret
        exact ⟨gB, rfl, ⟨I, OE.out⟩, BF.out⟩
      · have hI1 : (i : Int) < lm := by omega
        have hI2 : ¬ (i : Int) < 12 := by omega
        go_wp2
        go_ret
        exact ⟨gB, rfl, ⟨I, OE.out⟩, BF.out⟩
end
section
variable {m n bT oT bX oX bC oC kT kX kC : Nat} {T X C : List Int} {w : World} {bF oF kF bI oI kI : Nat} {f : List Int} {inb : List Bool}
set_option maxHeartbeats 3200000 in
theorem both_any (G : Good m n T X C) (R : Rows3 w n bT oT bX oX bC oC T X C) (F : RowAt w bF oF n f) (I : BRowAt w bI oI m inb) (s t : Int) (hs0 : 0 ≤ s) (hs1 : s < m) (ht0 : 0 ≤ t) (ht1 : t < m) (hst : s ≠ t) (K : FlowOk m n T C s t f) (hs : rb inb s = true) (ht : rb inb t = false) :
    Calls Try.prog 13 #[(.agg #[.int .i64 m, .slice (some ⟨bT, oT, none⟩) n kT, .slice (some ⟨bX, oX, none⟩) n kX, .slice (some ⟨bC, oC, none⟩) n kC]), .int .i64 s, .int .i64 t, .slice (some ⟨bF, oF, none⟩) n kF, .slice (some ⟨bI, oI, none⟩) m kI] w fun e w' => e = .returned (.int .i64 (if valF T f s n = cutSum T C inb n then 0 else 14)) ∧ Below w.heap.size w w' := by
  have FC := fun W (h : Below w.heap.size w W) => flow_check (kT := kT) (kX := kX) (kC := kC) (kF := kF) G (R.keep h) (F.keep h) s t hs0 hs1 ht0 ht1 hst K
  have VA := fun W (h : Below w.heap.size w W) => value_any (kT := kT) (kX := kX) (kC := kC) (kF := kF) G (R.keep h) (F.keep h) (K.mid G) s
  have SU := fun W (h : Below w.heap.size w W) => sum_any (kT := kT) (kX := kX) (kC := kC) (kF := kI) G (R.keep h) (I.keep h)
  have II := Bx.mk I
  have HS := Bx.mk (And.intro hs ht)
  have m60 := G.m60
  clear G R F K I
  obtain ⟨x, hx⟩ : ∃ x, valF T f s n = x := ⟨_, rfl⟩
  obtain ⟨y, hy⟩ : ∃ y, cutSum T C inb n = y := ⟨_, rfl⟩
  rw [hx] at VA
  rw [hy] at SU
  rw [hx, hy]
  obtain ⟨r, hr⟩ : ∃ r : Int, (if x = y then (0 : Int) else 14) = r := ⟨_, rfl⟩
  rw [hr]
  have RB := Bx.mk hr
  clear hx hy hs ht hst hr
  have hB := below_alloc (Below.refl w.heap.size w) (.cells #[.int .i64 m, .slice (some ⟨bT, oT, none⟩) n kT, .slice (some ⟨bX, oX, none⟩) n kX, .slice (some ⟨bC, oC, none⟩) n kC] 25)
  have hbox := box_new w #[.int .i64 m, .slice (some ⟨bT, oT, none⟩) n kT, .slice (some ⟨bX, oX, none⟩) n kX, .slice (some ⟨bC, oC, none⟩) n kC] 25
  go_enter Try.func13, Try.ntmps13
  go_upto_region 1 with fail
  generalize w.alloc _ = wa at hB hbox ⊢
  generalize w.heap.size = b at hbox ⊢
  have HK := Bx.mk (fun W (h : Below wa.heap.size wa W) => (⟨(hbox.keep h).cell 0, (hbox.keep h).cell 1, (hbox.keep h).cell 2, (hbox.keep h).cell 3⟩ : W.cell? ⟨b, 0, none⟩ = some (.int .i64 m) ∧ W.cell? ⟨b, 1, none⟩ = some (.slice (some ⟨bT, oT, none⟩) n kT) ∧ W.cell? ⟨b, 2, none⟩ = some (.slice (some ⟨bX, oX, none⟩) n kX) ∧ W.cell? ⟨b, 3, none⟩ = some (.slice (some ⟨bC, oC, none⟩) n kC)))
  have HBX := Bx.mk hbox
  have HBW := Bx.mk (fun W (h : Below wa.heap.size wa W) => below_below hB h)
  clear hbox
  obtain ⟨k0, k1, k2, k3⟩ := HK.out wa (Below.refl _ _)
  have S1 := FC _ hB
  go_wp2_with fail
  refine S1.mono ?_
  rintro e w2 ⟨rfl, B2⟩
  clear S1 FC k0 k1 k2 k3
  obtain ⟨k0, k1, k2, k3⟩ := HK.out _ B2
  have c1 := (II.out.keep (HBW.out _ B2)).get s hs0 hs1
  have c2 := (II.out.keep (HBW.out _ B2)).get t ht0 ht1
  rw [HS.out.1] at c1
  rw [HS.out.2] at c2
  have e1 : ((m : Int) != (m : Int)) = false := by simp
  go_upto_region 6 with fail
  clear c1 c2 e1
  have HKW := Bx.mk (fun W (h : Below wa.heap.size wa W) => (⟨h, HK.out W h⟩ : Below wa.heap.size wa W ∧ W.cell? ⟨b, 0, none⟩ = some (.int .i64 m) ∧ W.cell? ⟨b, 1, none⟩ = some (.slice (some ⟨bT, oT, none⟩) n kT) ∧ W.cell? ⟨b, 2, none⟩ = some (.slice (some ⟨bX, oX, none⟩) n kX) ∧ W.cell? ⟨b, 3, none⟩ = some (.slice (some ⟨bC, oC, none⟩) n kC)))
  have BD := below_below B2 (Below.drew (Below.refl w2.heap.size w2))
  have V2 := fun W (h : Below wa.heap.size wa W) => VA W (HBW.out W h)
  have S2 := fun W (h : Below wa.heap.size wa W) => SU W (HBW.out W h)
  go_region_held_law (fun W => Below wa.heap.size wa W ∧ W.cell? ⟨b, 0, none⟩ = some (.int .i64 m) ∧ W.cell? ⟨b, 1, none⟩ = some (.slice (some ⟨bT, oT, none⟩) n kT) ∧ W.cell? ⟨b, 2, none⟩ = some (.slice (some ⟨bX, oX, none⟩) n kX) ∧ W.cell? ⟨b, 3, none⟩ = some (.slice (some ⟨bC, oC, none⟩) n kC))
    (first | assumption | exact HKW.out _ BD | exact HKW.out _ B3 | exact HKW.out _ B4)
    (first
      | (go_at_call 11; (with_reducible refine (V2 _ (And.left ‹_ ∧ _›)).mono ?_); rintro e W3 ⟨rfl, B3'⟩; have B3 := below_below (And.left ‹_ ∧ _›) B3')
      | (go_at_call 12; (with_reducible refine (S2 _ (And.left ‹_ ∧ _›)).mono ?_); rintro e W4 ⟨rfl, B4'⟩; have B4 := below_below (And.left ‹_ ∧ _›) B4'))
  all_goals
    have BF := Bx.mk (HBW.out _ B4)
    by_cases hxy : x = y
    · have e1 : (x != y) = false := by simpa using hxy
      obtain rfl : r = 0 := by rw [← RB.out, if_pos hxy]
      clear hxy RB
      go_wp2
      go_ret
      exact ⟨rfl, BF.out⟩
    · have e1 : (x != y) = true := by simpa using hxy
      obtain rfl : r = 14 := by rw [← RB.out, if_neg hxy]
      clear hxy RB
      go_wp2
      go_ret
      exact ⟨rfl, BF.out⟩
end
end Go.Proofs.Ytidcofjadlfahaa
