/- The walks of has, piece, Reach. -/
import Derived.Test.YtidcofjadlfahaaU8
set_option linter.unusedVariables false
set_option linter.unusedSimpArgs false
namespace Go.Proofs.Ytidcofjadlfahaa
open Go.RowKit

/-- A row of n truths that lies at a place. -/
structure BRowAt (w : World) (b o n : Nat) (xs : List Bool) : Prop where
  len : xs.length = n
  lt : b < w.heap.size
  get : ∀ i : Int, 0 ≤ i → i < n → w.cell? ⟨b, o + i.toNat, none⟩ = some (.bool (rb xs i))
theorem BRowAt.keep {w w' : World} {b o n : Nat} {xs : List Bool} (h : BRowAt w b o n xs) (hb : Below w.heap.size w w') : BRowAt w' b o n xs :=
  ⟨h.len, Nat.lt_of_lt_of_le h.lt hb.size, fun i h0 h1 => by rw [hb.cell (p := ⟨b, o + i.toNat, none⟩) h.lt]; exact h.get i h0 h1⟩
theorem BOwnN.at' {w : World} {B g cap n : Nat} {xs : List Bool} (h : BOwnN w B g cap n xs) : BRowAt w g 0 n xs := ⟨h.1, h.rng.2, fun i h0 h1 => by rw [Nat.zero_add]; exact h.cell i h0 h1⟩
theorem BOwnN.low3 {w : World} {B B' g cap n : Nat} {xs : List Bool} (h : BOwnN w B g cap n xs) (hB : B' ≤ B) : BOwnN w B' g cap n xs := by
  refine ⟨h.1, ?_⟩
  have h2 := h.2
  rcases h2 with ⟨a, b | ⟨g', cap', cur, hv, hg, r⟩⟩
  · exact ⟨a, Or.inl b⟩
  · exact ⟨a, Or.inr ⟨g', cap', cur, hv, Nat.le_trans hB hg, r⟩⟩
/-- Which are found. -/
def mk1 (xs : List Int) : List Bool := xs.map fun x => decide (0 ≤ x)
theorem mk1_none (m : Nat) : List.replicate m false = mk1 (List.replicate m (-1)) := by simp [mk1]
theorem mk1_length (xs : List Int) : (mk1 xs).length = xs.length := by simp [mk1]
theorem rb_mk1 {xs : List Int} {v : Int} (h0 : 0 ≤ v) (h1 : v < xs.length) : rb (mk1 xs) v = decide (0 ≤ rd xs v) := by
  have h : v.toNat < xs.length := by omega
  unfold rb mk1 rd
  rw [List.getD_eq_getElem?_getD, List.getD_eq_getElem?_getD, List.getElem?_map, List.getElem?_eq_getElem h]
  rfl
theorem sb_mk1 {xs : List Int} {v x : Int} (hx : 0 ≤ x) (h0 : 0 ≤ v) (h1 : v < xs.length) : sb (mk1 xs) v true = mk1 (st xs v x) := by
  unfold sb mk1 st
  rw [List.map_set, decide_eq_true hx]
/-- A dart that ends where it is as at v. -/
def okS (T : List Int) (inb : List Bool) (v d : Int) : Bool := rb inb (rd T (ot d)) == rb inb v
section
variable {w : World} {bF oF kF m : Nat} {inb : List Bool}
theorem has_any (F : BRowAt w bF oF m inb) (v : Int) (v0 : 0 ≤ v) (v1 : v < m) :
    Calls Try.prog 48 #[.slice (some ⟨bF, oF, none⟩) m kF, .int .i64 v] w fun e w' => e = .returned (.bool (rb inb v)) ∧ w = w' := by
  have c := F.get v v0 v1
  have e1 : decide (v ≥ 0) = true := decide_eq_true (by omega)
  have e2 : decide (v < (m : Int)) = true := decide_eq_true (by omega)
  obtain ⟨x, hx⟩ : ∃ x, rb inb v = x := ⟨_, rfl⟩
  rw [hx] at c ⊢
  clear hx
  cases x
  all_goals
    go_enter Try.func48, Try.ntmps48
    go_wp2
    go_ret
    exact ⟨rfl, rfl⟩
end
section
variable {m n bT oT bX oX bC oC kT kX kC : Nat} {T X C : List Int} {w : World} {bF oF kF : Nat} {inb : List Bool}
set_option maxHeartbeats 6400000 in
theorem piece_any (G : Good m n T X C) (R : Rows3 w n bT oT bX oX bC oC T X C) (F : BRowAt w bF oF m inb) (s : Int) (hs0 : 0 ≤ s) (hs1 : s < m) :
    Calls Try.prog 36 #[(.agg #[.int .i64 m, .slice (some ⟨bT, oT, none⟩) n kT, .slice (some ⟨bX, oX, none⟩) n kX, .slice (some ⟨bC, oC, none⟩) n kC]), .slice (some ⟨bF, oF, none⟩) m kF, .int .i64 s] w fun e w' => ∃ g, e = .returned (.slice (some ⟨g, 0, none⟩) m m) ∧ BOwnN w' w.heap.size g m m (mk1 (bEnd T (okS T inb s) m n s).by_) ∧ Below w.heap.size w w' := by
  have GG := Bx.mk G
  have RR := Bx.mk R
  have FF := Bx.mk F
  have m1 := G.m1
  have m60 := G.m60
  have n2 := G.n2
  have n240 := G.n240
  have EV := Bx.mk G.ev
  clear G R F
  have hB := below_alloc (Below.refl w.heap.size w) (.cells #[.int .i64 m, .slice (some ⟨bT, oT, none⟩) n kT, .slice (some ⟨bX, oX, none⟩) n kX, .slice (some ⟨bC, oC, none⟩) n kC] 25)
  have hbox := box_new w #[.int .i64 m, .slice (some ⟨bT, oT, none⟩) n kT, .slice (some ⟨bX, oX, none⟩) n kX, .slice (some ⟨bC, oC, none⟩) n kC] 25
  go_enter Try.func36, Try.ntmps36
  go_upto_region 1 with fail
  generalize w.alloc _ = wa at hB hbox ⊢
  generalize w.heap.size = b at hbox ⊢
  have HK := Bx.mk (fun W (h : Below wa.heap.size wa W) => (⟨(hbox.keep h).cell 0, (hbox.keep h).cell 1, (hbox.keep h).cell 2, (hbox.keep h).cell 3⟩ : W.cell? ⟨b, 0, none⟩ = some (.int .i64 m) ∧ W.cell? ⟨b, 1, none⟩ = some (.slice (some ⟨bT, oT, none⟩) n kT) ∧ W.cell? ⟨b, 2, none⟩ = some (.slice (some ⟨bX, oX, none⟩) n kX) ∧ W.cell? ⟨b, 3, none⟩ = some (.slice (some ⟨bC, oC, none⟩) n kC)))
  have HBX := Bx.mk hbox
  have HBW := Bx.mk (fun W (h : Below wa.heap.size wa W) => below_below hB h)
  clear hbox
  have HH := fun W (h : Below wa.heap.size wa W) (d : Int) (d0 : 0 ≤ d) (d1 : d < n) => ghead_any (kT := kT) (kX := kX) (kC := kC) GG.out (RR.out.keep (HBW.out W h)) d d0 d1
  have HR := fun W (h : Below wa.heap.size wa W) (v : Int) (v0 : 0 ≤ v) (v1 : v < m) => has_any (kF := kF) (FF.out.keep (HBW.out W h)) v v0 v1
  obtain ⟨k0, k1, k2, k3⟩ := HK.out wa (Below.refl _ _)
  have hmk : ∀ w : World, (Instr.makeSlice 31 (.int .i64 m) (.int .i64 m)).run Try.prog w = .ok (.slice (some ⟨w.heap.size, 0, none⟩) m m) (w.alloc (.cells (madeCells #[.bool false] m) 4)) :=
    run_make_row' (P := Try.prog) 31 4 (.bool false) 1 Try.underlying31 info4 rfl .i64 .i64 m (by omega) (by omega)
  have o1 := bown_made wa wa.heap.size m (Nat.le_refl _) (by omega)
  have B1 := below_alloc (Below.refl wa.heap.size wa) (.cells (madeCells #[.bool false] m) 4)
  obtain ⟨gB, hgB⟩ : ∃ gB, wa.heap.size = gB := ⟨_, rfl⟩
  have hgl : wa.heap.size ≤ gB := by omega
  rw [show BOwnN (wa.alloc (.cells (madeCells #[.bool false] m) 4)) wa.heap.size wa.heap.size m m (List.replicate m false) = BOwnN (wa.alloc (.cells (madeCells #[.bool false] m) 4)) wa.heap.size gB m m (mk1 (List.replicate m (-1))) from by rw [hgB, mk1_none]] at o1
  go_upto_region 2 with fail
  generalize wa.alloc _ = wb at o1 B1 ⊢
  clear k0 k1 k2 k3 hmk hgB
  have cs := o1.cell s hs0 hs1
  have fs := o1.fz s
  have o2 := o1.set s true
  rw [sb_mk1 (x := (n : Int)) (by omega) hs0 (by simp; omega)] at o2
  have B2 := below_set B1 (p := ⟨gB, s.toNat, none⟩) hgl (.bool true)
  have hqs : Own ((wb.setCell ⟨gB, s.toNat, none⟩ (.bool true)).alloc (.cells #[.int .i64 s] 3)) (gB + 1) (.slice (some ⟨(wb.setCell ⟨gB, s.toNat, none⟩ (.bool true)).heap.size, 0, none⟩) 1 1) [s] := (own_lit (wb.setCell ⟨gB, s.toNat, none⟩ (.bool true)) (gB + 1) [s] (by rw [size_set]; have := o1.rng.2; omega) (by simp)).own
  have o3 := o2.keep (below_alloc (Below.refl (wb.setCell ⟨gB, s.toNat, none⟩ (.bool true)).heap.size (wb.setCell ⟨gB, s.toNat, none⟩ (.bool true))) (.cells #[.int .i64 s] 3))
  have B3 := below_alloc B2 (.cells #[.int .i64 s] 3)
  rw [size_set] at hqs
  obtain ⟨k0, k1, k2, k3⟩ := HK.out _ B1
  clear o1 o2 B1 B2
  go_wp2
  clear k0 k1 k2 k3 cs fs
  generalize (wb.setCell ⟨gB, s.toNat, none⟩ (.bool true)).alloc (.cells #[.int .i64 s] 3) = wc at hqs o3 B3 ⊢
  generalize wb.heap.size = gq at hqs ⊢
  go_loopg [8, 9] (m + 2) (fun q vq y10 wx => ∃ i : Nat, y10 = .int .i64 i ∧ q = m + 2 - i ∧ i ≤ (bTo T (okS T inb s) m n s i).q.length ∧ BOwnN wx wa.heap.size gB m m (mk1 (bTo T (okS T inb s) m n s i).by_) ∧ Own wx (gB + 1) vq (bTo T (okS T inb s) m n s i).q ∧ Below wa.heap.size wa wx)
  case atStart => exact ⟨0, rfl, by omega, by omega, o3, hqs, B3⟩
  case round =>
    clear hqs o3 B3
    obtain ⟨i, rfl, hq, hi, oB, oQ, BW⟩ := hrel
    have IB := Bx.mk (bTo_at (ok := okS T inb s) EV.out GG.out.t hs0 hs1 hi)
    have hlen := IB.out.len
    obtain ⟨S, hSS⟩ : ∃ S, bTo T (okS T inb s) m n s i = S := ⟨_, rfl⟩
    rw [hSS] at hi oB oQ hlen IB
    have SB := Bx.mk hSS
    clear hSS
    obtain ⟨aq, cq, rfl, hqr⟩ := oQ.row
    obtain ⟨k0, k1, k2, k3⟩ := HK.out _ BW
    by_cases hlt : i < S.q.length
    · have hltI : (i : Int) < S.q.length := by omega
      go_wp2
      go_step3
      go_wp2
      go_step3
      go_wp2
      clear k0 k1 k2 k3 hqr
      go_loopg [8, 30] (n + 1) (fun q vq y54 wx => ∃ j : Nat, y54 = .int .i64 j ∧ q = n + 1 - j ∧ j ≤ n ∧ BOwnN wx wa.heap.size gB m m (mk1 (bRow T (okS T inb s) (rd S.q i) S j).by_) ∧ Own wx (gB + 1) vq (bRow T (okS T inb s) (rd S.q i) S j).q ∧ Below wa.heap.size wa wx)
      case atStart => exact ⟨0, rfl, by omega, by omega, oB, oQ, BW⟩
      case round =>
        clear oB oQ BW
        obtain ⟨j, rfl, hq2, hj, oB, oQ, BW⟩ := hrel
        obtain ⟨R1, R2, R3⟩ := IB.out.row hlt EV.out GG.out.t j hj
        have R3' := R3 i (by omega) (by omega)
        have hl1 := R1.len
        have NX := Bx.mk (show bRow T (okS T inb s) (rd S.q i) S (j + 1) = bD T (okS T inb s) (rd S.q i) (bRow T (okS T inb s) (rd S.q i) S j) j from rfl)
        obtain ⟨S1, hS1⟩ : ∃ S1, bRow T (okS T inb s) (rd S.q i) S j = S1 := ⟨_, rfl⟩
        rw [hS1] at oB oQ R1 R2 R3' hl1 NX
        have HS1 := Bx.mk hS1
        clear hS1 R3
        have RB := Bx.mk R1
        by_cases hjn : j < n
        · have hjI : (j : Int) < n := by omega
          obtain ⟨a, ha⟩ : ∃ a, rd S.q i = a := ⟨_, rfl⟩
          rw [ha] at R3' NX
          obtain ⟨aq1, cq1, rfl, hqr⟩ := oQ.row
          obtain ⟨bq, oq, rfl, RQ⟩ := hqr.at' rfl (by omega)
          have cqa := RQ.get i (by omega) (by omega)
          rw [R3', Int.toNat_natCast] at cqa
          have lq := RQ.lt
          have ct := (RR.out.keep (HBW.out _ BW)).T.get j (by omega) hjI
          have HA := Bx.mk ha
          have HHj := HH _ BW j (by omega) hjI
          have oj := ot_rng j n (by omega) hjI EV.out
          have vr := GG.out.t (ot j) oj.1 oj.2
          have v0 := vr.1
          have v1 := vr.2
          have lby := RB.out.lb
          have cb := oB.cell (rd T (ot j)) v0 v1
          rw [rb_mk1 v0 (by rw [lby]; exact v1)] at cb
          have KX := Bx.mk (show okS T inb s j = (rb inb (rd T (ot j)) == rb inb s) from rfl)
          rw [Int.toNat_natCast] at ct
          clear ha R1 hqr R3' oj vr
          obtain ⟨t, ht⟩ : ∃ t, rd T j = t := ⟨_, rfl⟩
          obtain ⟨v, hv⟩ : ∃ v, rd T (ot j) = v := ⟨_, rfl⟩
          rw [ht] at ct
          rw [hv] at cb v0 v1 HHj KX
          obtain ⟨c, hc⟩ : ∃ c, rd S1.by_ v = c := ⟨_, rfl⟩
          rw [hc] at cb
          have TV := Bx.mk (And.intro ht (And.intro hv hc))
          have LB := Bx.mk lby
          clear ht hv hc lby
          obtain ⟨k0, k1, k2, k3⟩ := HK.out _ BW
          go_wp2_with fail
          refine HHj.mono ?_
          rintro e w5 ⟨rfl, B5⟩
          clear k0 k1 k2 k3 HHj
          have cq5 := (below_old B5 lq).trans cqa
          have cb5 := (below_old B5 oB.rng.2).trans cb
          have lq5 := Nat.lt_of_lt_of_le lq B5.size
          have BW5 := below_below BW B5
          have oB5 := oB.keep B5
          have oQ5 := oQ.keep B5
          clear ct cqa cb RQ BW oB oQ B5
          by_cases c1 : t = a
          · have e1 : (t != a) = false := by simpa using c1
            by_cases c3 : c < 0
            · rw [decide_eq_false (by omega)] at cb5
              have H1 := HR _ BW5 v v0 v1
              have H2 := HR _ BW5 s hs0 hs1
              obtain ⟨x, hx⟩ : ∃ x, rb inb v = x := ⟨_, rfl⟩
              obtain ⟨y, hy⟩ : ∃ y, rb inb s = y := ⟨_, rfl⟩
              rw [hx] at H1 KX
              rw [hy] at H2 KX
              clear hx hy
              by_cases hxy : x = y
              · subst hxy
                have N2 := Bx.mk (show bRow T (okS T inb s) a S (j + 1) = ⟨st S1.by_ v j, S1.q ++ [v]⟩ from by
                  rw [NX.out, bD, if_pos ⟨TV.out.1.trans c1, by rw [KX.out]; simp, by rw [TV.out.2.1, TV.out.2.2]; exact c3⟩, TV.out.2.1])
                clear c1 c3 KX
                cases x
                all_goals
                  go_upto_region 12 with (go_at_call 48; first | (with_reducible refine H1.mono ?_; rintro e w6 ⟨rfl, rfl⟩) | (with_reducible refine H2.mono ?_; rintro e w6 ⟨rfl, rfl⟩))
                  have fb := oB5.fz v
                  have cv := oB5.cell v v0 v1
                  have oB7 := oB5.set v true
                  rw [sb_mk1 (x := (j : Int)) (by omega) v0 (by rw [LB.out]; exact v1)] at oB7
                  have oQ7 : Own (w5.setCell ⟨gB, v.toNat, none⟩ (.bool true)) (gB + 1) (.slice (some ⟨bq, oq, none⟩) S1.q.length cq1) S1.q := own_far' oQ5 (show gB < gB + 1 by omega) _
                  have BW7 := below_set BW5 (p := ⟨gB, v.toNat, none⟩) hgl (.bool true)
                  clear H1 H2
                  go_upto_region 13 with fail
                  clear fb cv cq5 cb5
                  generalize w5.setCell ⟨gB, v.toNat, none⟩ (.bool true) = w7 at oB7 oQ7 BW7 ⊢
                  have oB8 := oB7.keep (below_alloc (Below.refl w7.heap.size w7) (.cells #[.int .i64 v] 3))
                  have oQ8 := oQ7.keep (below_alloc (Below.refl w7.heap.size w7) (.cells #[.int .i64 v] 3))
                  have BW8 := below_alloc BW7 (.cells #[.int .i64 v] 3)
                  have n8 : RowOf (w7.alloc (.cells #[.int .i64 v] 3)) (some ⟨w7.heap.size, 0, none⟩) [v] := row_new w7 [v]
                  have hB8 : gB + 1 ≤ (w7.alloc (.cells #[.int .i64 v] 3)).heap.size := by have := oB8.rng.2; omega
                  clear oB5 oQ5 BW5 oB7 oQ7 BW7
                  go_wp2_with (at_builtin; refine app_any rfl (.tmp 62) (.tmp 64) rfl (gB + 1) _ S1.q [v] rfl oQ8 (some ⟨w7.heap.size, 0, none⟩) 1 1 rfl rfl n8 (by omega) (by omega) hB8 (S1.q.length + 1) rfl ?_; intro g9 p9 w9 q9 gr9 _; have B9 := below_app BW8 oQ8 (by omega) gr9; have oB9 := oB8.grown gr9 (by have := Own.block oQ8 (b := gB) (by omega); exact this); have Q9 := Bx.mk q9; clear q9 gr9 oQ8 n8 oB8 BW8)
                  go_roundg (n + 1 - (j + 1))
                  case rel => exact ⟨j + 1, rfl, rfl, by omega, by rw [HA.out, N2.out]; exact oB9, by rw [HA.out, N2.out]; have := Q9.out.own; simpa using this, B9⟩
                  case measure => omega
              · have N2 := Bx.mk (show bRow T (okS T inb s) a S (j + 1) = S1 from by rw [NX.out, bD, if_neg (fun h => by have := h.2.1; rw [KX.out] at this; exact hxy (by simpa using this))])
                clear c1 c3 KX
                cases x
                all_goals cases y
                all_goals first
                  | exact absurd rfl hxy
                  | (clear hxy
                     go_wp2_with (go_at_call 48; first | (with_reducible refine H1.mono ?_; rintro e w6 ⟨rfl, rfl⟩) | (with_reducible refine H2.mono ?_; rintro e w6 ⟨rfl, rfl⟩))
                     go_roundg (n + 1 - (j + 1))
                     case rel => exact ⟨j + 1, rfl, rfl, by omega, by rw [HA.out, N2.out]; exact oB5, by rw [HA.out, N2.out]; exact oQ5, BW5⟩
                     case measure => omega)
            · rw [decide_eq_true (by omega)] at cb5
              have N2 := Bx.mk (show bRow T (okS T inb s) a S (j + 1) = S1 from by rw [NX.out, bD, if_neg (fun h => c3 (by have := h.2.2; rwa [TV.out.2.1, TV.out.2.2] at this))])
              clear c1 c3
              go_wp2
              go_roundg (n + 1 - (j + 1))
              case rel => exact ⟨j + 1, rfl, rfl, by omega, by rw [HA.out, N2.out]; exact oB5, by rw [HA.out, N2.out]; exact oQ5, BW5⟩
              case measure => omega
          · have e1 : (t != a) = true := by simpa using c1
            have N2 := Bx.mk (show bRow T (okS T inb s) a S (j + 1) = S1 from by rw [NX.out, bD, if_neg (fun h => c1 (TV.out.1.symm.trans h.1))])
            clear c1
            go_wp2
            go_roundg (n + 1 - (j + 1))
            case rel => exact ⟨j + 1, rfl, rfl, by omega, by rw [HA.out, N2.out]; exact oB5, by rw [HA.out, N2.out]; exact oQ5, BW5⟩
            case measure => omega
        · have hjI : ¬ (j : Int) < n := by omega
          obtain rfl : n = j := by omega
          have N2 := Bx.mk (show bTo T (okS T inb s) m n s (i + 1) = S1 from by rw [bTo, SB.out, if_pos hlt]; exact HS1.out)
          have hnext : i + 1 ≤ S1.q.length := by omega
          clear NX
          go_wp2
          go_roundg (m + 2 - (i + 1))
          case rel => exact ⟨i + 1, rfl, rfl, by rw [N2.out]; exact hnext, by rw [N2.out]; exact oB, by rw [N2.out]; exact oQ, BW⟩
          case measure => omega
    · have hltI : ¬ (i : Int) < S.q.length := by omega
      have NE := Bx.mk (show (bEnd T (okS T inb s) m n s).by_ = S.by_ from by
        have := bTo_stop (T := T) (ok := okS T inb s) (m := m) (n := n) (r := s) (i := i) (by rw [SB.out]; exact hlt) (m - i)
        rw [show i + (m - i) = m from by omega, SB.out] at this
        unfold bEnd
        rw [this])
      have BF := Bx.mk (HBW.out _ BW)
      have oE := oB.low3 (B' := w.heap.size) (by have := hB.size; omega)
      have OE := Bx.mk oE
      clear oE
      go_wp2
      go_ret
      exact ⟨gB, rfl, by rw [NE.out]; exact OE.out, BF.out⟩
end
end Go.Proofs.Ytidcofjadlfahaa
