/- The walks of room, find. -/
import Derived.Test.YtidcofjadlfahaaU6
import Derived.Test.YtidcofjadlfahaaU7
import Derived.Test.YtidcofjadlfahaaAp
set_option linter.unusedVariables false
set_option linter.unusedSimpArgs false
namespace Go.Proofs.Ytidcofjadlfahaa
open Go.RowKit

/-- Numbers that are not too great. -/
def Mid (n : Nat) (f : List Int) : Prop := ∀ d : Int, 0 ≤ d → d < n → -1099511627776 ≤ rd f d ∧ rd f d ≤ 1099511627776
/-- There is room left on a dart. -/
def okR (C f : List Int) (d : Int) : Bool := decide (0 < rd C d - rd f d)
theorem Good.ht {m n : Nat} {T X C : List Int} (G : Good m n T X C) : ∀ d : Int, 0 ≤ d → d < n → 0 ≤ rd T d ∧ rd T d < m := G.t
theorem own_far' {w : World} {B : Nat} {v : Value} {xs : List Int} (h : Own w B v xs) {p : Addr} (hp : p.block < B) (u : Value) : Own (w.setCell p u) B v xs := by
  rcases h.cases with ⟨rfl, rfl⟩ | ⟨g, c, rfl, _, _, k⟩
  · exact Own.nil _ _
  · have := k.rng.1
    exact (k.far (p := p) (by omega) u).own
theorem OwnN.low3 {w : World} {B B' g cap n : Nat} {xs : List Int} (h : OwnN w B g cap n xs) (hB : B' ≤ B) : OwnN w B' g cap n xs := by
  have hl := h.1
  have := Own.low h.own hB
  unfold Own at this
  rw [hl] at this
  exact ⟨hl, this⟩
section
variable {m n bT oT bX oX bC oC kT kX kC : Nat} {T X C : List Int} {w : World} {bF oF kF : Nat} {f : List Int}
theorem room_any (G : Good m n T X C) (R : Rows3 w n bT oT bX oX bC oC T X C) (F : RowAt w bF oF n f) (M : Mid n f) (d : Int) (h0 : 0 ≤ d) (h1 : d < n) :
    Calls Try.prog 35 #[(.agg #[.int .i64 m, .slice (some ⟨bT, oT, none⟩) n kT, .slice (some ⟨bX, oX, none⟩) n kX, .slice (some ⟨bC, oC, none⟩) n kC]), .slice (some ⟨bF, oF, none⟩) n kF, .int .i64 d] w fun e w' => e = .returned (.int .i64 (rd C d - rd f d)) ∧ Below w.heap.size w w' := by
  have RR := Bx.mk R
  have FF := Bx.mk F
  have cb := G.c d h0 h1
  have fb := M d h0 h1
  have g1 : decide (d ≥ (n : Int)) = false := decide_eq_false (by omega)
  have CC := Bx.mk (fun W (h : Below w.heap.size w W) => (RR.out.keep h).C.get d h0 h1)
  have CF := Bx.mk (fun W (h : Below w.heap.size w W) => (FF.out.keep h).get d h0 h1)
  obtain ⟨x, hx⟩ : ∃ x, rd C d = x := ⟨_, rfl⟩
  obtain ⟨y, hy⟩ : ∃ y, rd f d = y := ⟨_, rfl⟩
  rw [hx] at CC cb ⊢
  rw [hy] at CF fb ⊢
  clear G R F
  have hB := below_alloc (Below.refl w.heap.size w) (.cells #[.int .i64 m, .slice (some ⟨bT, oT, none⟩) n kT, .slice (some ⟨bX, oX, none⟩) n kX, .slice (some ⟨bC, oC, none⟩) n kC] 25)
  have hbox := box_new w #[.int .i64 m, .slice (some ⟨bT, oT, none⟩) n kT, .slice (some ⟨bX, oX, none⟩) n kX, .slice (some ⟨bC, oC, none⟩) n kC] 25
  go_enter Try.func35, Try.ntmps35
  go_upto_region 1 with fail
  generalize w.alloc _ = wa at hB hbox ⊢
  generalize w.heap.size = b at hbox ⊢
  have HK := Bx.mk (fun W (h : Below wa.heap.size wa W) => (⟨(hbox.keep h).cell 0, (hbox.keep h).cell 1, (hbox.keep h).cell 2, (hbox.keep h).cell 3⟩ : W.cell? ⟨b, 0, none⟩ = some (.int .i64 m) ∧ W.cell? ⟨b, 1, none⟩ = some (.slice (some ⟨bT, oT, none⟩) n kT) ∧ W.cell? ⟨b, 2, none⟩ = some (.slice (some ⟨bX, oX, none⟩) n kX) ∧ W.cell? ⟨b, 3, none⟩ = some (.slice (some ⟨bC, oC, none⟩) n kC)))
  have HBX := Bx.mk hbox
  have HBW := Bx.mk (fun W (h : Below wa.heap.size wa W) => below_below hB h)
  clear hbox
  obtain ⟨k0, k1, k2, k3⟩ := HK.out wa (Below.refl _ _)
  have cc := CC.out _ hB
  have cf := CF.out _ hB
  have y1 : IntKind.i64.wrap (x - y) = x - y := IntWalk.i64_in _ (by omega)
  have HB := Bx.mk hB
  clear hx hy M
  go_upto_region 3 with fail
  go_quiet (fail)
  go_wp2
  go_ret
  exact ⟨rfl, below_drewN HB.out _⟩
set_option maxHeartbeats 6400000 in
theorem find_any (G : Good m n T X C) (R : Rows3 w n bT oT bX oX bC oC T X C) (F : RowAt w bF oF n f) (M : Mid n f) (s : Int) (hs0 : 0 ≤ s) (hs1 : s < m) :
    Calls Try.prog 33 #[(.agg #[.int .i64 m, .slice (some ⟨bT, oT, none⟩) n kT, .slice (some ⟨bX, oX, none⟩) n kX, .slice (some ⟨bC, oC, none⟩) n kC]), .int .i64 s, .slice (some ⟨bF, oF, none⟩) n kF] w fun e w' => ∃ g, e = .returned (.slice (some ⟨g, 0, none⟩) m m) ∧ OwnN w' w.heap.size g m m (bEnd T (okR C f) m n s).by_ ∧ Below w.heap.size w w' := by
  have GG := Bx.mk G
  have RR := Bx.mk R
  have FF := Bx.mk F
  have MM := Bx.mk M
  have m1 := G.m1
  have m60 := G.m60
  have n2 := G.n2
  have n240 := G.n240
  have EV := Bx.mk G.ev
  clear G R F M
  have hB := below_alloc (Below.refl w.heap.size w) (.cells #[.int .i64 m, .slice (some ⟨bT, oT, none⟩) n kT, .slice (some ⟨bX, oX, none⟩) n kX, .slice (some ⟨bC, oC, none⟩) n kC] 25)
  have hbox := box_new w #[.int .i64 m, .slice (some ⟨bT, oT, none⟩) n kT, .slice (some ⟨bX, oX, none⟩) n kX, .slice (some ⟨bC, oC, none⟩) n kC] 25
  go_enter Try.func33, Try.ntmps33
  go_upto_region 1 with fail
  generalize w.alloc _ = wa at hB hbox ⊢
  generalize w.heap.size = b at hbox ⊢
  have HK := Bx.mk (fun W (h : Below wa.heap.size wa W) => (⟨(hbox.keep h).cell 0, (hbox.keep h).cell 1, (hbox.keep h).cell 2, (hbox.keep h).cell 3⟩ : W.cell? ⟨b, 0, none⟩ = some (.int .i64 m) ∧ W.cell? ⟨b, 1, none⟩ = some (.slice (some ⟨bT, oT, none⟩) n kT) ∧ W.cell? ⟨b, 2, none⟩ = some (.slice (some ⟨bX, oX, none⟩) n kX) ∧ W.cell? ⟨b, 3, none⟩ = some (.slice (some ⟨bC, oC, none⟩) n kC)))
  have HBX := Bx.mk hbox
  have HBW := Bx.mk (fun W (h : Below wa.heap.size wa W) => below_below hB h)
  clear hbox
  have HH := fun W (h : Below wa.heap.size wa W) (d : Int) (d0 : 0 ≤ d) (d1 : d < n) => ghead_any (kT := kT) (kX := kX) (kC := kC) GG.out (RR.out.keep (HBW.out W h)) d d0 d1
  have HR := fun W (h : Below wa.heap.size wa W) (d : Int) (d0 : 0 ≤ d) (d1 : d < n) => room_any (kT := kT) (kX := kX) (kC := kC) (kF := kF) GG.out (RR.out.keep (HBW.out W h)) (FF.out.keep (HBW.out W h)) MM.out d d0 d1
  obtain ⟨k0, k1, k2, k3⟩ := HK.out wa (Below.refl _ _)
  have hmk : ∀ w : World, (Instr.makeSlice 22 (.int .i64 m) (.int .i64 m)).run Try.prog w = .ok (.slice (some ⟨w.heap.size, 0, none⟩) m m) (w.alloc (.cells (madeCells #[.int .i64 0] m) 3)) :=
    run_make_row' (P := Try.prog) 22 3 (.int .i64 0) 8 Try.underlying22 info3 rfl .i64 .i64 m (by omega) (by omega)
  have o1 := own_made wa wa.heap.size m (Nat.le_refl _) (by omega)
  have B1 := below_alloc (Below.refl wa.heap.size wa) (.cells (madeCells #[.int .i64 0] m) 3)
  have d1 : ¬ (60 : Int) < m := by omega
  have d2 : ¬ (m : Int) < 0 := by omega
  have d3 : (m : Int) > 0 := by omega
  obtain ⟨gB, hgB⟩ : ∃ gB, wa.heap.size = gB := ⟨_, rfl⟩
  have hgl : wa.heap.size ≤ gB := by omega
  rw [show OwnN (wa.alloc (.cells (madeCells #[.int .i64 0] m) 3)) wa.heap.size wa.heap.size m m (List.replicate m 0) = OwnN (wa.alloc (.cells (madeCells #[.int .i64 0] m) 3)) wa.heap.size gB m m (part m 0 (-1) 0) from by rw [hgB]; rfl] at o1
  go_upto_region 2 with fail
  generalize wa.alloc _ = wb at o1 B1 ⊢
  clear k0 k1 k2 k3 hmk hgB d1 d2 d3
  go_wp2
  go_loopg [21] (m + 1) (fun q y wr => ∃ j : Nat, y = .int .i64 j ∧ q = m + 1 - j ∧ j ≤ m ∧ OwnN wr wa.heap.size gB m m (part m j (-1) 0) ∧ Below wa.heap.size wa wr)
  case atStart => exact ⟨0, rfl, by omega, by omega, o1, B1⟩
  case round =>
    clear o1 B1
    obtain ⟨j, rfl, hq, hj, o1, BW⟩ := hrel
    by_cases hjm : j < m
    · have hjI : (j : Int) < m := by omega
      have c1 := o1.cell j (by omega) hjI
      have f1 := o1.fz j
      have h2 := o1.set j (-1)
      rw [Int.toNat_natCast] at c1 f1
      rw [st_part m j (-1) 0 hjm, Int.toNat_natCast] at h2
      have B2 := below_set BW (p := ⟨gB, j, none⟩) hgl (.int .i64 (-1))
      clear o1 BW
      go_wp2
      go_roundg (m + 1 - (j + 1))
      case rel => exact ⟨j + 1, rfl, rfl, by omega, h2, B2⟩
      case measure => omega
    · have hjI : ¬ (j : Int) < m := by omega
      obtain rfl : m = j := by omega
      rw [show part m m (-1) 0 = List.replicate m (-1) from by simp [part]] at o1
      have cs := o1.cell s hs0 hs1
      have fs := o1.fz s
      have o2 := o1.set s n
      have B2 := below_set BW (p := ⟨gB, s.toNat, none⟩) hgl (.int .i64 (n : Int))
      have hqs : Own ((wr.setCell ⟨gB, s.toNat, none⟩ (.int .i64 (n : Int))).alloc (.cells #[.int .i64 s] 3)) (gB + 1) (.slice (some ⟨(wr.setCell ⟨gB, s.toNat, none⟩ (.int .i64 n)).heap.size, 0, none⟩) 1 1) [s] := (own_lit (wr.setCell ⟨gB, s.toNat, none⟩ (.int .i64 n)) (gB + 1) [s] (by rw [size_set]; have := o1.rng.2; omega) (by simp)).own
      have o3 := o2.keep (below_alloc (Below.refl (wr.setCell ⟨gB, s.toNat, none⟩ (.int .i64 n)).heap.size (wr.setCell ⟨gB, s.toNat, none⟩ (.int .i64 n))) (.cells #[.int .i64 s] 3))
      have B3 := below_alloc B2 (.cells #[.int .i64 s] 3)
      rw [size_set] at hqs
      have e1 : decide (s < 0) = false := decide_eq_false (by omega)
      have e2 : decide (s ≥ (m : Int)) = false := decide_eq_false (by omega)
      obtain ⟨k0, k1, k2, k3⟩ := HK.out _ BW
      clear o1 o2 BW B2 hq hj hjm hjI
      go_wp2
      clear k0 k1 k2 k3 cs fs
      generalize (wr.setCell ⟨gB, s.toNat, none⟩ (.int .i64 (n : Int))).alloc (.cells #[.int .i64 s] 3) = wc at hqs o3 B3 ⊢
      generalize wr.heap.size = gq at hqs ⊢
      go_loopg [9, 10] (m + 2) (fun q vq y10 wx => ∃ i : Nat, y10 = .int .i64 i ∧ q = m + 2 - i ∧ i ≤ (bTo T (okR C f) m n s i).q.length ∧ OwnN wx wa.heap.size gB m m (bTo T (okR C f) m n s i).by_ ∧ Own wx (gB + 1) vq (bTo T (okR C f) m n s i).q ∧ Below wa.heap.size wa wx)
      case atStart => exact ⟨0, rfl, by omega, by omega, o3, hqs, B3⟩
      case round =>
        clear hqs o3 B3
        obtain ⟨i, rfl, hq, hi, oB, oQ, BW⟩ := hrel
        have IB := Bx.mk (bTo_at (ok := okR C f) EV.out GG.out.t hs0 hs1 hi)
        have hlen := IB.out.len
        obtain ⟨S, hSS⟩ : ∃ S, bTo T (okR C f) m n s i = S := ⟨_, rfl⟩
        rw [hSS] at hi oB oQ hlen IB
        have SB := Bx.mk hSS
        clear hSS
        obtain ⟨aq, cq, rfl, hqr⟩ := oQ.row
        obtain ⟨k0, k1, k2, k3⟩ := HK.out _ BW
        by_cases hlt : i < S.q.length
        · have hltI : (i : Int) < S.q.length := by omega
          go_wp2
          go_step3
          go_wp2
          go_step3
          go_wp2
          clear k0 k1 k2 k3 hqr
          go_loopg [9, 54] (n + 1) (fun q vq y54 wx => ∃ j : Nat, y54 = .int .i64 j ∧ q = n + 1 - j ∧ j ≤ n ∧ OwnN wx wa.heap.size gB m m (bRow T (okR C f) (rd S.q i) S j).by_ ∧ Own wx (gB + 1) vq (bRow T (okR C f) (rd S.q i) S j).q ∧ Below wa.heap.size wa wx)
          case atStart => exact ⟨0, rfl, by omega, by omega, oB, oQ, BW⟩
          case round =>
            clear oB oQ BW
            obtain ⟨j, rfl, hq2, hj, oB, oQ, BW⟩ := hrel
            obtain ⟨R1, R2, R3⟩ := IB.out.row hlt EV.out GG.out.t j hj
            have R3' := R3 i (by omega) (by omega)
            have hl1 := R1.len
            have NX := Bx.mk (show bRow T (okR C f) (rd S.q i) S (j + 1) = bD T (okR C f) (rd S.q i) (bRow T (okR C f) (rd S.q i) S j) j from rfl)
            obtain ⟨S1, hS1⟩ : ∃ S1, bRow T (okR C f) (rd S.q i) S j = S1 := ⟨_, rfl⟩
            rw [hS1] at oB oQ R1 R2 R3' hl1 NX
            have HS1 := Bx.mk hS1
            clear hS1 R3
            have RB := Bx.mk R1
            by_cases hjn : j < n
            · have hjI : (j : Int) < n := by omega
              obtain ⟨a, ha⟩ : ∃ a, rd S.q i = a := ⟨_, rfl⟩
              rw [ha] at R3' NX
              obtain ⟨aq1, cq1, rfl, hqr⟩ := oQ.row
              obtain ⟨bq, oq, rfl, RQ⟩ := hqr.at' rfl (by omega)
              have cqa := RQ.get i (by omega) (by omega)
              rw [R3', Int.toNat_natCast] at cqa
              have lq := RQ.lt
              have ct := (RR.out.keep (HBW.out _ BW)).T.get j (by omega) hjI
              have HA := Bx.mk ha
              have HHj := HH _ BW j (by omega) hjI
              have HRj := fun W (h : Below wa.heap.size wa W) => HR W h j (by omega) hjI
              have oj := ot_rng j n (by omega) hjI EV.out
              have vr := GG.out.t (ot j) oj.1 oj.2
              have v0 := vr.1
              have v1 := vr.2
              have cb := oB.cell (rd T (ot j)) v0 v1
              have KX := Bx.mk (show okR C f j = decide (0 < rd C j - rd f j) from rfl)
              have rj := GG.out.c j (by omega) hjI
              have mj := MM.out j (by omega) hjI
              rw [Int.toNat_natCast] at ct
              clear ha R1 hqr R3' oj vr
              obtain ⟨x, hx⟩ : ∃ x, rd C j - rd f j = x := ⟨_, rfl⟩
              obtain ⟨t, ht⟩ : ∃ t, rd T j = t := ⟨_, rfl⟩
              obtain ⟨v, hv⟩ : ∃ v, rd T (ot j) = v := ⟨_, rfl⟩
              rw [ht] at ct
              rw [hv] at cb v0 v1 HHj
              rw [hx] at HRj KX
              obtain ⟨c, hc⟩ : ∃ c, rd S1.by_ v = c := ⟨_, rfl⟩
              rw [hc] at cb
              have TV := Bx.mk (And.intro ht (And.intro hv hc))
              clear hx ht hv hc rj mj
              have v2 : decide (v < 0) = false := decide_eq_false (by omega)
              have v3 : decide (v ≥ (m : Int)) = false := decide_eq_false (by omega)
              obtain ⟨k0, k1, k2, k3⟩ := HK.out _ BW
              go_wp2_with fail
              refine HHj.mono ?_
              rintro e w5 ⟨rfl, B5⟩
              clear k0 k1 k2 k3 HHj
              have cq5 := (below_old B5 lq).trans cqa
              have cb5 := (below_old B5 oB.rng.2).trans cb
              have lq5 := Nat.lt_of_lt_of_le lq B5.size
              have BW5 := below_below BW B5
              have oB5 := oB.keep B5
              have oQ5 := oQ.keep B5
              clear ct cqa cb RQ BW oB oQ B5
              by_cases c1 : t = a
              · have e1 : (t != a) = false := by simpa using c1
                obtain ⟨k0, k1, k2, k3⟩ := HK.out _ BW5
                go_wp2_with fail
                refine (HRj _ BW5).mono ?_
                rintro e w6 ⟨rfl, B6⟩
                clear k0 k1 k2 k3 HRj
                have cq6 := (below_old B6 lq5).trans cq5
                have cb6 := (below_old B6 oB5.rng.2).trans cb5
                have BW6 := below_below BW5 B6
                have oB6 := oB5.keep B6
                have oQ6 := oQ5.keep B6
                clear cq5 cb5 BW5 oB5 oQ5 B6
                by_cases c2 : 0 < x
                · have x1 : decide (x ≤ 0) = false := decide_eq_false (by omega)
                  by_cases c3 : c < 0
                  · have x2 : decide (c ≥ 0) = false := decide_eq_false (by omega)
                    have N2 := Bx.mk (show bRow T (okR C f) a S (j + 1) = ⟨st S1.by_ v j, S1.q ++ [v]⟩ from by
                      rw [NX.out, bD, if_pos ⟨TV.out.1.trans c1, by rw [KX.out]; exact decide_eq_true c2, by rw [TV.out.2.1, TV.out.2.2]; exact c3⟩, TV.out.2.1])
                    clear c1 c2 c3
                    go_upto_region 19 with fail
                    have fb := oB6.fz v
                    have cv := oB6.cell v v0 v1
                    have oB7 := oB6.set v j
                    have oQ7 : Own (w6.setCell ⟨gB, v.toNat, none⟩ (.int .i64 j)) (gB + 1) (.slice (some ⟨bq, oq, none⟩) S1.q.length cq1) S1.q := own_far' oQ6 (show gB < gB + 1 by omega) _
                    have BW7 := below_set BW6 (p := ⟨gB, v.toNat, none⟩) hgl (.int .i64 (j : Int))
                    go_upto_region 20 with fail
                    clear fb cv cq6 cb6
                    generalize w6.setCell ⟨gB, v.toNat, none⟩ (.int .i64 (j : Int)) = w7 at oB7 oQ7 BW7 ⊢
                    have oB8 := oB7.keep (below_alloc (Below.refl w7.heap.size w7) (.cells #[.int .i64 v] 3))
                    have oQ8 := oQ7.keep (below_alloc (Below.refl w7.heap.size w7) (.cells #[.int .i64 v] 3))
                    have BW8 := below_alloc BW7 (.cells #[.int .i64 v] 3)
                    have n8 : RowOf (w7.alloc (.cells #[.int .i64 v] 3)) (some ⟨w7.heap.size, 0, none⟩) [v] := row_new w7 [v]
                    have hB8 : gB + 1 ≤ (w7.alloc (.cells #[.int .i64 v] 3)).heap.size := by have := oB8.rng.2; omega
                    clear oB6 oQ6 BW6 oB7 oQ7 BW7
                    go_wp2_with (at_builtin; refine app_any rfl (.tmp 96) (.tmp 98) rfl (gB + 1) _ S1.q [v] rfl oQ8 (some ⟨w7.heap.size, 0, none⟩) 1 1 rfl rfl n8 (by omega) (by omega) hB8 (S1.q.length + 1) rfl ?_; intro g9 p9 w9 q9 gr9 _; have B9 := below_app BW8 oQ8 (by omega) gr9; have oB9 := oB8.grown gr9 (by have := Own.block oQ8 (b := gB) (by omega); exact this); have Q9 := Bx.mk q9; clear q9 gr9 oQ8 n8 oB8 BW8)
                    go_roundg (n + 1 - (j + 1))
                    case rel => exact ⟨j + 1, rfl, rfl, by omega, by rw [HA.out, N2.out]; exact oB9, by rw [HA.out, N2.out]; have := Q9.out.own; simpa using this, B9⟩
                    case measure => omega
                  · have x2 : decide (c ≥ 0) = true := decide_eq_true (by omega)
                    have N2 := Bx.mk (show bRow T (okR C f) a S (j + 1) = S1 from by rw [NX.out, bD, if_neg (fun h => c3 (by have := h.2.2; rwa [TV.out.2.1, TV.out.2.2] at this))])
                    clear c1 c2 c3
                    go_wp2
                    go_roundg (n + 1 - (j + 1))
                    case rel => exact ⟨j + 1, rfl, rfl, by omega, by rw [HA.out, N2.out]; exact oB6, by rw [HA.out, N2.out]; exact oQ6, BW6⟩
                    case measure => omega
                · have x1 : decide (x ≤ 0) = true := decide_eq_true (by omega)
                  have N2 := Bx.mk (show bRow T (okR C f) a S (j + 1) = S1 from by rw [NX.out, bD, if_neg (fun h => c2 (by have := h.2.1; rw [KX.out] at this; exact of_decide_eq_true this))])
                  clear c1 c2
                  go_wp2
                  go_roundg (n + 1 - (j + 1))
                  case rel => exact ⟨j + 1, rfl, rfl, by omega, by rw [HA.out, N2.out]; exact oB6, by rw [HA.out, N2.out]; exact oQ6, BW6⟩
                  case measure => omega
              · have e1 : (t != a) = true := by simpa using c1
                have N2 := Bx.mk (show bRow T (okR C f) a S (j + 1) = S1 from by rw [NX.out, bD, if_neg (fun h => c1 (TV.out.1.symm.trans h.1))])
                clear c1
                go_wp2
                go_roundg (n + 1 - (j + 1))
                case rel => exact ⟨j + 1, rfl, rfl, by omega, by rw [HA.out, N2.out]; exact oB5, by rw [HA.out, N2.out]; exact oQ5, BW5⟩
                case measure => omega
            · have hjI : ¬ (j : Int) < n := by omega
              obtain rfl : n = j := by omega
              have N2 := Bx.mk (show bTo T (okR C f) m n s (i + 1) = S1 from by rw [bTo, SB.out, if_pos hlt]; exact HS1.out)
              have hnext : i + 1 ≤ S1.q.length := by omega
              clear NX
              go_wp2
              go_roundg (m + 2 - (i + 1))
              case rel => exact ⟨i + 1, rfl, rfl, by rw [N2.out]; exact hnext, by rw [N2.out]; exact oB, by rw [N2.out]; exact oQ, BW⟩
              case measure => omega
        · have hltI : ¬ (i : Int) < S.q.length := by omega
          have NE := Bx.mk (show (bEnd T (okR C f) m n s).by_ = S.by_ from by
            have := bTo_stop (T := T) (ok := okR C f) (m := m) (n := n) (r := s) (i := i) (by rw [SB.out]; exact hlt) (m - i)
            rw [show i + (m - i) = m from by omega, SB.out] at this
            unfold bEnd
            rw [this])
          have BF := Bx.mk (HBW.out _ BW)
          have oE := oB.low3 (B' := w.heap.size) (by have := hB.size; omega)
          have OE := Bx.mk oE
          clear oE
          go_wp2
          go_ret
          exact ⟨gB, rfl, by rw [NE.out]; exact OE.out, BF.out⟩
end
end Go.Proofs.Ytidcofjadlfahaa
