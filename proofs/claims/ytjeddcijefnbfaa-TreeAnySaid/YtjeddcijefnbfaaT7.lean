/- The walk of TreeAny. -/
import Derived.Test.YtjeddcijefnbfaaT0
import Derived.Test.YtjeddcijefnbfaaTa
set_option linter.unusedVariables false
set_option linter.unusedSimpArgs false
namespace Go.Proofs.Ytjeddcijefnbfaa
open Go.RowKit

/-- The tree under way in memory. -/
structure AnM (w0 w : World) (gU gI m : Nat) (I : List Bool) (up : List Int) : Prop where
  ord : w0.heap.size ≤ gU ∧ gU < gI
  up : OwnN w w0.heap.size gU m m up
  fo : BOwnN w w0.heap.size gI m m I
  B : Below w0.heap.size w0 w
section
variable {w0 w w' : World} {gU gI m : Nat} {I : List Bool} {up : List Int}
theorem AnM.keep (h : AnM w0 w gU gI m I up) (hb : Below w.heap.size w w') : AnM w0 w' gU gI m I up := ⟨h.ord, h.up.keep hb, h.fo.keep hb, below_below h.B hb⟩
theorem AnM.setI (h : AnM w0 w gU gI m I up) (v : Int) : AnM w0 (w.setCell ⟨gI, v.toNat, none⟩ (.bool true)) gU gI m (sb I v true) up := by
  obtain ⟨o1, o2⟩ := h.ord
  exact ⟨h.ord, h.up.far (p := ⟨gI, v.toNat, none⟩) (by show gI ≠ gU; omega) _, h.fo.set v true, below_set h.B (by show w0.heap.size ≤ gI; omega) _⟩
theorem AnM.setU (h : AnM w0 w gU gI m I up) (v x : Int) : AnM w0 (w.setCell ⟨gU, v.toNat, none⟩ (.int .i64 x)) gU gI m I (st up v x) := by
  obtain ⟨o1, o2⟩ := h.ord
  exact ⟨h.ord, h.up.set v x, h.fo.far (p := ⟨gU, v.toNat, none⟩) (by show gU ≠ gI; omega) _, below_set h.B (by show w0.heap.size ≤ gU; omega) _⟩
theorem AnM.grown (h : AnM w0 w gU gI m I up) {v : Value} {l : List Int} (ho : Own w (gI + 1) v l) (hg : w.grownBy w' v.ownBlock) : AnM w0 w' gU gI m I up := by
  obtain ⟨o1, o2⟩ := h.ord
  exact ⟨h.ord, h.up.grown hg (Own.block ho (by omega)), h.fo.grown hg (Own.block ho (by omega)), below_app h.B ho (by omega) hg⟩
end

set_option maxHeartbeats 6400000 in
set_option maxRecDepth 100000 in
theorem any_walk (a : Option Addr) (cap : Nat) (zs : List Int) (root : Int) (a2 : Option Addr) (cap2 : Nat) (ys : List Int) (w : World) (hz : RowOf w a zs) (hy : RowOf w a2 ys) (hyl : ys.length ≤ maxLen) :
    Calls Try.prog 11 #[.slice a zs.length cap, .int .i64 root, .slice a2 ys.length cap2] w fun e w' => e = .returned (.bool true) ∧ Below w.heap.size w w' := by
  unfold maxLen at hyl
  go_enter Try.func11, Try.ntmps11
  go_wp2_with fail
  refine (known_any _).mono ?_
  rintro e w1 ⟨rfl, hB1⟩
  go_wp2_with fail
  refine (plane_net a cap zs w1 (hz.keep hB1)).mono ?_
  rintro e w2 ⟨m, aT, aX, aC, cT, cX, cC, hm, rfl, rT, rX, rC, hB2⟩
  have hB12 := below_below hB1 hB2
  have G := grown_plane hm
  have PL : Bx (planeOf zs = planeOf zs) := ⟨rfl⟩
  obtain ⟨P, hP⟩ : ∃ P, P = planeOf zs := ⟨_, rfl⟩
  rw [← hP] at G rT rX rC ⊢
  have PZ := Bx.mk hP
  clear hP hm hB1 hB2 PL
  have hm0 := G.m0
  have hm25 := G.m25
  have hl48 := G.l48
  have hb := box_new w2 #[.int .i64 m, .slice aT P.T.length cT, .slice aX P.X.length cX, .slice aC P.C.length cC] 25
  have hB3 := below_alloc hB12 (.cells #[.int .i64 m, .slice aT P.T.length cT, .slice aX P.X.length cX, .slice aC P.C.length cC] 25)
  have hk := below_alloc (Below.refl w2.heap.size w2) (.cells #[.int .i64 m, .slice aT P.T.length cT, .slice aX P.X.length cX, .slice aC P.C.length cC] 25)
  have rT3 := rT.keep hk
  have rX3 := rX.keep hk
  have rC3 := rC.keep hk
  go_upto_region 4 with fail
  generalize w2.alloc _ = w3 at hb hB3 rT3 rX3 rC3 ⊢
  generalize w2.heap.size = b at hb ⊢
  clear rT rX rC hk hB12
  have rY3 := hy.keep hB3
  have k0 := hb.cell 0
  go_wp2_with fail
  refine (within4_any root m (by omega) (by omega) _).mono ?_
  rintro e w' ⟨rfl, rfl⟩
  have hr := wi_rng root m (by omega)
  generalize wi root m = r at hr ⊢
  have hr0 := hr.1
  have hr1 := hr.2
  have hmk : ∀ w : World, (Instr.makeSlice 22 (.int .i64 m) (.int .i64 m)).run Try.prog w = .ok (.slice (some ⟨w.heap.size, 0, none⟩) m m) (w.alloc (.cells (madeCells #[.int .i64 0] m) 3)) :=
    run_make_row' (P := Try.prog) 22 3 (.int .i64 0) 8 Try.underlying22 info3 rfl .i64 .i64 m (by omega) (by omega)
  have hmk2 : ∀ w : World, (Instr.makeSlice 43 (.int .i64 m) (.int .i64 m)).run Try.prog w = .ok (.slice (some ⟨w.heap.size, 0, none⟩) m m) (w.alloc (.cells (madeCells #[.bool false] m) 4)) :=
    run_make_row' (P := Try.prog) 43 4 (.bool false) 1 Try.underlying43 info4 rfl .i64 .i64 m (by omega) (by omega)
  have hown := own_made w3 w3.heap.size m (Nat.le_refl _) (by omega)
  have BW := below_alloc (Below.refl w3.heap.size w3) (.cells (madeCells #[.int .i64 0] m) 3)
  obtain ⟨gU, hgU⟩ : ∃ gU, w3.heap.size = gU := ⟨_, rfl⟩
  go_upto_region 6 with fail
  have hgl : w3.heap.size ≤ gU := by omega
  rw [show OwnN (w3.alloc (.cells (madeCells #[.int .i64 0] m) 3)) w3.heap.size w3.heap.size m m (List.replicate m 0) = OwnN (w3.alloc (.cells (madeCells #[.int .i64 0] m) 3)) w3.heap.size gU m m (List.replicate m 0) from by rw [hgU]] at hown
  generalize w3.alloc _ = w4 at hown BW ⊢
  clear hmk k0 hgU hr
  go_wp2
  go_loopg [10] (m + 1) (fun q y wr => ∃ j : Nat, y = .int .i64 j ∧ q = m + 1 - j ∧ j ≤ m ∧ OwnN wr w3.heap.size gU m m (part m j (-1) 0) ∧ Below w3.heap.size w3 wr)
  case atStart => exact ⟨0, rfl, by omega, by omega, hown, BW⟩
  case round =>
    clear hown BW
    obtain ⟨j, rfl, hq, hj, hown, BW⟩ := hrel
    have b0 := (hb.keep BW).cell 0
    by_cases hjm : j < m
    · have hjI : (j : Int) < m := by omega
      have c1 := hown.cell j (by omega) hjI
      have f1 := hown.fz j
      rw [Int.toNat_natCast] at c1 f1
      have h2 := hown.set j (-1)
      rw [st_part m j (-1) 0 hjm, Int.toNat_natCast] at h2
      have BW2 := below_set BW (p := ⟨gU, j, none⟩) hown.rng.1 (.int .i64 (-1))
      clear hmk2
      go_wp2
      go_roundg (m + 1 - (j + 1))
      case rel => exact ⟨j + 1, rfl, rfl, by omega, h2, BW2⟩
      case measure => omega
    · have hjI : ¬ (j : Int) < m := by omega
      obtain rfl : m = j := by omega
      rw [show part m m (-1) 0 = List.replicate m (-1) from by simp [part]] at hown
      have hfo := bown_made wr w3.heap.size m BW.size (by omega)
      have hk := below_alloc (Below.refl wr.heap.size wr) (.cells (madeCells #[.bool false] m) 4)
      have hgu := hown.rng.2
      obtain ⟨gI, hgI⟩ : ∃ gI, wr.heap.size = gI := ⟨_, rfl⟩
      have AM0 : AnM w3 (wr.alloc (.cells (madeCells #[.bool false] m) 4)) gU gI m (List.replicate m false) (List.replicate m (-1)) := ⟨⟨hgl, by omega⟩, hown.keep hk, by rw [← hgI]; exact hfo, below_below BW hk⟩
      go_upto_region 11 with fail
      generalize wr.alloc _ = w5 at AM0 ⊢
      have fc := AM0.fo.cell r hr0 hr1
      have ff := AM0.fo.fz r
      have AM1 := AM0.setI r
      have GA := Bx.mk (Ga.start (T := P.T) hr0 hr1)
      clear AM0 hown hfo hk hgI hgu hmk2 b0 BW hq hj hjm
      go_wp2
      clear fc ff
      go_loopg [12] (m + 1) (fun q y wr => ∃ k : Nat, y = .int .i64 k ∧ q = m + 1 - k ∧ k + 1 ≤ m ∧ ∃ I up, AnM w3 wr gU gI m I up ∧ Bx (Ga P.T m r k I up))
      case atStart => exact ⟨0, rfl, by omega, by omega, _, _, AM1, GA⟩
      case round =>
        clear AM1 GA
        obtain ⟨k, rfl, hq, hk, I, up, AM, GA⟩ := hrel
        have b0 := (hb.keep AM.B).cell 0
        by_cases hkm : k + 1 < m
        · have hkI : (k : Int) < (m : Int) - 1 := by omega
          have CR := GA.out.cross hr0 hr1 G.C hkm
          go_wp2
          clear b0
          go_loopg [13, 14] (P.T.length + 1) (fun q y13 y14 wr => ∃ j : Nat, y14 = .int .i64 j ∧ q = P.T.length + 1 - j ∧ j ≤ P.T.length ∧ Own wr (gI + 1) y13 (crossTo P.T I j) ∧ AnM w3 wr gU gI m I up)
          case atStart => exact ⟨0, rfl, by omega, by omega, Own.nil _ _, AM⟩
          case round =>
            clear AM
            obtain ⟨j, rfl, hq2, hj, hl, AM⟩ := hrel
            have hle := crossTo_le P.T I j
            have b0 := (hb.keep AM.B).cell 0
            have b1 := (hb.keep AM.B).cell 1
            have b2 := (hb.keep AM.B).cell 2
            have b3 := (hb.keep AM.B).cell 3
            by_cases hjx : j < P.T.length
            · have hjI : (j : Int) < P.T.length := by omega
              have ho := ot_rng j P.T.length (by omega) hjI G.he
              have htj := G.ht j (by omega) hjI
              have hhj := G.ht _ ho.1 ho.2
              have NX := crossTo_next P.T I j
              have c1 := AM.fo.cell _ htj.1 htj.2
              obtain ⟨bT, oT, rfl, _, ct⟩ := (rT3.keep AM.B) j (by omega) hjI
              rw [Int.toNat_natCast] at ct
              obtain ⟨t, ht⟩ : ∃ t, rd P.T j = t := ⟨_, rfl⟩
              obtain ⟨h, hh⟩ : ∃ h, rd P.T (ot j) = h := ⟨_, rfl⟩
              rw [ht] at NX c1 ct htj
              rw [hh] at NX hhj
              have ht0 := htj.1
              have ht1 := htj.2
              have hh0 := hhj.1
              have hh1 := hhj.2
              cases hp : rb I t with
              | false =>
                rw [hp] at c1
                rw [if_neg (by rw [hp]; simp)] at NX
                have NB := Bx.mk NX
                clear hp NX ht hh htj hhj ho
                go_wp2
                go_roundg (P.T.length + 1 - (j + 1))
                case rel => exact ⟨j + 1, rfl, rfl, by omega, by rw [NB.out]; exact hl, AM⟩
                case measure => omega
              | true =>
                rw [hp] at c1
                have RH := rhead_any (w := wr) (N := m) (aT := some ⟨bT, oT, none⟩) (aX := aX) (aC := aC) (cT := cT) (cX := cX) (cC := cC) (T := P.T) (X := P.X) (C := P.C) j (rT3.keep AM.B) (by omega) hjI G.he (by omega)
                rw [hh] at RH
                have HP := Bx.mk hp
                have NB0 := Bx.mk NX
                clear hp NX ht hh htj hhj ho
                go_wp2_with fail
                refine RH.mono ?_
                rintro e w6 ⟨rfl, hB1⟩
                have AM2 := AM.keep hB1
                have hl2 := hl.keep hB1
                clear RH b0 b1 b2 b3 c1 ct AM hl hB1
                have c2 := AM2.fo.cell h hh0 hh1
                cases hp2 : rb I h with
                | true =>
                  rw [hp2] at c2
                  have NB := Bx.mk (show crossTo P.T I (j + 1) = crossTo P.T I j by rw [NB0.out, if_neg (by rw [hp2]; simp)])
                  clear hp2
                  go_wp2
                  go_roundg (P.T.length + 1 - (j + 1))
                  case rel => exact ⟨j + 1, rfl, rfl, by omega, by rw [NB.out]; exact hl2, AM2⟩
                  case measure => omega
                | false =>
                  rw [hp2] at c2
                  have NB := Bx.mk (show crossTo P.T I (j + 1) = crossTo P.T I j ++ [(j : Int)] by rw [NB0.out, if_pos ⟨HP.out, hp2⟩])
                  clear hp2
                  have hl3 := hl2.keep (below_alloc (Below.refl _ _) (.cells #[.int .i64 (j : Int)] 3))
                  have AM3 := AM2.keep (below_alloc (Below.refl _ _) (.cells #[.int .i64 (j : Int)] 3))
                  have hgi := AM2.fo.rng.2
                  have n1 := row_new w6 [(j : Int)]
                  go_upto_region 20 with fail
                  clear c2
                  go_wp2_with (at_builtin; refine app_any rfl (.tmp 74) (.tmp 76) rfl (gI + 1) _ (crossTo P.T I j) [(j : Int)] rfl hl3 (some ⟨w6.heap.size, 0, none⟩) 1 1 rfl rfl n1 (by omega) (by omega) (by simp; omega) ((crossTo P.T I j).length + 1) rfl ?_; intro g cap w7 q7 gr7 _; have A7 := AM3.grown hl3 gr7; have Q7 := Bx.mk q7; clear hl3 AM3 q7 gr7 n1 hl2 AM2)
                  go_roundg (P.T.length + 1 - (j + 1))
                  case rel => exact ⟨j + 1, rfl, rfl, by omega, by rw [NB.out]; have h9 := Q7.out.own; exact h9, A7⟩
                  case measure => omega
            · have hjI : ¬ (j : Int) < P.T.length := by omega
              obtain rfl : j = P.T.length := by omega
              obtain ⟨aL, cL, rfl, rL⟩ := hl.row
              obtain ⟨L, hL⟩ : ∃ L, crossTo P.T I P.T.length = L := ⟨_, rfl⟩
              rw [hL] at CR rL hle ⊢
              have LB := Bx.mk hL
              have f0 : ((L.length : Int) == 0) = false := by simp; intro e; rw [e] at CR; simp at CR
              have hB9 := AM.B
              clear hL hl
              go_upto_if 85 with fail
              go_cut [15] from 82 to 89 (fun s15 wx => (∃ c : Int, s15 = .int .i64 c) ∧ wx = wr)
              case first =>
                by_cases hky : k < ys.length
                · have hkyI : (k : Int) < ys.length := by omega
                  obtain ⟨bY, oY, rfl, _, cy⟩ := ((rY3.keep AM.B) k (by omega) hkyI)
                  rw [Int.toNat_natCast] at cy
                  go_wp2_with fail
                  go_meet
                  case rel => exact ⟨⟨_, rfl⟩, rfl⟩
                · have hkyI : ¬ (k : Int) < ys.length := by omega
                  go_wp2_with fail
                  go_meet
                  case rel => exact ⟨⟨_, rfl⟩, rfl⟩
              case rest =>
                obtain ⟨⟨c, rfl⟩, rfl⟩ := hcut
                obtain ⟨n, hn⟩ : ∃ n, L.length = n := ⟨_, rfl⟩
                rw [hn] at CR hle ⊢
                have hi := wi_rng c n (by omega)
                obtain ⟨i, hii⟩ : ∃ i, wi c (n : Int) = i := ⟨_, rfl⟩
                have WI : ∀ w : World, Calls Try.prog 14 #[.int .i64 c, .int .i64 n] w fun e w' => e = .returned (.int .i64 i) ∧ w = w' := fun w => by rw [← hii]; exact within4_any c n (by omega) (by omega) w
                rw [hii] at hi
                have hi0 := hi.1
                have hi1 := hi.2
                have hmem : rd L i ∈ L := rd_mem hi0 (by rw [hn]; exact hi1)
                obtain ⟨bL, oL, rfl, _, cl⟩ := rL i hi0 (by rw [hn]; exact hi1)
                obtain ⟨d, hd⟩ : ∃ d, rd L i = d := ⟨_, rfl⟩
                rw [hd] at cl hmem
                rw [← LB.out] at hmem
                obtain ⟨⟨d0, d1⟩, x1, x2⟩ := cross_mem.1 hmem
                have GS := Bx.mk (GA.out.step G.he G.ht hr0 hr1 hmem)
                have ho := ot_rng d P.T.length d0 d1 G.he
                have hh := G.ht _ ho.1 ho.2
                have hxor := xor_one d d0 (by omega)
                obtain ⟨h, hhd⟩ : ∃ h, rd P.T (ot d) = h := ⟨_, rfl⟩
                rw [hhd] at hh GS
                have hh0 := hh.1
                have hh1 := hh.2
                have RH : ∀ W, RowOf W aT P.T → Calls Try.prog 26 #[.agg #[.int .i64 m, .slice aT P.T.length cT, .slice aX P.X.length cX, .slice aC P.C.length cC], .int .i64 d] W fun e w' => e = .returned (.int .i64 h) ∧ Below W.heap.size W w' := fun W k => by
                  rw [← hhd]
                  exact rhead_any (aX := aX) (aC := aC) (cX := cX) (cC := cC) (X := P.X) (C := P.C) d k d0 d1 G.he (by omega)
                clear hii hi hd hmem x1 x2 hhd hh hn rL f0 CR
                go_wp2_with fail
                refine (WI _).mono ?_
                rintro e w' ⟨rfl, rfl⟩
                have R1 := RH _ (rT3.keep AM.B)
                go_wp2_with fail
                refine R1.mono ?_
                rintro e w7 ⟨rfl, hB1⟩
                have AM2 := AM.keep hB1
                clear R1 b0 b1 b2 b3 cl AM hB1
                have c2 := AM2.fo.cell h hh0 hh1
                have f2 := AM2.fo.fz h
                have AM3 := AM2.setI h
                go_upto_region 28 with fail
                generalize w7.setCell _ _ = w8 at AM3 ⊢
                clear c2 f2 AM2
                have b0 := (hb.keep AM3.B).cell 0
                have b1 := (hb.keep AM3.B).cell 1
                have b2 := (hb.keep AM3.B).cell 2
                have b3 := (hb.keep AM3.B).cell 3
                have R1 := RH _ (rT3.keep AM3.B)
                go_wp2_with fail
                refine R1.mono ?_
                rintro e w9 ⟨rfl, hB1⟩
                have AM4 := AM3.keep hB1
                clear R1 b0 b1 b2 b3 AM3 hB1
                have c2 := AM4.up.cell h hh0 hh1
                have f2 := AM4.up.fz h
                have AM5 := AM4.setU h (ot d)
                clear AM4
                go_wp2
                go_roundg (m + 1 - (k + 1))
                case rel => exact ⟨k + 1, rfl, rfl, by omega, _, _, AM5, GS⟩
                case measure => omega
        · have hkI : ¬ (k : Int) < (m : Int) - 1 := by omega
          have YTB := Bx.mk (GA.out.done G.he G.ht hr0 hr1 (by omega))
          have LC := Bx.mk (left_count YTB.out G.he G.ht)
          have UL := Bx.mk YTB.out.len
          have hUle : up.length ≤ 60 := by rw [UL.out]; omega
          have rU := AM.up.row
          have rT4 := rT3.keep AM.B
          have hB9 := below_below hB3 AM.B
          have HK := net_held (hb.keep AM.B)
          have hLl : (leftL P.T up).length ≤ 1000 := by
            have := leftTo_le up (P.T.length / 2)
            unfold leftL
            omega
          have RY : ∀ W, Below wr.heap.size wr W → Calls Try.prog 18 #[.agg #[.int .i64 m, .slice aT P.T.length cT, .slice aX P.X.length cX, .slice aC P.C.length cC], .slice (some ⟨gU, 0, none⟩) m m, .int .i64 r] W fun e w' => e = .returned (.bool true) ∧ Below W.heap.size W w' := fun W k => by
            have q := right_yes (aX := aX) (aC := aC) (cT := cT) (cX := cX) (cC := cC) (cU := m) (X := P.X) (C := P.C) (rT4.keep k) (rU.keep k) G.he (by omega) hm0 (by omega) (by omega) G.ht YTB.out
            rwa [UL.out] at q
          have LY : ∀ W, Below wr.heap.size wr W → Calls Try.prog 19 #[.agg #[.int .i64 m, .slice aT P.T.length cT, .slice aX P.X.length cX, .slice aC P.C.length cC], .slice (some ⟨gU, 0, none⟩) m m] W fun e w' => ∃ v, e = .returned v ∧ OwnK w' W.heap.size v (leftL P.T up) ∧ Below W.heap.size W w' := fun W k => by
            have q := left_any (N := m) (aT := aT) (aX := aX) (aC := aC) (cT := cT) (cX := cX) (cC := cC) (cU := m) (T := P.T) (X := P.X) (C := P.C) (rU.keep k) G.he (by omega) (by omega)
            rwa [UL.out] at q
          have LR : ∀ W, Below wr.heap.size wr W → Calls Try.prog 20 #[.agg #[.int .i64 m, .slice aT P.T.length cT, .slice aX P.X.length cX, .slice aC P.C.length cC], .slice (some ⟨gU, 0, none⟩) m m] W fun e w' => ∃ v, e = .returned v ∧ Own w' W.heap.size v (leftL P.T up) ∧ Below W.heap.size W w' := fun W k => by
            have q := rleft_any (N := m) (aT := aT) (aX := aX) (aC := aC) (cT := cT) (cX := cX) (cC := cC) (cU := m) (T := P.T) (X := P.X) (C := P.C) (rU.keep k) G.he (by omega) (by omega)
            rwa [UL.out] at q
          have FIN := Bx.mk (show (((leftL P.T up).length : Int) == IntKind.i64.wrap (IntKind.i64.wrap (IntKind.i64.wrap ((P.T.length : Int) / 2) - (m : Int)) + 1)) = true by
            have := LC.out
            rw [IntWalk.i64_in ((P.T.length : Int) / 2) (by omega), IntWalk.i64_in ((P.T.length : Int) / 2 - m) (by omega), IntWalk.i64_in _ (by omega)]
            simp
            omega)
          clear AM GA
          go_upto_region 29 with fail
          clear b0
          go_region_held3 (fun W => Below wr.heap.size wr W ∧ W.cell? ⟨b, 0, none⟩ = some (.int .i64 m) ∧ W.cell? ⟨b, 1, none⟩ = some (.slice aT P.T.length cT) ∧ W.cell? ⟨b, 2, none⟩ = some (.slice aX P.X.length cX) ∧ W.cell? ⟨b, 3, none⟩ = some (.slice aC P.C.length cC))
            (first | exact HK.out _ (below_below (And.left ‹_ ∧ _›) hB1) | exact HK.out _ (Below.drew (Below.refl _ _)))
            (first
              | (go_at_call 18; (with_reducible refine (RY _ (And.left ‹_ ∧ _›)).mono ?_); rintro e W3 ⟨rfl, hB1⟩)
              | (go_at_call 19; (with_reducible refine (LY _ (And.left ‹_ ∧ _›)).mono ?_); rintro e W4 ⟨v3, rfl, o3, hB1⟩; obtain ⟨a3, c3, rfl, r3⟩ := o3.row)
              | (go_at_call 20; (with_reducible refine (LR _ (And.left ‹_ ∧ _›)).mono ?_); rintro e W5 ⟨v4, rfl, o4, hB1⟩; obtain ⟨a4, c4, rfl, r4⟩ := o4.row; replace r3 := r3.keep hB1)
              | (go_at_call 16; (with_reducible refine (ints_yes (xs := leftL P.T up) r3 r4 hLl).mono ?_); rintro e W6 ⟨rfl, hB1⟩))
          have BW := And.left ‹Below wr.heap.size wr W4 ∧ _›
          go_wp2
          go_ret
          exact ⟨congrArg (fun z => Ending.returned (Value.bool z)) FIN.out, below_below hB9 BW⟩
end Go.Proofs.Ytjeddcijefnbfaa
