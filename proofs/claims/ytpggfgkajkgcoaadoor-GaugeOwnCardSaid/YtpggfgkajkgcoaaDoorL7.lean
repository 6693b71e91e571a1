/- The walk of GaugeOwn. -/
import Derived.Test.YtpggfgkajkgcoaaDoorG16
import Derived.Deep.RegionHeldLaw
set_option linter.unusedVariables false
set_option linter.unusedSimpArgs false
namespace Go.Proofs.YtpggfgkajkgcoaaDoor
open Go.RowKit

/-- Two rows: the same numbers, place for place, n of them. -/
structure Twin (n : Nat) (xs ms : List Nat) : Prop where
  lx : xs.length = n
  lm : ms.length = n
  fx : FW xs
  fm : FW ms
  same : ∀ j : Nat, j < n → fsame (fd xs j) (fd ms j) = true
theorem Twin.one {a : Nat} (ha : a < 18446744073709551616) : Twin 1 [a] [a] := ⟨rfl, rfl, FW_snoc FW_nil ha, FW_snoc FW_nil ha, fun _ _ => fsame_refl _⟩
theorem Twin.snoc {n : Nat} {xs ms : List Nat} {x y : Nat} (h : Twin n xs ms) (hx : x < 18446744073709551616) (hy : y < 18446744073709551616) (hs : fsame x y = true) : Twin (n + 1) (xs ++ [x]) (ms ++ [y]) := by
  refine ⟨by simp [h.lx], by simp [h.lm], FW_snoc h.fx hx, FW_snoc h.fm hy, fun j hj => ?_⟩
  rw [fd_app xs x (j : Int) (by omega), fd_app ms y (j : Int) (by omega), h.lx, h.lm]
  by_cases h1 : j < n
  · rw [if_pos (by omega), if_pos (by omega)]
    exact h.same j h1
  · rw [if_neg (by omega), if_pos (by omega), if_neg (by omega), if_pos (by omega)]
    exact hs
theorem same_k {w : World} {aX aY : Option Addr} {cX cY n : Nat} {xs ys : List Nat} (hX : FRow w aX xs) (hY : FRow w aY ys) (wX : FW xs) (wY : FW ys) (hx : xs.length = n) (hy : ys.length = n) (hn : n ≤ 100000) (H : ∀ j : Nat, j < n → fsame (fd xs j) (fd ys j) = true) :
    Calls Tryd.prog 20 #[.slice aX n cX, .slice aY n cY] w fun e w' => e = .returned (.bool true) ∧ Below w.heap.size w w' := by
  subst hx
  exact same_yes hX hY wX wY hy hn H
theorem new_ne {g g4 gm n c sz : Nat} (h : (Value.slice (some ⟨g, 0, none⟩) n c).ownBlock = some g4 ∨ g4 = sz) (hne : g ≠ gm) (hm : gm < sz) : g4 ≠ gm := by
  rcases h with h | h
  · simp [Value.ownBlock] at h
    omega
  · omega
section
variable {aK aN : Option Addr} {cK cN : Nat} {ks ns : List Int} {w : World}
set_option maxHeartbeats 6400000 in
theorem gown_walk (a : Nat) (ha : a < 18446744073709551616) (hK : RowOf w aK ks) (hN : RowOf w aN ns) (ht : Tab w) :
    Calls Tryd.prog 13 #[.slice aK ks.length cK, .slice aN ns.length cN, .float .f64 a] w fun e w' => e = .returned (.bool true) ∧ Below w.heap.size w w' := by
  have KN := known_any w ht
  clear ht
  go_enter Tryd.func13, Tryd.ntmps13
  go_wp2_with fail
  refine KN.mono ?_
  rintro e w1 ⟨rfl, B1⟩
  clear KN
  have hK1 := hK.keep B1
  have hN1 := hN.keep B1
  clear hK hN
  have BA := below_alloc (below_alloc (Below.refl w1.heap.size w1) (.cells (flts [a]).toArray 22)) (.cells (flts [a]).toArray 22)
  have OA := (fown_lit w1 w1.heap.size [a] (Nat.le_refl _) (by simp)).keep (below_alloc (Below.refl _ _) (.cells (flts [a]).toArray 22))
  have OB := fown_lit (w1.alloc (.cells (flts [a]).toArray 22)) w1.heap.size [a] (by rw [World.size_alloc]; omega) (by simp)
  rw [World.size_alloc] at OB
  go_wp2_with fail
  go_loopg [7, 8, 9] 13 (fun q z y x wr => ∃ (i : Nat) (xs ms : List Nat) (gl cl gm cm : Nat), x = .int .i64 i ∧ z = .slice (some ⟨gl, 0, none⟩) (i + 1) cl ∧ y = .slice (some ⟨gm, 0, none⟩) (i + 1) cm ∧ q = 13 - i ∧ i ≤ 12 ∧ Below w1.heap.size w1 wr ∧ gl ≠ gm ∧ FOwnN wr w1.heap.size gl cl (i + 1) xs ∧ FOwnN wr w1.heap.size gm cm (i + 1) ms ∧ Bx (Twin (i + 1) xs ms))
  case atStart => exact ⟨0, [a], [a], w1.heap.size, 1, w1.heap.size + 1, 1, rfl, rfl, rfl, rfl, by omega, BA, by omega, OA, OB, ⟨Twin.one ha⟩⟩
  case round =>
    clear BA OA OB
    obtain ⟨i, xs, ms, gl, cl, gm, cm, rfl, rfl, rfl, hq, hi, BW, hne, hL, hM, TW⟩ := hrel
    by_cases h3 : i < ks.length ∧ i < ns.length ∧ i < 12
    · obtain ⟨h1, h2, h3⟩ := h3
      have hI1 : (i : Int) < ks.length := by omega
      have hI2 : (i : Int) < ns.length := by omega
      have hI3 : (i : Int) < 12 := by omega
      obtain ⟨bK, oK, rfl, lK, cK1⟩ := hK1 i (by omega) hI1
      obtain ⟨bN, oN, rfl, lN, cN1⟩ := hN1 i (by omega) hI2
      rw [Int.toNat_natCast] at cK1 cN1
      have HK : Bx (∀ W, Below w1.heap.size w1 W → Below w1.heap.size w1 W ∧ W.cell? ⟨bK, oK + i, none⟩ = some (.int .i64 (rd ks i)) ∧ W.cell? ⟨bN, oN + i, none⟩ = some (.int .i64 (rd ns i))) :=
        ⟨fun W h => ⟨h, (cell_keep cK1 lK h).1, (cell_keep cN1 lN h).1⟩⟩
      have ML := hM.rng.2
      have LL := hL.rng.2
      have RA := fun W => real_any (rd ks i) (rd ns i) i W
      have RA2 := fun W => real_any (rd ks i) (rd ns i) i W
      generalize rd ks i = kk at HK RA RA2
      generalize rd ns i = nn at HK RA RA2
      clear cK1 cN1 lK lN hK1 hN1
      go_upto_region 7 with fail
      have bD := Below.drew (Below.refl wr.heap.size wr)
      have LX := TW.out.lx
      have LMS := TW.out.lm
      have HLX := Bx.mk LX
      have HLM := Bx.mk LMS
      clear LX LMS
      go_region_held_law (fun W => Below w1.heap.size w1 W ∧ W.cell? ⟨bK, oK + i, none⟩ = some (.int .i64 kk) ∧ W.cell? ⟨bN, oN + i, none⟩ = some (.int .i64 nn))
        (first | assumption | exact HK.out _ (Below.drew BW) | exact HK.out _ BN | exact HK.out _ BO | exact HK.out _ BP | exact HK.out _ BQ | exact HK.out _ BR | exact HK.out _ BS)
        (first
          | (go_at_call 15; with_reducible refine (RA _).mono ?_; rintro e w2 ⟨x, rfl, B2, lx, sx⟩; have bW := below_below bD B2; have BN := below_below BW bW; have hL2 := hL.keep bW; have hM2 := hM.keep bW; clear RA; have RB := RA2; clear RA2; have BO := below_alloc BN (.cells (flts [x]).toArray 22))
          | (go_at_call 15; with_reducible refine (RB _).mono ?_; rintro e w5 ⟨y, rfl, B5, ly, sy⟩; have q5 := q4.keep B5; have om5 := om4.keep B5; have BQ := below_below BP B5; have BR := below_alloc BQ (.cells (flts [y]).toArray 22))
          | (refine fstep_any rfl (.tmp 35) (.tmp 46) rfl w1.heap.size (.slice (some ⟨gl, 0, none⟩) (i + 1) cl) xs [x] rfl (hL2.keep (below_alloc (Below.refl _ _) (.cells (flts [x]).toArray 22))).own (some ⟨w2.heap.size, 0, none⟩) 1 1 rfl rfl (frow_new w2 [x]) (by omega) (by rw [HLX.out]; omega) BO.size (i + 1 + 1) (by rw [HLX.out]) ?_; intro g4 cap4 w4 q4 gr4 at4; have BP := fbelow_app BO (hL2.keep (below_alloc (Below.refl _ _) (.cells (flts [x]).toArray 22))).own (Nat.le_refl _) gr4; have om4 := (hM2.keep (below_alloc (Below.refl _ _) (.cells (flts [x]).toArray 22))).grown gr4 (by simpa [Value.ownBlock] using hne); have ne4 := new_ne at4 hne (Nat.lt_of_lt_of_le hM2.rng.2 (below_alloc (Below.refl _ _) _).size))
          | (refine fstep_any rfl (.tmp 48) (.tmp 59) rfl w1.heap.size (.slice (some ⟨gm, 0, none⟩) (i + 1) cm) ms [y] rfl (om5.keep (below_alloc (Below.refl _ _) (.cells (flts [y]).toArray 22))).own (some ⟨w5.heap.size, 0, none⟩) 1 1 rfl rfl (frow_new w5 [y]) (by omega) (by rw [HLM.out]; omega) BR.size (i + 1 + 1) (by rw [HLM.out]) ?_; intro g6 cap6 w6 q6 gr6 at6; have BS := fbelow_app BR (om5.keep (below_alloc (Below.refl _ _) (.cells (flts [y]).toArray 22))).own (Nat.le_refl _) gr6; have q7 := (q5.keep (below_alloc (Below.refl _ _) (.cells (flts [y]).toArray 22))).grown gr6 (by simpa [Value.ownBlock] using fun h => ne4 h.symm); have ne6 := new_ne at6 ne4.symm (Nat.lt_of_lt_of_le q5.rng.2 (below_alloc (Below.refl _ _) _).size)))
      all_goals
        go_wp2
        go_roundg (13 - (i + 1))
        case rel => exact ⟨i + 1, _, _, g4, cap4, g6, cap6, rfl, rfl, rfl, rfl, by omega, BS, ne6.symm, q7, q6, ⟨TW.out.snoc lx ly (fsame_trans sx (fsame_comm sy))⟩⟩
        case measure => omega
    · have hex : ¬ i < ks.length ∨ (i < ks.length ∧ ¬ i < ns.length) ∨ (i < ks.length ∧ i < ns.length ∧ ¬ i < 12) := by omega
      have HE := hex
      have i12 : i ≤ 12 := hi
      have lx := TW.out.lx
      have lm := TW.out.lm
      have HLX := Bx.mk lx
      have HLM := Bx.mk lm
      have S1 := sort_any hL.own TW.out.fx (by omega) (by omega)
      clear h3 hq hi hex lx lm
      rcases HE with h1 | ⟨h1, h2⟩ | ⟨h1, h2, h3⟩
      · have hI1 : ¬ (i : Int) < ks.length := by omega
        clear h1
        go_upto_region 9 with (go_at_call 18; refine S1.mono ?_; rintro e w2 ⟨v2, ys, rfl, O2, B2, P2⟩)
        have hyl : ys.length = i + 1 := by rw [P2.perm.length_eq, HLX.out]
        obtain ⟨g2, cap0, cap2, rfl, q2⟩ : ∃ g2 cap0 cap2, v2 = .slice (some ⟨g2, 0, none⟩) (i + 1) cap2 ∧ FOwnN w2 wr.heap.size g2 cap0 (i + 1) ys := by
          rcases O2 with ⟨_, hx⟩ | ⟨g2, cap0, cap2, rfl, q2⟩
          · rw [hx] at hyl; simp at hyl
          · rw [hyl] at q2 ⊢
            exact ⟨g2, cap0, cap2, rfl, q2⟩
        have hL2 := hL.keep B2
        have hM2 := hM.keep B2
        have n1 : g2 ≠ gl := by have := q2.rng.1; have := hL.rng.2; omega
        have n2 : g2 ≠ gm := by have := q2.rng.1; have := hM.rng.2; omega
        have n3 : w1.heap.size ≤ g2 := by have := q2.rng.1; have := BW.size; omega
        have BB := below_below BW B2
        have BW0 := Bx.mk BW
        clear S1 O2 hyl P2 hL hM BW B2
        have q3 := q2.low (B' := w1.heap.size) (by have := BW0.out.size; omega)
        clear q2
        go_wp2
        go_loopg [11] (i + 2) (fun q y wx => ∃ j : Nat, y = .int .i64 j ∧ q = i + 2 - j ∧ j ≤ i + 1 ∧ (∃ D, FOwnN wx w1.heap.size g2 cap0 (i + 1) D) ∧ FOwnN wx w1.heap.size gl cl (i + 1) xs ∧ FOwnN wx w1.heap.size gm cm (i + 1) ms ∧ Below w1.heap.size w1 wx)
        case atStart => exact ⟨0, rfl, by omega, by omega, ⟨_, q3⟩, hL2, hM2, BB⟩
        case round =>
          clear q3 hL2 hM2 BB
          obtain ⟨j, rfl, hqj, hj, ⟨D, q2⟩, hL, hM, BW⟩ := hrel
          by_cases hji : j < i + 1
          · have hJ : (j : Int) < ((i + 1 : Nat) : Int) := by omega
            have hJ2 : (j : Int) < (i : Int) + 1 := by omega
            have c1 := q2.cell j (by omega) hJ
            have f1 := q2.fz j
            have q4 := q2.set j 4619567317775286272
            have L4 := hL.far (p := ⟨g2, (j : Int).toNat, none⟩) n1 (.float .f64 4619567317775286272)
            have M4 := hM.far (p := ⟨g2, (j : Int).toNat, none⟩) n2 (.float .f64 4619567317775286272)
            have B4 := below_set BW (p := ⟨g2, (j : Int).toNat, none⟩) n3 (.float .f64 4619567317775286272)
            rw [Int.toNat_natCast] at c1 f1 q4 L4 M4 B4
            have SF : ∀ (a : Addr) (b : Nat) (m : _) (w : World), (store a (.float .f64 b) m).run Tryd.prog w = stored Tryd.prog w a (.float .f64 b) m := fun a b m w => run_store Tryd.prog w a _ m rfl
            clear q2 hL hM BW
            go_wp2
            go_roundg (i + 2 - (j + 1))
            case rel => exact ⟨j + 1, rfl, by omega, by omega, ⟨_, q4⟩, L4, M4, B4⟩
            case measure => omega
          · have hJ : ¬ (j : Int) < ((i + 1 : Nat) : Int) := by omega
            have hJ2 : ¬ (j : Int) < (i : Int) + 1 := by omega
            have hcl : i + 1 ≤ cl := by
              rcases hL.own.cases with ⟨h, _⟩ | ⟨g, c, h, hc, _⟩
              · simp at h
              · simp only [Value.slice.injEq] at h
                rw [hL.1] at hc
                omega
            have M1 := mean_any (cap := cl) wr hL.row TW.out.fx (by rw [hL.1]; omega) (by rw [hL.1]; exact hcl)
            rw [hL.1] at M1
            clear q2 hcl
            go_wp2_with fail
            refine M1.mono ?_
            rintro e w3 ⟨m3, rfl, B3, _, _⟩
            have hL3 := hL.keep B3
            have hM3 := hM.keep B3
            have B4 := below_below BW B3
            clear M1 hL hM BW B3
            have B5 := below_alloc B4 (.cells #[.int .i64 0, .slice none 0 0, .slice none 0 0, .slice none 0 0] 47)
            have hL5 := hL3.keep (below_alloc (Below.refl _ _) (.cells #[.int .i64 0, .slice none 0 0, .slice none 0 0, .slice none 0 0] 47))
            have hM5 := hM3.keep (below_alloc (Below.refl _ _) (.cells #[.int .i64 0, .slice none 0 0, .slice none 0 0, .slice none 0 0] 47))
            have bx5 := box_new w3 #[.int .i64 0, .slice none 0 0, .slice none 0 0, .slice none 0 0] 47
            obtain ⟨n, hn⟩ : ∃ n, i + 1 = n := ⟨_, rfl⟩
            rw [hn] at TW hL5 hM5 ⊢
            have n13 : n ≤ 13 := by omega
            have n0 : 0 < n := by omega
            clear B4 hL3 hM3 hn n1 n2 n3 hJ hJ2 hji hj hqj HLX HLM i12
            have M1 := same_k (cX := cl) (cY := cm) hL5.row hM5.row TW.out.fx TW.out.fm TW.out.lx TW.out.lm (by omega) TW.out.same
            go_wp2_with fail
            refine M1.mono ?_
            rintro e w4 ⟨rfl, B6⟩
            have hL6 := hL5.keep B6
            have hM6 := hM5.keep B6
            have bx6 := bx5.keep B6
            have B7 := below_below B5 B6
            clear M1 hL5 hM5 bx5 B5 B6
            have S2 := sort_any hL6.own TW.out.fx (by rw [hL6.1]; exact n0) (by rw [hL6.1]; omega)
            go_wp2_with fail
            refine S2.mono ?_
            rintro e w5 ⟨v5, us, rfl, O5, B8, P5⟩
            have hM7 := hM6.keep B8
            have bx7 := bx6.keep B8
            have B9 := below_below B7 B8
            obtain ⟨a5, c5, rfl, r5⟩ := O5.row
            have hul : us.length = n := by rw [P5.perm.length_eq, TW.out.lx]
            rw [hul]
            have PB := Bx.mk (And.intro hul P5)
            clear S2 hL6 hM6 bx6 B7 B8 O5 hul P5
            have R := rsort_any (cX := cm) hM7.row TW.out.fm (by rw [hM7.1]; omega)
            rw [hM7.1] at R
            go_wp2_with fail
            refine R.mono ?_
            rintro e w6 ⟨v6, zs, rfl, O6, B10, P6⟩
            have r6 := r5.keep B10
            have bx8 := bx7.keep B10
            have B11 := below_below B9 B10
            obtain ⟨a6, c6, rfl, r7⟩ := O6.row
            obtain ⟨_, hzl, ST⟩ := sort_twins TW.out.lx TW.out.lm TW.out.same PB.out.2 P6
            rw [hzl]
            have M2 := same_k (cX := c5) (cY := c6) r6 r7 (FW_perm PB.out.2.perm TW.out.fx) (FW_perm P6.perm TW.out.fm) PB.out.1 hzl (by omega) ST
            clear R hM7 bx7 B9 B10 O6 hzl P6 r5 r6 r7 ST
            go_wp2_with fail
            refine M2.mono ?_
            rintro e w7 ⟨rfl, B12⟩
            have bx9 := bx8.keep B12
            have B13 := below_below B11 B12
            clear M2 bx8 B11 B12
            have c0 := bx9.cell 0
            have c1 := bx9.cell 1
            have c2 := bx9.cell 2
            have c3 := bx9.cell 3
            have SN := fun W => shares_nil W 0 none none none 0 0 0 0 0 0
            go_wp2_with fail
            refine (SN _).mono ?_
            rintro e w8 ⟨⟨a8, c8, rfl⟩, B14⟩
            have B15 := below_below B1 (below_below B13 B14)
            go_wp2
            go_ret
            exact ⟨rfl, B15⟩
      · have hI1 : (i : Int) < ks.length := by omega
        have hI2 : ¬ (i : Int) < ns.length := by omega
        clear h1 h2
        go_upto_region 9 with (go_at_call 18; refine S1.mono ?_; rintro e w2 ⟨v2, ys, rfl, O2, B2, P2⟩)
        have hyl : ys.length = i + 1 := by rw [P2.perm.length_eq, HLX.out]
        obtain ⟨g2, cap0, cap2, rfl, q2⟩ : ∃ g2 cap0 cap2, v2 = .slice (some ⟨g2, 0, none⟩) (i + 1) cap2 ∧ FOwnN w2 wr.heap.size g2 cap0 (i + 1) ys := by
          rcases O2 with ⟨_, hx⟩ | ⟨g2, cap0, cap2, rfl, q2⟩
          · rw [hx] at hyl; simp at hyl
          · rw [hyl] at q2 ⊢
            exact ⟨g2, cap0, cap2, rfl, q2⟩
        have hL2 := hL.keep B2
        have hM2 := hM.keep B2
        have n1 : g2 ≠ gl := by have := q2.rng.1; have := hL.rng.2; omega
        have n2 : g2 ≠ gm := by have := q2.rng.1; have := hM.rng.2; omega
        have n3 : w1.heap.size ≤ g2 := by have := q2.rng.1; have := BW.size; omega
        have BB := below_below BW B2
        have BW0 := Bx.mk BW
        clear S1 O2 hyl P2 hL hM BW B2
        have q3 := q2.low (B' := w1.heap.size) (by have := BW0.out.size; omega)
        clear q2
        go_wp2
        go_loopg [11] (i + 2) (fun q y wx => ∃ j : Nat, y = .int .i64 j ∧ q = i + 2 - j ∧ j ≤ i + 1 ∧ (∃ D, FOwnN wx w1.heap.size g2 cap0 (i + 1) D) ∧ FOwnN wx w1.heap.size gl cl (i + 1) xs ∧ FOwnN wx w1.heap.size gm cm (i + 1) ms ∧ Below w1.heap.size w1 wx)
        case atStart => exact ⟨0, rfl, by omega, by omega, ⟨_, q3⟩, hL2, hM2, BB⟩
        case round =>
          clear q3 hL2 hM2 BB
          obtain ⟨j, rfl, hqj, hj, ⟨D, q2⟩, hL, hM, BW⟩ := hrel
          by_cases hji : j < i + 1
          · have hJ : (j : Int) < ((i + 1 : Nat) : Int) := by omega
            have hJ2 : (j : Int) < (i : Int) + 1 := by omega
            have c1 := q2.cell j (by omega) hJ
            have f1 := q2.fz j
            have q4 := q2.set j 4619567317775286272
            have L4 := hL.far (p := ⟨g2, (j : Int).toNat, none⟩) n1 (.float .f64 4619567317775286272)
            have M4 := hM.far (p := ⟨g2, (j : Int).toNat, none⟩) n2 (.float .f64 4619567317775286272)
            have B4 := below_set BW (p := ⟨g2, (j : Int).toNat, none⟩) n3 (.float .f64 4619567317775286272)
            rw [Int.toNat_natCast] at c1 f1 q4 L4 M4 B4
            have SF : ∀ (a : Addr) (b : Nat) (m : _) (w : World), (store a (.float .f64 b) m).run Tryd.prog w = stored Tryd.prog w a (.float .f64 b) m := fun a b m w => run_store Tryd.prog w a _ m rfl
            clear q2 hL hM BW
            go_wp2
            go_roundg (i + 2 - (j + 1))
            case rel => exact ⟨j + 1, rfl, by omega, by omega, ⟨_, q4⟩, L4, M4, B4⟩
            case measure => omega
          · have hJ : ¬ (j : Int) < ((i + 1 : Nat) : Int) := by omega
            have hJ2 : ¬ (j : Int) < (i : Int) + 1 := by omega
            have hcl : i + 1 ≤ cl := by
              rcases hL.own.cases with ⟨h, _⟩ | ⟨g, c, h, hc, _⟩
              · simp at h
              · simp only [Value.slice.injEq] at h
                rw [hL.1] at hc
                omega
            have M1 := mean_any (cap := cl) wr hL.row TW.out.fx (by rw [hL.1]; omega) (by rw [hL.1]; exact hcl)
            rw [hL.1] at M1
            clear q2 hcl
            go_wp2_with fail
            refine M1.mono ?_
            rintro e w3 ⟨m3, rfl, B3, _, _⟩
            have hL3 := hL.keep B3
            have hM3 := hM.keep B3
            have B4 := below_below BW B3
            clear M1 hL hM BW B3
            have B5 := below_alloc B4 (.cells #[.int .i64 0, .slice none 0 0, .slice none 0 0, .slice none 0 0] 47)
            have hL5 := hL3.keep (below_alloc (Below.refl _ _) (.cells #[.int .i64 0, .slice none 0 0, .slice none 0 0, .slice none 0 0] 47))
            have hM5 := hM3.keep (below_alloc (Below.refl _ _) (.cells #[.int .i64 0, .slice none 0 0, .slice none 0 0, .slice none 0 0] 47))
            have bx5 := box_new w3 #[.int .i64 0, .slice none 0 0, .slice none 0 0, .slice none 0 0] 47
            obtain ⟨n, hn⟩ : ∃ n, i + 1 = n := ⟨_, rfl⟩
            rw [hn] at TW hL5 hM5 ⊢
            have n13 : n ≤ 13 := by omega
            have n0 : 0 < n := by omega
            clear B4 hL3 hM3 hn n1 n2 n3 hJ hJ2 hji hj hqj HLX HLM i12
            have M1 := same_k (cX := cl) (cY := cm) hL5.row hM5.row TW.out.fx TW.out.fm TW.out.lx TW.out.lm (by omega) TW.out.same
            go_wp2_with fail
            refine M1.mono ?_
            rintro e w4 ⟨rfl, B6⟩
            have hL6 := hL5.keep B6
            have hM6 := hM5.keep B6
            have bx6 := bx5.keep B6
            have B7 := below_below B5 B6
            clear M1 hL5 hM5 bx5 B5 B6
            have S2 := sort_any hL6.own TW.out.fx (by rw [hL6.1]; exact n0) (by rw [hL6.1]; omega)
            go_wp2_with fail
            refine S2.mono ?_
            rintro e w5 ⟨v5, us, rfl, O5, B8, P5⟩
            have hM7 := hM6.keep B8
            have bx7 := bx6.keep B8
            have B9 := below_below B7 B8
            obtain ⟨a5, c5, rfl, r5⟩ := O5.row
            have hul : us.length = n := by rw [P5.perm.length_eq, TW.out.lx]
            rw [hul]
            have PB := Bx.mk (And.intro hul P5)
            clear S2 hL6 hM6 bx6 B7 B8 O5 hul P5
            have R := rsort_any (cX := cm) hM7.row TW.out.fm (by rw [hM7.1]; omega)
            rw [hM7.1] at R
            go_wp2_with fail
            refine R.mono ?_
            rintro e w6 ⟨v6, zs, rfl, O6, B10, P6⟩
            have r6 := r5.keep B10
            have bx8 := bx7.keep B10
            have B11 := below_below B9 B10
            obtain ⟨a6, c6, rfl, r7⟩ := O6.row
            obtain ⟨_, hzl, ST⟩ := sort_twins TW.out.lx TW.out.lm TW.out.same PB.out.2 P6
            rw [hzl]
            have M2 := same_k (cX := c5) (cY := c6) r6 r7 (FW_perm PB.out.2.perm TW.out.fx) (FW_perm P6.perm TW.out.fm) PB.out.1 hzl (by omega) ST
            clear R hM7 bx7 B9 B10 O6 hzl P6 r5 r6 r7 ST
            go_wp2_with fail
            refine M2.mono ?_
            rintro e w7 ⟨rfl, B12⟩
            have bx9 := bx8.keep B12
            have B13 := below_below B11 B12
            clear M2 bx8 B11 B12
            have c0 := bx9.cell 0
            have c1 := bx9.cell 1
            have c2 := bx9.cell 2
            have c3 := bx9.cell 3
            have SN := fun W => shares_nil W 0 none none none 0 0 0 0 0 0
            go_wp2_with fail
            refine (SN _).mono ?_
            rintro e w8 ⟨⟨a8, c8, rfl⟩, B14⟩
            have B15 := below_below B1 (below_below B13 B14)
            go_wp2
            go_ret
            exact ⟨rfl, B15⟩
      · have hI1 : (i : Int) < ks.length := by omega
        have hI2 : (i : Int) < ns.length := by omega
        have hI3 : ¬ (i : Int) < 12 := by omega
        clear h1 h2 h3
        go_upto_region 9 with (go_at_call 18; refine S1.mono ?_; rintro e w2 ⟨v2, ys, rfl, O2, B2, P2⟩)
        have hyl : ys.length = i + 1 := by rw [P2.perm.length_eq, HLX.out]
        obtain ⟨g2, cap0, cap2, rfl, q2⟩ : ∃ g2 cap0 cap2, v2 = .slice (some ⟨g2, 0, none⟩) (i + 1) cap2 ∧ FOwnN w2 wr.heap.size g2 cap0 (i + 1) ys := by
          rcases O2 with ⟨_, hx⟩ | ⟨g2, cap0, cap2, rfl, q2⟩
          · rw [hx] at hyl; simp at hyl
          · rw [hyl] at q2 ⊢
            exact ⟨g2, cap0, cap2, rfl, q2⟩
        have hL2 := hL.keep B2
        have hM2 := hM.keep B2
        have n1 : g2 ≠ gl := by have := q2.rng.1; have := hL.rng.2; omega
        have n2 : g2 ≠ gm := by have := q2.rng.1; have := hM.rng.2; omega
        have n3 : w1.heap.size ≤ g2 := by have := q2.rng.1; have := BW.size; omega
        have BB := below_below BW B2
        have BW0 := Bx.mk BW
        clear S1 O2 hyl P2 hL hM BW B2
        have q3 := q2.low (B' := w1.heap.size) (by have := BW0.out.size; omega)
        clear q2
        go_wp2
        go_loopg [11] (i + 2) (fun q y wx => ∃ j : Nat, y = .int .i64 j ∧ q = i + 2 - j ∧ j ≤ i + 1 ∧ (∃ D, FOwnN wx w1.heap.size g2 cap0 (i + 1) D) ∧ FOwnN wx w1.heap.size gl cl (i + 1) xs ∧ FOwnN wx w1.heap.size gm cm (i + 1) ms ∧ Below w1.heap.size w1 wx)
        case atStart => exact ⟨0, rfl, by omega, by omega, ⟨_, q3⟩, hL2, hM2, BB⟩
        case round =>
          clear q3 hL2 hM2 BB
          obtain ⟨j, rfl, hqj, hj, ⟨D, q2⟩, hL, hM, BW⟩ := hrel
          by_cases hji : j < i + 1
          · have hJ : (j : Int) < ((i + 1 : Nat) : Int) := by omega
            have hJ2 : (j : Int) < (i : Int) + 1 := by omega
            have c1 := q2.cell j (by omega) hJ
            have f1 := q2.fz j
            have q4 := q2.set j 4619567317775286272
            have L4 := hL.far (p := ⟨g2, (j : Int).toNat, none⟩) n1 (.float .f64 4619567317775286272)
            have M4 := hM.far (p := ⟨g2, (j : Int).toNat, none⟩) n2 (.float .f64 4619567317775286272)
            have B4 := below_set BW (p := ⟨g2, (j : Int).toNat, none⟩) n3 (.float .f64 4619567317775286272)
            rw [Int.toNat_natCast] at c1 f1 q4 L4 M4 B4
            have SF : ∀ (a : Addr) (b : Nat) (m : _) (w : World), (store a (.float .f64 b) m).run Tryd.prog w = stored Tryd.prog w a (.float .f64 b) m := fun a b m w => run_store Tryd.prog w a _ m rfl
            clear q2 hL hM BW
            go_wp2
            go_roundg (i + 2 - (j + 1))
            case rel => exact ⟨j + 1, rfl, by omega, by omega, ⟨_, q4⟩, L4, M4, B4⟩
            case measure => omega
          · have hJ : ¬ (j : Int) < ((i + 1 : Nat) : Int) := by omega
            have hJ2 : ¬ (j : Int) < (i : Int) + 1 := by omega
            have hcl : i + 1 ≤ cl := by
              rcases hL.own.cases with ⟨h, _⟩ | ⟨g, c, h, hc, _⟩
              · simp at h
              · simp only [Value.slice.injEq] at h
                rw [hL.1] at hc
                omega
            have M1 := mean_any (cap := cl) wr hL.row TW.out.fx (by rw [hL.1]; omega) (by rw [hL.1]; exact hcl)
            rw [hL.1] at M1
            clear q2 hcl
            go_wp2_with fail
            refine M1.mono ?_
            rintro e w3 ⟨m3, rfl, B3, _, _⟩
            have hL3 := hL.keep B3
            have hM3 := hM.keep B3
            have B4 := below_below BW B3
            clear M1 hL hM BW B3
            have B5 := below_alloc B4 (.cells #[.int .i64 0, .slice none 0 0, .slice none 0 0, .slice none 0 0] 47)
            have hL5 := hL3.keep (below_alloc (Below.refl _ _) (.cells #[.int .i64 0, .slice none 0 0, .slice none 0 0, .slice none 0 0] 47))
            have hM5 := hM3.keep (below_alloc (Below.refl _ _) (.cells #[.int .i64 0, .slice none 0 0, .slice none 0 0, .slice none 0 0] 47))
            have bx5 := box_new w3 #[.int .i64 0, .slice none 0 0, .slice none 0 0, .slice none 0 0] 47
            obtain ⟨n, hn⟩ : ∃ n, i + 1 = n := ⟨_, rfl⟩
            rw [hn] at TW hL5 hM5 ⊢
            have n13 : n ≤ 13 := by omega
            have n0 : 0 < n := by omega
            clear B4 hL3 hM3 hn n1 n2 n3 hJ hJ2 hji hj hqj HLX HLM i12
            have M1 := same_k (cX := cl) (cY := cm) hL5.row hM5.row TW.out.fx TW.out.fm TW.out.lx TW.out.lm (by omega) TW.out.same
            go_wp2_with fail
            refine M1.mono ?_
            rintro e w4 ⟨rfl, B6⟩
            have hL6 := hL5.keep B6
            have hM6 := hM5.keep B6
            have bx6 := bx5.keep B6
            have B7 := below_below B5 B6
            clear M1 hL5 hM5 bx5 B5 B6
            have S2 := sort_any hL6.own TW.out.fx (by rw [hL6.1]; exact n0) (by rw [hL6.1]; omega)
            go_wp2_with fail
            refine S2.mono ?_
            rintro e w5 ⟨v5, us, rfl, O5, B8, P5⟩
            have hM7 := hM6.keep B8
            have bx7 := bx6.keep B8
            have B9 := below_below B7 B8
            obtain ⟨a5, c5, rfl, r5⟩ := O5.row
            have hul : us.length = n := by rw [P5.perm.length_eq, TW.out.lx]
            rw [hul]
            have PB := Bx.mk (And.intro hul P5)
            clear S2 hL6 hM6 bx6 B7 B8 O5 hul P5
            have R := rsort_any (cX := cm) hM7.row TW.out.fm (by rw [hM7.1]; omega)
            rw [hM7.1] at R
            go_wp2_with fail
            refine R.mono ?_
            rintro e w6 ⟨v6, zs, rfl, O6, B10, P6⟩
            have r6 := r5.keep B10
            have bx8 := bx7.keep B10
            have B11 := below_below B9 B10
            obtain ⟨a6, c6, rfl, r7⟩ := O6.row
            obtain ⟨_, hzl, ST⟩ := sort_twins TW.out.lx TW.out.lm TW.out.same PB.out.2 P6
            rw [hzl]
            have M2 := same_k (cX := c5) (cY := c6) r6 r7 (FW_perm PB.out.2.perm TW.out.fx) (FW_perm P6.perm TW.out.fm) PB.out.1 hzl (by omega) ST
            clear R hM7 bx7 B9 B10 O6 hzl P6 r5 r6 r7 ST
            go_wp2_with fail
            refine M2.mono ?_
            rintro e w7 ⟨rfl, B12⟩
            have bx9 := bx8.keep B12
            have B13 := below_below B11 B12
            clear M2 bx8 B11 B12
            have c0 := bx9.cell 0
            have c1 := bx9.cell 1
            have c2 := bx9.cell 2
            have c3 := bx9.cell 3
            have SN := fun W => shares_nil W 0 none none none 0 0 0 0 0 0
            go_wp2_with fail
            refine (SN _).mono ?_
            rintro e w8 ⟨⟨a8, c8, rfl⟩, B14⟩
            have B15 := below_below B1 (below_below B13 B14)
            go_wp2
            go_ret
            exact ⟨rfl, B15⟩
end
end Go.Proofs.YtpggfgkajkgcoaaDoor
