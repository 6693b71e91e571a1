/- The walk of GaugeSorts. -/
import Derived.Test.YtpggfgkajkgcoaaDoorG15
set_option linter.unusedVariables false
set_option linter.unusedSimpArgs false
namespace Go.Proofs.YtpggfgkajkgcoaaDoor
open Go.RowKit

/-- Two rows of one length, the same numbers place for place. -/
theorem same_n {w : World} {aX aY : Option Addr} {cX cY n : Nat} {xs ys : List Nat} (hX : FRow w aX xs) (hY : FRow w aY ys) (wX : FW xs) (wY : FW ys) (hx : xs.length = n) (hy : ys.length = n) (hn : n ≤ 100000) (H : ∀ j : Nat, j < n → fsame (fd xs j) (fd ys j) = true) :
    Calls Tryd.prog 20 #[.slice aX n cX, .slice aY n cY] w fun e w' => e = .returned (.bool true) ∧ Below w.heap.size w w' := by
  subst hx
  exact same_yes hX hY wX wY hy hn H
theorem sorts_same {xs ys zs : List Nat} {n : Nat} (h : xs.length = n) (hy : SortOf xs ys) (hz : SortOf xs zs) : ys.length = n ∧ zs.length = n ∧ ∀ j : Nat, j < n → fsame (fd ys j) (fd zs j) = true := by
  obtain ⟨e, k⟩ := sort_keys hy hz
  have el : ys.length = n := by rw [hy.perm.length_eq, h]
  exact ⟨el, by omega, fun j hj => decide_eq_true (k j (by omega))⟩
theorem turned_perm (xs : List Nat) (k : Nat) : (xs.drop k ++ xs.take k).Perm xs := by
  have h : (xs.drop k ++ xs.take k).Perm (xs.take k ++ xs.drop k) := List.perm_append_comm
  rwa [List.take_append_drop] at h
section
variable {aK aN : Option Addr} {cK cN : Nat} {ks ns : List Int} {w : World}
set_option maxHeartbeats 6400000 in
theorem gsorts_walk (a : Nat) (turn : Int) (ha : a < 18446744073709551616) (hK : RowOf w aK ks) (hN : RowOf w aN ns) (ht : Tab w) :
    Calls Tryd.prog 4 #[.slice aK ks.length cK, .slice aN ns.length cN, .float .f64 a, .int .i64 turn] w fun e w' => e = .returned (.bool true) ∧ Below w.heap.size w w' := by
  have KN := known_any w ht
  clear ht
  go_enter Tryd.func4, Tryd.ntmps4
  go_wp2_with fail
  refine KN.mono ?_
  rintro e w1 ⟨rfl, B1⟩
  clear KN
  have hK1 := hK.keep B1
  have hN1 := hN.keep B1
  clear hK hN
  have BA := below_alloc (Below.refl w1.heap.size w1) (.cells (flts [a]).toArray 22)
  have OA := (fown_lit w1 w1.heap.size [a] (Nat.le_refl _) (by simp)).own
  go_wp2_with fail
  go_loopg [9, 10] 21 (fun q z y wr => ∃ (i : Nat) (xs : List Nat), y = .int .i64 i ∧ q = 21 - i ∧ i ≤ 20 ∧ Below w1.heap.size w1 wr ∧ FOwn wr w1.heap.size z xs ∧ xs.length = i + 1 ∧ Bx (FW xs))
  case atStart => exact ⟨0, [a], rfl, rfl, by omega, BA, OA, rfl, ⟨FW_snoc FW_nil ha⟩⟩
  case round =>
    clear BA OA
    obtain ⟨i, xs, rfl, hq, hi, BW, hO, hxl, HF⟩ := hrel
    have hp := Bx.mk (show xs ≠ [] from fun e => by rw [e] at hxl; simp at hxl)
    have hx20 : xs.length ≤ 21 := by omega
    have HXL := Bx.mk hxl
    clear hxl
    by_cases h3 : i < ks.length ∧ i < ns.length ∧ i < 20
    · obtain ⟨h1, h2, h3⟩ := h3
      have hI1 : (i : Int) < ks.length := by omega
      have hI2 : (i : Int) < ns.length := by omega
      have hI3 : (i : Int) < 20 := by omega
      obtain ⟨bK, oK, rfl, _, cK1⟩ := (hK1.keep BW) i (by omega) hI1
      obtain ⟨bN, oN, rfl, _, cN1⟩ := (hN1.keep BW) i (by omega) hI2
      rw [Int.toNat_natCast] at cK1 cN1
      go_upto_region 7 with fail
      have bD := Below.drew (Below.refl wr.heap.size wr)
      have RA := fun W => real_any (rd ks i) (rd ns i) i W
      have FN := fun (W : World) (x : Nat) (hB : Below wr.heap.size wr W) => hO.keep (below_alloc hB (.cells (flts [x]).toArray 22))
      go_region_law (first
        | (refine fstep_any rfl (.tmp 34) (.tmp 45) rfl w1.heap.size _ xs [x] rfl hO2 (some ⟨w2.heap.size, 0, none⟩) 1 1 rfl rfl n1 (by omega) (by omega) BL.size (xs.length + 1) rfl ?_; intro g cap w4 q4 gr _; have B4 := fbelow_app BL hO2 (Nat.le_refl _) gr; have Q4 := Bx.mk q4; clear hO2 q4 gr BL n1)
        | (go_simp; go_wp2_with (go_at_call 15; refine (RA _).mono ?_; rintro e w2 ⟨x, rfl, B2, lx, _⟩; have BB := below_below bD B2; have n1 := frow_new w2 [x]; have hO2 := FN w2 x BB; have BL := below_below BW (below_alloc BB (.cells (flts [x]).toArray 22)); clear BB B2)))
      all_goals
        go_wp2
        go_roundg (21 - (i + 1))
        case rel => exact ⟨i + 1, xs ++ [x], rfl, rfl, by omega, B4, Q4.out.own, by simp; exact HXL.out, ⟨FW_snoc HF.out lx⟩⟩
        case measure => omega
    · have hex : ¬ i < ks.length ∨ (i < ks.length ∧ ¬ i < ns.length) ∨ (i < ks.length ∧ i < ns.length ∧ ¬ i < 20) := by omega
      rcases hO.cases with ⟨_, hx⟩ | ⟨g, cap, rfl, hcap, _, kO⟩
      · exact absurd hx hp.out
      obtain ⟨n, hn⟩ : ∃ n, xs.length = n := ⟨_, rfl⟩
      have hni : n = i + 1 := by rw [← hn]; exact HXL.out
      rw [hn] at hcap kO ⊢
      have n0 : 0 < n := by omega
      have n21 : n ≤ 21 := by omega
      have HN := Bx.mk hn
      clear hni hx20
      have S1 := sort_any kO.own HF.out (by rw [hn]; exact n0) (by rw [hn]; exact n21)
      have hX := kO.row
      have WI := fun W => within12_any turn n (by omega) (by omega) W
      have hk := wi_rng turn n (by omega)
      generalize wi turn n = kz at WI hk
      obtain ⟨k, rfl⟩ : ∃ k : Nat, kz = k := ⟨kz.toNat, by omega⟩
      have hkn : k < n := by omega
      clear h3 hq hi hn hO hp hk
      have HE := hex
      clear hex
      rcases HE with h1 | ⟨h1, h2⟩ | ⟨h1, h2, h3⟩
      · have hI1 : ¬ (i : Int) < ks.length := by omega
        clear h1
        go_wp2_with fail
        refine S1.mono ?_
        rintro e w2 ⟨v2, ys, rfl, O2, B2, P2⟩
        clear S1
        obtain ⟨a2, c2, rfl, r2⟩ := O2.row
        have hyl : ys.length = n := by rw [P2.perm.length_eq, HN.out]
        rw [hyl]
        have HY := Bx.mk hyl
        have hX2 := hX.keep B2
        have BB := below_below B1 (below_below BW B2)
        clear hX B2 BW O2 kO hyl
        go_upto_region 10 with (go_at_call 19; refine (WI _).mono ?_; rintro e w' ⟨rfl, rfl⟩)
        have T1 := fun (W : World) (h : Below w2.heap.size w2 W) => (show FRow W (some ⟨g, k, none⟩) (xs.drop k) from by have := (hX2.drop k).keep h; rwa [Nat.zero_add] at this)
        have T2 := fun (W : World) (h : Below w2.heap.size w2 W) => (hX2.take k).keep h
        have DL : (xs.drop k).length = n - k := by rw [List.length_drop, HN.out]
        have TL : (xs.take k).length = k := by rw [List.length_take, HN.out]; omega
        have o1 : FOwnN ((w2.alloc (.cells #[] 22)).drew) w2.heap.size w2.heap.size 0 0 [] := (fown_lit w2 w2.heap.size [] (Nat.le_refl _) (by simp)).keep (Below.drew (Below.refl _ _))
        have b1 : Below w2.heap.size w2 ((w2.alloc (.cells #[] 22)).drew) := Below.drew (below_alloc (Below.refl _ _) _)
        have S2 := fun (W : World) (v : Value) (h : FOwn W w2.heap.size v ([] ++ xs.drop k ++ xs.take k)) => sort_any h (FW_perm (turned_perm xs k) HF.out) (by rw [List.length_append, List.length_append, DL, TL]; simp; omega) (by rw [List.length_append, List.length_append, DL, TL]; simp; omega)
        have EN := fun (zs : List Nat) (h : SortOf ([] ++ xs.drop k ++ xs.take k) zs) => (show zs.length = n from by rw [h.perm.length_eq, List.length_append, List.length_append, DL, TL]; simp; omega)
        have k0 : (0 : Int) ≤ (k : Int) := by omega
        have k1 : (k : Int) ≤ (n : Int) := by omega
        have k2 : (k : Int) ≤ (cap : Int) := by omega
        have k3 : ¬ cap = k := by omega
        have k4 : ¬ (cap : Int) = k := by omega
        go_region_law (first
          | (refine fstep_all rfl (.tmp 53) (.tmp 56) rfl w2.heap.size w2.heap.size 0 0 [] (xs.drop k) rfl o1 (some ⟨g, k, none⟩) (cap - k) (n - k) DL rfl (T1 _ b1) (by omega) b1.size (n - k) (Nat.zero_add _) ?_; intro g1 cap1 w4 q4 gr4; have B4 := fbelow_all b1 o1 (Nat.le_refl _) gr4)
          | (refine fstep_all rfl (.tmp 57) (.tmp 60) rfl w2.heap.size g1 cap1 (n - k) ([] ++ xs.drop k) (xs.take k) rfl q4 (some ⟨g, 0, none⟩) cap k TL rfl (T2 _ B4) (by omega) B4.size n (by omega) ?_; intro g2 cap2 w5 q5 gr5; have B5 := fbelow_all B4 q4 (Nat.le_refl _) gr5)
          | (go_simp; go_wp2_with (go_at_call 18; refine (S2 _ _ q5.own).mono ?_; rintro e w6 ⟨v6, zs, rfl, O6, B6, P6⟩; have e6 := EN zs P6; obtain ⟨a6, c6, rfl, r6⟩ := O6.row; rw [e6])))
        have BB6 := below_below BB (below_below B5 B6)
        have B26 := below_below B5 B6
        have r26 := r2.keep B26
        have R := rsort_any (cX := cap) (hX2.keep B26) HF.out (by rw [HN.out]; exact n21)
        rw [HN.out] at R
        have ZL := Bx.mk (EN zs P6)
        have FY := Bx.mk (FW_perm P2.perm HF.out)
        have PZ := Bx.mk (show SortOf xs zs from ⟨P6.perm.trans (turned_perm xs k), P6.srt⟩)
        have FZ := Bx.mk (FW_perm PZ.out.perm HF.out)
        clear T1 T2 DL TL o1 b1 S2 EN B5 B6 B26 q4 q5 B4 O6 e6 r2 hX2 P6 k0 k1 k2 k3 k4
        go_wp2_with fail
        refine R.mono ?_
        rintro e w7 ⟨v7, us, rfl, O7, B7, P7⟩
        clear R
        obtain ⟨a7, c7, rfl, r7⟩ := O7.row
        obtain ⟨_, hul, SU⟩ := sorts_same HN.out P2 P7
        obtain ⟨_, _, SZ⟩ := sorts_same HN.out P2 PZ.out
        rw [hul]
        have M1 := same_n (cX := c2) (cY := c7) (r26.keep B7) r7 FY.out (FW_perm P7.perm HF.out) HY.out hul (by omega) SU
        have r67 := r6.keep B7
        have r27 := r26.keep B7
        have BB := below_below BB6 B7
        clear B7 BB6 r6 r26 r7 O7 hul SU P7
        go_wp2_with fail
        refine M1.mono ?_
        rintro e w8 ⟨rfl, B8⟩
        have M2 := same_n (cX := c2) (cY := c6) (r27.keep B8) (r67.keep B8) FY.out FZ.out HY.out ZL.out (by omega) SZ
        have BB := below_below BB B8
        clear M1 B8 r27 r67 SZ
        go_wp2_with fail
        refine M2.mono ?_
        rintro e w9 ⟨rfl, B9⟩
        go_wp2
        go_ret
        exact ⟨rfl, below_below BB B9⟩
      · have hI1 : (i : Int) < ks.length := by omega
        have hI2 : ¬ (i : Int) < ns.length := by omega
        clear h1 h2
        go_wp2_with fail
        refine S1.mono ?_
        rintro e w2 ⟨v2, ys, rfl, O2, B2, P2⟩
        clear S1
        obtain ⟨a2, c2, rfl, r2⟩ := O2.row
        have hyl : ys.length = n := by rw [P2.perm.length_eq, HN.out]
        rw [hyl]
        have HY := Bx.mk hyl
        have hX2 := hX.keep B2
        have BB := below_below B1 (below_below BW B2)
        clear hX B2 BW O2 kO hyl
        go_upto_region 10 with (go_at_call 19; refine (WI _).mono ?_; rintro e w' ⟨rfl, rfl⟩)
        have T1 := fun (W : World) (h : Below w2.heap.size w2 W) => (show FRow W (some ⟨g, k, none⟩) (xs.drop k) from by have := (hX2.drop k).keep h; rwa [Nat.zero_add] at this)
        have T2 := fun (W : World) (h : Below w2.heap.size w2 W) => (hX2.take k).keep h
        have DL : (xs.drop k).length = n - k := by rw [List.length_drop, HN.out]
        have TL : (xs.take k).length = k := by rw [List.length_take, HN.out]; omega
        have o1 : FOwnN ((w2.alloc (.cells #[] 22)).drew) w2.heap.size w2.heap.size 0 0 [] := (fown_lit w2 w2.heap.size [] (Nat.le_refl _) (by simp)).keep (Below.drew (Below.refl _ _))
        have b1 : Below w2.heap.size w2 ((w2.alloc (.cells #[] 22)).drew) := Below.drew (below_alloc (Below.refl _ _) _)
        have S2 := fun (W : World) (v : Value) (h : FOwn W w2.heap.size v ([] ++ xs.drop k ++ xs.take k)) => sort_any h (FW_perm (turned_perm xs k) HF.out) (by rw [List.length_append, List.length_append, DL, TL]; simp; omega) (by rw [List.length_append, List.length_append, DL, TL]; simp; omega)
        have EN := fun (zs : List Nat) (h : SortOf ([] ++ xs.drop k ++ xs.take k) zs) => (show zs.length = n from by rw [h.perm.length_eq, List.length_append, List.length_append, DL, TL]; simp; omega)
        have k0 : (0 : Int) ≤ (k : Int) := by omega
        have k1 : (k : Int) ≤ (n : Int) := by omega
        have k2 : (k : Int) ≤ (cap : Int) := by omega
        have k3 : ¬ cap = k := by omega
        have k4 : ¬ (cap : Int) = k := by omega
        go_region_law (first
          | (refine fstep_all rfl (.tmp 53) (.tmp 56) rfl w2.heap.size w2.heap.size 0 0 [] (xs.drop k) rfl o1 (some ⟨g, k, none⟩) (cap - k) (n - k) DL rfl (T1 _ b1) (by omega) b1.size (n - k) (Nat.zero_add _) ?_; intro g1 cap1 w4 q4 gr4; have B4 := fbelow_all b1 o1 (Nat.le_refl _) gr4)
          | (refine fstep_all rfl (.tmp 57) (.tmp 60) rfl w2.heap.size g1 cap1 (n - k) ([] ++ xs.drop k) (xs.take k) rfl q4 (some ⟨g, 0, none⟩) cap k TL rfl (T2 _ B4) (by omega) B4.size n (by omega) ?_; intro g2 cap2 w5 q5 gr5; have B5 := fbelow_all B4 q4 (Nat.le_refl _) gr5)
          | (go_simp; go_wp2_with (go_at_call 18; refine (S2 _ _ q5.own).mono ?_; rintro e w6 ⟨v6, zs, rfl, O6, B6, P6⟩; have e6 := EN zs P6; obtain ⟨a6, c6, rfl, r6⟩ := O6.row; rw [e6])))
        have BB6 := below_below BB (below_below B5 B6)
        have B26 := below_below B5 B6
        have r26 := r2.keep B26
        have R := rsort_any (cX := cap) (hX2.keep B26) HF.out (by rw [HN.out]; exact n21)
        rw [HN.out] at R
        have ZL := Bx.mk (EN zs P6)
        have FY := Bx.mk (FW_perm P2.perm HF.out)
        have PZ := Bx.mk (show SortOf xs zs from ⟨P6.perm.trans (turned_perm xs k), P6.srt⟩)
        have FZ := Bx.mk (FW_perm PZ.out.perm HF.out)
        clear T1 T2 DL TL o1 b1 S2 EN B5 B6 B26 q4 q5 B4 O6 e6 r2 hX2 P6 k0 k1 k2 k3 k4
        go_wp2_with fail
        refine R.mono ?_
        rintro e w7 ⟨v7, us, rfl, O7, B7, P7⟩
        clear R
        obtain ⟨a7, c7, rfl, r7⟩ := O7.row
        obtain ⟨_, hul, SU⟩ := sorts_same HN.out P2 P7
        obtain ⟨_, _, SZ⟩ := sorts_same HN.out P2 PZ.out
        rw [hul]
        have M1 := same_n (cX := c2) (cY := c7) (r26.keep B7) r7 FY.out (FW_perm P7.perm HF.out) HY.out hul (by omega) SU
        have r67 := r6.keep B7
        have r27 := r26.keep B7
        have BB := below_below BB6 B7
        clear B7 BB6 r6 r26 r7 O7 hul SU P7
        go_wp2_with fail
        refine M1.mono ?_
        rintro e w8 ⟨rfl, B8⟩
        have M2 := same_n (cX := c2) (cY := c6) (r27.keep B8) (r67.keep B8) FY.out FZ.out HY.out ZL.out (by omega) SZ
        have BB := below_below BB B8
        clear M1 B8 r27 r67 SZ
        go_wp2_with fail
        refine M2.mono ?_
        rintro e w9 ⟨rfl, B9⟩
        go_wp2
        go_ret
        exact ⟨rfl, below_below BB B9⟩
      · have hI1 : (i : Int) < ks.length := by omega
        have hI2 : (i : Int) < ns.length := by omega
        have hI3 : ¬ (i : Int) < 20 := by omega
        clear h1 h2 h3
        go_wp2_with fail
        refine S1.mono ?_
        rintro e w2 ⟨v2, ys, rfl, O2, B2, P2⟩
        clear S1
        obtain ⟨a2, c2, rfl, r2⟩ := O2.row
        have hyl : ys.length = n := by rw [P2.perm.length_eq, HN.out]
        rw [hyl]
        have HY := Bx.mk hyl
        have hX2 := hX.keep B2
        have BB := below_below B1 (below_below BW B2)
        clear hX B2 BW O2 kO hyl
        go_upto_region 10 with (go_at_call 19; refine (WI _).mono ?_; rintro e w' ⟨rfl, rfl⟩)
        have T1 := fun (W : World) (h : Below w2.heap.size w2 W) => (show FRow W (some ⟨g, k, none⟩) (xs.drop k) from by have := (hX2.drop k).keep h; rwa [Nat.zero_add] at this)
        have T2 := fun (W : World) (h : Below w2.heap.size w2 W) => (hX2.take k).keep h
        have DL : (xs.drop k).length = n - k := by rw [List.length_drop, HN.out]
        have TL : (xs.take k).length = k := by rw [List.length_take, HN.out]; omega
        have o1 : FOwnN ((w2.alloc (.cells #[] 22)).drew) w2.heap.size w2.heap.size 0 0 [] := (fown_lit w2 w2.heap.size [] (Nat.le_refl _) (by simp)).keep (Below.drew (Below.refl _ _))
        have b1 : Below w2.heap.size w2 ((w2.alloc (.cells #[] 22)).drew) := Below.drew (below_alloc (Below.refl _ _) _)
        have S2 := fun (W : World) (v : Value) (h : FOwn W w2.heap.size v ([] ++ xs.drop k ++ xs.take k)) => sort_any h (FW_perm (turned_perm xs k) HF.out) (by rw [List.length_append, List.length_append, DL, TL]; simp; omega) (by rw [List.length_append, List.length_append, DL, TL]; simp; omega)
        have EN := fun (zs : List Nat) (h : SortOf ([] ++ xs.drop k ++ xs.take k) zs) => (show zs.length = n from by rw [h.perm.length_eq, List.length_append, List.length_append, DL, TL]; simp; omega)
        have k0 : (0 : Int) ≤ (k : Int) := by omega
        have k1 : (k : Int) ≤ (n : Int) := by omega
        have k2 : (k : Int) ≤ (cap : Int) := by omega
        have k3 : ¬ cap = k := by omega
        have k4 : ¬ (cap : Int) = k := by omega
        go_region_law (first
          | (refine fstep_all rfl (.tmp 53) (.tmp 56) rfl w2.heap.size w2.heap.size 0 0 [] (xs.drop k) rfl o1 (some ⟨g, k, none⟩) (cap - k) (n - k) DL rfl (T1 _ b1) (by omega) b1.size (n - k) (Nat.zero_add _) ?_; intro g1 cap1 w4 q4 gr4; have B4 := fbelow_all b1 o1 (Nat.le_refl _) gr4)
          | (refine fstep_all rfl (.tmp 57) (.tmp 60) rfl w2.heap.size g1 cap1 (n - k) ([] ++ xs.drop k) (xs.take k) rfl q4 (some ⟨g, 0, none⟩) cap k TL rfl (T2 _ B4) (by omega) B4.size n (by omega) ?_; intro g2 cap2 w5 q5 gr5; have B5 := fbelow_all B4 q4 (Nat.le_refl _) gr5)
          | (go_simp; go_wp2_with (go_at_call 18; refine (S2 _ _ q5.own).mono ?_; rintro e w6 ⟨v6, zs, rfl, O6, B6, P6⟩; have e6 := EN zs P6; obtain ⟨a6, c6, rfl, r6⟩ := O6.row; rw [e6])))
        have BB6 := below_below BB (below_below B5 B6)
        have B26 := below_below B5 B6
        have r26 := r2.keep B26
        have R := rsort_any (cX := cap) (hX2.keep B26) HF.out (by rw [HN.out]; exact n21)
        rw [HN.out] at R
        have ZL := Bx.mk (EN zs P6)
        have FY := Bx.mk (FW_perm P2.perm HF.out)
        have PZ := Bx.mk (show SortOf xs zs from ⟨P6.perm.trans (turned_perm xs k), P6.srt⟩)
        have FZ := Bx.mk (FW_perm PZ.out.perm HF.out)
        clear T1 T2 DL TL o1 b1 S2 EN B5 B6 B26 q4 q5 B4 O6 e6 r2 hX2 P6 k0 k1 k2 k3 k4
        go_wp2_with fail
        refine R.mono ?_
        rintro e w7 ⟨v7, us, rfl, O7, B7, P7⟩
        clear R
        obtain ⟨a7, c7, rfl, r7⟩ := O7.row
        obtain ⟨_, hul, SU⟩ := sorts_same HN.out P2 P7
        obtain ⟨_, _, SZ⟩ := sorts_same HN.out P2 PZ.out
        rw [hul]
        have M1 := same_n (cX := c2) (cY := c7) (r26.keep B7) r7 FY.out (FW_perm P7.perm HF.out) HY.out hul (by omega) SU
        have r67 := r6.keep B7
        have r27 := r26.keep B7
        have BB := below_below BB6 B7
        clear B7 BB6 r6 r26 r7 O7 hul SU P7
        go_wp2_with fail
        refine M1.mono ?_
        rintro e w8 ⟨rfl, B8⟩
        have M2 := same_n (cX := c2) (cY := c6) (r27.keep B8) (r67.keep B8) FY.out FZ.out HY.out ZL.out (by omega) SZ
        have BB := below_below BB B8
        clear M1 B8 r27 r67 SZ
        go_wp2_with fail
        refine M2.mono ?_
        rintro e w9 ⟨rfl, B9⟩
        go_wp2
        go_ret
        exact ⟨rfl, below_below BB B9⟩
end
end Go.Proofs.YtpggfgkajkgcoaaDoor
