/- The walk of GaugeMeans. -/
import Derived.Test.YtpggfgkajkgcoaaDoorG13
import Derived.Deep.RegionLawGrows
set_option linter.unusedVariables false
set_option linter.unusedSimpArgs false
namespace Go.Proofs.YtpggfgkajkgcoaaDoor
open Go.RowKit

theorem means_same {xs : List Nat} {m u : Nat} (h : MeanIs xs m) (k : MeanIs xs u) : fsame m u = true := by
  cases e : hasMean xs
  · rw [h.no e, k.no e]; exact fsame_refl _
  · exact fsame_trans (h.yes e) (fsame_comm (k.yes e))
theorem mean_nil (w : World) : Calls Tryd.prog 24 #[.slice none 0 0] w fun e w' => ∃ m, e = .returned (.tuple #[.float .f64 m, .bool false]) ∧ Below w.heap.size w w' := by
  refine (mean_any (xs := []) w (FRow.nil w none) FW_nil (by simp) (Nat.le_refl _)).mono ?_
  rintro e w' ⟨m, rfl, B, _, _⟩
  exact ⟨m, rfl, B⟩
theorem one_yes {a b : Nat} (ha : a < 18446744073709551616) (hb : b < 18446744073709551616) (h : fsame a b = true) (w : World) : Calls Tryd.prog 26 #[.float .f64 a, .float .f64 b] w fun e w' => e = .returned (.bool true) ∧ w = w' := by
  have := one_any a b ha hb w
  rwa [h] at this
section
variable {aK aN : Option Addr} {cK cN : Nat} {ks ns : List Int} {w : World}
set_option maxHeartbeats 6400000 in
theorem gmeans_walk (a : Nat) (ha : a < 18446744073709551616) (hK : RowOf w aK ks) (hN : RowOf w aN ns) (ht : Tab w) :
    Calls Tryd.prog 6 #[.slice aK ks.length cK, .slice aN ns.length cN, .float .f64 a] w fun e w' => e = .returned (.bool true) ∧ Below w.heap.size w w' := by
  have KN := known_any w ht
  clear ht
  go_enter Tryd.func6, Tryd.ntmps6
  go_wp2_with fail
  refine KN.mono ?_
  rintro e w1 ⟨rfl, B1⟩
  clear KN
  have hK1 := hK.keep B1
  have hN1 := hN.keep B1
  clear hK hN
  go_wp2_with fail
  go_loopg [7, 8] 13 (fun q z y wr => ∃ (i : Nat) (xs : List Nat), y = .int .i64 i ∧ q = 13 - i ∧ i ≤ 12 ∧ Below w1.heap.size w1 wr ∧ FOwn wr w1.heap.size z xs ∧ xs.length = i ∧ Bx (FW xs) ∧ Bx (xs = [] → z = .slice none 0 0))
  case atStart => exact ⟨0, [], rfl, rfl, by omega, Below.refl _ _, FOwn.nil _ _, rfl, ⟨FW_nil⟩, ⟨fun _ => rfl⟩⟩
  case round =>
    obtain ⟨i, xs, rfl, hq, hi, BW, hO, rfl, HF, HN⟩ := hrel
    by_cases h3 : xs.length < ks.length ∧ xs.length < ns.length ∧ xs.length < 12
    · obtain ⟨h1, h2, h3⟩ := h3
      have hI1 : (xs.length : Int) < ks.length := by omega
      have hI2 : (xs.length : Int) < ns.length := by omega
      have hI3 : (xs.length : Int) < 12 := by omega
      obtain ⟨bK, oK, rfl, _, cK1⟩ := (hK1.keep BW) xs.length (by omega) hI1
      obtain ⟨bN, oN, rfl, _, cN1⟩ := (hN1.keep BW) xs.length (by omega) hI2
      rw [Int.toNat_natCast] at cK1 cN1
      have SB := Bx.mk BW.size
      go_upto_region 7 with fail
      have bD := Below.drew (Below.refl wr.heap.size wr)
      have RA := fun W => real_any (rd ks xs.length) (rd ns xs.length) xs.length W
      have FN := fun (W : World) (x : Nat) (hB : Below wr.heap.size wr W) => hO.keep (below_alloc hB (.cells (flts [x]).toArray 22))
      go_region_law (first
        | (refine fstep_any rfl (.tmp 37) (.tmp 48) rfl w1.heap.size _ xs [x] rfl hO2 (some ⟨w2.heap.size, 0, none⟩) 1 1 rfl rfl n1 (by omega) (by omega) BL.size (xs.length + 1) rfl ?_; intro g cap w4 q4 gr _; have B4 := fbelow_app BL hO2 (Nat.le_refl _) gr; have Q4 := Bx.mk q4; clear hO2 q4 gr BL n1)
        | (go_simp; go_wp2_with (go_at_call 15; refine (RA _).mono ?_; rintro e w2 ⟨x, rfl, B2, lx, _⟩; have BB := below_below bD B2; have n1 := frow_new w2 [x]; have hO2 := FN w2 x BB; have BL := below_below BW (below_alloc BB (.cells (flts [x]).toArray 22)); clear BB B2)))
      all_goals
        go_wp2
        go_roundg (13 - (xs.length + 1))
        case rel => exact ⟨xs.length + 1, xs ++ [x], rfl, by omega, by omega, B4, Q4.out.own, by simp, ⟨FW_snoc HF.out lx⟩, ⟨fun h => by simp at h⟩⟩
        case measure => omega
    · have hex : ¬ xs.length < ks.length ∨ (xs.length < ks.length ∧ ¬ xs.length < ns.length) ∨ (xs.length < ks.length ∧ xs.length < ns.length ∧ ¬ xs.length < 12) := by omega
      obtain ⟨aX, cX, rfl, hX, hcap⟩ := hO.parts
      obtain ⟨ys, hys⟩ : ∃ ys, xs ++ [a] = ys := ⟨_, rfl⟩
      have hyl : ys.length ≤ 100000 := by rw [← hys]; simp; omega
      have FY := Bx.mk (show FW ys from by rw [← hys]; exact FW_snoc HF.out ha)
      have EB1 := (show (hasMean xs == hasMean xs) = true from beq_self_eq_true _)
      have EB2 := (show (hasMean ys == hasMean ys) = true from beq_self_eq_true _)
      have YS := Bx.mk hys
      have hl9 : xs.length ≤ 900 := by omega
      have hl8 : xs.length ≤ 100000 := by omega
      clear hys h3 hq hi
      have HE := hex
      clear hex
      rcases HE with h1 | ⟨h1, h2⟩ | ⟨h1, h2, h3⟩
      · have hI1 : ¬ (xs.length : Int) < ks.length := by omega
        clear h1
        go_wp2_with fail
        refine (mean_any wr hX HF.out hl8 hcap).mono ?_
        rintro e w3 ⟨m, rfl, B3, lm, MM⟩
        have hO3 := hO.keep B3
        have hX3 := hX.keep B3
        have BB := below_below BW B3
        clear B3 BW hO hX
        go_wp2_with fail
        refine (rmean_any w3 hX3 HF.out hl8).mono ?_
        rintro e w4 ⟨u, rfl, B4, lu, MU⟩
        have O1 := fun W => one_yes lm lu (means_same MM MU) W
        have n4 := frow_new w4 [a]
        have B5 := below_alloc B4 (.cells (flts [a]).toArray 22)
        have hO5 := hO3.keep B5
        have BL := below_below BB B5
        clear MM MU B4 B5 hO3 hX3 BB
        go_wp2_with (at_builtin; refine fapp_keep rfl (.tmp 61) (.tmp 63) rfl w1.heap.size _ xs rfl hO5 w4.heap.size a rfl n4 hl9 BL.size HN.out ?_; intro v5 w5 q5 gr5 o5; have B6 := fbelow_app BL hO5 (Nat.le_refl _) gr5; rw [YS.out] at q5; obtain ⟨a5, c5, rfl, r5, h5⟩ := q5.parts; have O5 := Bx.mk o5; clear hO5 gr5 o5 BL n4 q5)
        refine (mean_any w5 r5 FY.out hyl h5).mono ?_
        rintro e w6 ⟨m2, rfl, B7, lm2, MM2⟩
        have hO6 := O5.out.keep B7
        have BB := below_below B6 B7
        clear B6 B7 O5
        have n4 := frow_new w6 [a]
        have B5 := below_alloc (Below.refl w6.heap.size w6) (.cells (flts [a]).toArray 22)
        have hO5 := hO6.keep B5
        have BL := below_below BB B5
        clear BB hO6 B5 r5 h5
        go_wp2_with (at_builtin; refine fapp_keep rfl (.tmp 69) (.tmp 71) rfl w1.heap.size _ xs rfl hO5 w6.heap.size a rfl n4 hl9 BL.size HN.out ?_; intro v5 w7 q5 gr5 o5; have B6 := fbelow_app BL hO5 (Nat.le_refl _) gr5; rw [YS.out] at q5; obtain ⟨a5, c5, rfl, r5, h5⟩ := q5.parts; clear hO5 gr5 o5 BL n4 q5)
        refine (rmean_any w7 r5 FY.out hyl).mono ?_
        rintro e w8 ⟨u2, rfl, B7, lu2, MU2⟩
        have O2 := fun W => one_yes lm2 lu2 (means_same MM2 MU2) W
        have BB := below_below B6 B7
        clear B6 B7 MM2 MU2 r5 h5
        go_wp2_with fail
        refine (mean_nil w8).mono ?_
        rintro e w9 ⟨m3, rfl, B9⟩
        have BB := below_below (below_below B1 BB) B9
        clear B9
        go_wp2_with (go_at_call 26; first | (with_reducible refine (O1 _).mono ?_; rintro e w' ⟨rfl, rfl⟩) | (with_reducible refine (O2 _).mono ?_; rintro e w' ⟨rfl, rfl⟩))
        go_ret
        exact ⟨rfl, BB⟩
      · have hI1 : (xs.length : Int) < ks.length := by omega
        have hI2 : ¬ (xs.length : Int) < ns.length := by omega
        clear h1 h2
        go_wp2_with fail
        refine (mean_any wr hX HF.out hl8 hcap).mono ?_
        rintro e w3 ⟨m, rfl, B3, lm, MM⟩
        have hO3 := hO.keep B3
        have hX3 := hX.keep B3
        have BB := below_below BW B3
        clear B3 BW hO hX
        go_wp2_with fail
        refine (rmean_any w3 hX3 HF.out hl8).mono ?_
        rintro e w4 ⟨u, rfl, B4, lu, MU⟩
        have O1 := fun W => one_yes lm lu (means_same MM MU) W
        have n4 := frow_new w4 [a]
        have B5 := below_alloc B4 (.cells (flts [a]).toArray 22)
        have hO5 := hO3.keep B5
        have BL := below_below BB B5
        clear MM MU B4 B5 hO3 hX3 BB
        go_wp2_with (at_builtin; refine fapp_keep rfl (.tmp 61) (.tmp 63) rfl w1.heap.size _ xs rfl hO5 w4.heap.size a rfl n4 hl9 BL.size HN.out ?_; intro v5 w5 q5 gr5 o5; have B6 := fbelow_app BL hO5 (Nat.le_refl _) gr5; rw [YS.out] at q5; obtain ⟨a5, c5, rfl, r5, h5⟩ := q5.parts; have O5 := Bx.mk o5; clear hO5 gr5 o5 BL n4 q5)
        refine (mean_any w5 r5 FY.out hyl h5).mono ?_
        rintro e w6 ⟨m2, rfl, B7, lm2, MM2⟩
        have hO6 := O5.out.keep B7
        have BB := below_below B6 B7
        clear B6 B7 O5
        have n4 := frow_new w6 [a]
        have B5 := below_alloc (Below.refl w6.heap.size w6) (.cells (flts [a]).toArray 22)
        have hO5 := hO6.keep B5
        have BL := below_below BB B5
        clear BB hO6 B5 r5 h5
        go_wp2_with (at_builtin; refine fapp_keep rfl (.tmp 69) (.tmp 71) rfl w1.heap.size _ xs rfl hO5 w6.heap.size a rfl n4 hl9 BL.size HN.out ?_; intro v5 w7 q5 gr5 o5; have B6 := fbelow_app BL hO5 (Nat.le_refl _) gr5; rw [YS.out] at q5; obtain ⟨a5, c5, rfl, r5, h5⟩ := q5.parts; clear hO5 gr5 o5 BL n4 q5)
        refine (rmean_any w7 r5 FY.out hyl).mono ?_
        rintro e w8 ⟨u2, rfl, B7, lu2, MU2⟩
        have O2 := fun W => one_yes lm2 lu2 (means_same MM2 MU2) W
        have BB := below_below B6 B7
        clear B6 B7 MM2 MU2 r5 h5
        go_wp2_with fail
        refine (mean_nil w8).mono ?_
        rintro e w9 ⟨m3, rfl, B9⟩
        have BB := below_below (below_below B1 BB) B9
        clear B9
        go_wp2_with (go_at_call 26; first | (with_reducible refine (O1 _).mono ?_; rintro e w' ⟨rfl, rfl⟩) | (with_reducible refine (O2 _).mono ?_; rintro e w' ⟨rfl, rfl⟩))
        go_ret
        exact ⟨rfl, BB⟩
      · have hI1 : (xs.length : Int) < ks.length := by omega
        have hI2 : (xs.length : Int) < ns.length := by omega
        have hI3 : ¬ (xs.length : Int) < 12 := by omega
        clear h1 h2 h3
        go_wp2_with fail
        refine (mean_any wr hX HF.out hl8 hcap).mono ?_
        rintro e w3 ⟨m, rfl, B3, lm, MM⟩
        have hO3 := hO.keep B3
        have hX3 := hX.keep B3
        have BB := below_below BW B3
        clear B3 BW hO hX
        go_wp2_with fail
        refine (rmean_any w3 hX3 HF.out hl8).mono ?_
        rintro e w4 ⟨u, rfl, B4, lu, MU⟩
        have O1 := fun W => one_yes lm lu (means_same MM MU) W
        have n4 := frow_new w4 [a]
        have B5 := below_alloc B4 (.cells (flts [a]).toArray 22)
        have hO5 := hO3.keep B5
        have BL := below_below BB B5
        clear MM MU B4 B5 hO3 hX3 BB
        go_wp2_with (at_builtin; refine fapp_keep rfl (.tmp 61) (.tmp 63) rfl w1.heap.size _ xs rfl hO5 w4.heap.size a rfl n4 hl9 BL.size HN.out ?_; intro v5 w5 q5 gr5 o5; have B6 := fbelow_app BL hO5 (Nat.le_refl _) gr5; rw [YS.out] at q5; obtain ⟨a5, c5, rfl, r5, h5⟩ := q5.parts; have O5 := Bx.mk o5; clear hO5 gr5 o5 BL n4 q5)
        refine (mean_any w5 r5 FY.out hyl h5).mono ?_
        rintro e w6 ⟨m2, rfl, B7, lm2, MM2⟩
        have hO6 := O5.out.keep B7
        have BB := below_below B6 B7
        clear B6 B7 O5
        have n4 := frow_new w6 [a]
        have B5 := below_alloc (Below.refl w6.heap.size w6) (.cells (flts [a]).toArray 22)
        have hO5 := hO6.keep B5
        have BL := below_below BB B5
        clear BB hO6 B5 r5 h5
        go_wp2_with (at_builtin; refine fapp_keep rfl (.tmp 69) (.tmp 71) rfl w1.heap.size _ xs rfl hO5 w6.heap.size a rfl n4 hl9 BL.size HN.out ?_; intro v5 w7 q5 gr5 o5; have B6 := fbelow_app BL hO5 (Nat.le_refl _) gr5; rw [YS.out] at q5; obtain ⟨a5, c5, rfl, r5, h5⟩ := q5.parts; clear hO5 gr5 o5 BL n4 q5)
        refine (rmean_any w7 r5 FY.out hyl).mono ?_
        rintro e w8 ⟨u2, rfl, B7, lu2, MU2⟩
        have O2 := fun W => one_yes lm2 lu2 (means_same MM2 MU2) W
        have BB := below_below B6 B7
        clear B6 B7 MM2 MU2 r5 h5
        go_wp2_with fail
        refine (mean_nil w8).mono ?_
        rintro e w9 ⟨m3, rfl, B9⟩
        have BB := below_below (below_below B1 BB) B9
        clear B9
        go_wp2_with (go_at_call 26; first | (with_reducible refine (O1 _).mono ?_; rintro e w' ⟨rfl, rfl⟩) | (with_reducible refine (O2 _).mono ?_; rintro e w' ⟨rfl, rfl⟩))
        go_ret
        exact ⟨rfl, BB⟩
end
end Go.Proofs.YtpggfgkajkgcoaaDoor
