/- The walk of the document's Shares. -/
import Derived.Test.YtpggfgkajkgcoaaDoorG17
set_option linter.unusedVariables false
set_option linter.unusedSimpArgs false
namespace Go.Proofs.YtpggfgkajkgcoaaDoor
open Go.RowKit

set_option maxHeartbeats 3200000 in
theorem rshares_any {w : World} {m n bF oF cF : Nat} {aT aX aC : Option Addr} {cT lX cX cC : Nat} {f C : List Int} (hF : RowOf w (some ⟨bF, oF, none⟩) f) (lf : f.length = n) (hC : RowOf w aC C) (lC : C.length = n) (hn : n ≤ 48) :
    Calls Tryd.prog 33 #[.agg #[.int .i64 m, .slice aT n cT, .slice aX lX cX, .slice aC n cC], .slice (some ⟨bF, oF, none⟩) n cF] w fun e w' => ∃ a c xs, e = .returned (.slice a n c) ∧ FRow w' a xs ∧ SharesIs f C n xs ∧ Below w.heap.size w w' := by
  have hB := below_alloc (Below.refl w.heap.size w) (.cells #[.int .i64 m, .slice aT n cT, .slice aX lX cX, .slice aC n cC] 47)
  have hbox := box_new w #[.int .i64 m, .slice aT n cT, .slice aX lX cX, .slice aC n cC] 47
  have FK := Bx.mk (fun W (h : Below w.heap.size w W) => hF.keep h)
  have CK := Bx.mk (fun W (h : Below w.heap.size w W) => hC.keep h)
  have LL := Bx.mk (And.intro lf lC)
  clear hF hC lf lC
  go_enter Tryd.func33, Tryd.ntmps33
  go_upto_region 1 with fail
  generalize w.alloc _ = wa at hB hbox ⊢
  generalize hb0 : w.heap.size = b at hbox ⊢
  have HK := Bx.mk (fun W (h : Below wa.heap.size wa W) => (⟨(hbox.keep h).cell 1, (hbox.keep h).cell 3⟩ : W.cell? ⟨b, 1, none⟩ = some (.slice aT n cT) ∧ W.cell? ⟨b, 3, none⟩ = some (.slice aC n cC)))
  have hbl := hbox.lt
  clear hbox
  have o0 : FOwn wa wa.heap.size (.slice none 0 0) [] := FOwn.nil _ _
  go_wp2
  go_loopg [5, 6] (n + 1) (fun q z y wr => ∃ (j : Nat) (xs : List Nat) (a : Option Addr) (c : Nat), z = .slice a j c ∧ y = .int .i64 j ∧ q = n + 1 - j ∧ j ≤ n ∧ FOwn wr wa.heap.size (.slice a j c) xs ∧ Bx (SharesIs f C j xs) ∧ Below wa.heap.size wa wr)
  case atStart => exact ⟨0, [], _, _, rfl, rfl, by omega, by omega, o0, ⟨⟨rfl, fun i => by simp [fd], fun j h => by omega⟩⟩, Below.refl _ _⟩
  case round =>
    clear o0
    obtain ⟨j, xs, a, c, rfl, rfl, hq, hj, hO, SI, BW⟩ := hrel
    have hxl := SI.out.len
    obtain ⟨k1, k3⟩ := HK.out _ BW
    by_cases hjn : j < n
    · have hjI : (j : Int) < n := by omega
      have BWW := below_below hB BW
      obtain ⟨b1, o1, e1, _, c1⟩ := (FK.out _ (by rw [← hb0] at *; exact BWW)) j (by omega) (by rw [LL.out.1]; exact hjI)
      cases e1
      obtain ⟨bC, oC, rfl, _, c2⟩ := (CK.out _ (by rw [← hb0] at *; exact BWW)) j (by omega) (by rw [LL.out.2]; exact hjI)
      rw [Int.toNat_natCast] at c1 c2
      obtain ⟨x, hx⟩ : ∃ x, rd f j = x := ⟨_, rfl⟩
      obtain ⟨y, hy⟩ : ∃ y, rd C j = y := ⟨_, rfl⟩
      rw [hx] at c1
      rw [hy] at c2
      have SN := Bx.mk (fun (r : Nat) (h1 : r < 18446744073709551616) (h2 : fsame r (shareF x y) = true) => SI.out.snoc h1 (by rw [hx, hy]; exact h2))
      clear hx hy
      have SB := Bx.mk BW.size
      have bD := Below.drew (Below.refl wr.heap.size wr)
      have RA := fun W => rshare_any x y W
      have FN := fun (W : World) (r : Nat) (hB : Below wr.heap.size wr W) => hO.keep (below_alloc hB (.cells (flts [r]).toArray 22))
      go_upto_region 5 with fail
      go_region_law (first
        | (refine fstep_any rfl (.tmp 14) (.tmp 25) rfl wa.heap.size _ xs [r] rfl hO2 (some ⟨w2.heap.size, 0, none⟩) 1 1 rfl rfl n1 (by omega) (by omega) BL.size (j + 1) (by omega) ?_; intro g cap w4 q4 gr _; have B4 := fbelow_app BL hO2 (Nat.le_refl _) gr; have Q4 := Bx.mk q4; clear hO2 q4 gr BL n1)
        | (go_simp; go_wp2_with (go_at_call 31; refine (RA _).mono ?_; rintro e w2 ⟨r, rfl, B2, lr, er⟩; have BB := below_below bD B2; have n1 := frow_new w2 [r]; have hO2 := FN w2 r BB; have BL := below_below BW (below_alloc BB (.cells (flts [r]).toArray 22)); have SM := Bx.mk (SN.out r lr er); clear BB B2)))
      all_goals
        go_wp2
        go_roundg (n + 1 - (j + 1))
        case rel => exact ⟨j + 1, _, _, _, rfl, rfl, by omega, by omega, Q4.out.own, SM, B4⟩
        case measure => omega
    · have hjI : ¬ (j : Int) < n := by omega
      obtain rfl : n = j := by omega
      obtain ⟨a', c', e, hX, _⟩ := hO.parts
      cases e
      go_wp2
      go_ret
      have BX := below_below hB BW
      refine ⟨a, ⟨c, rfl⟩, ?_⟩
      exact ⟨xs, hX, SI.out, by rw [← hb0]; exact BX⟩
end Go.Proofs.YtpggfgkajkgcoaaDoor
