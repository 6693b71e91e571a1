/- The walks of Shares, both. -/
import Derived.Test.YtpggfgkajkgcoaaDoorG16
set_option linter.unusedVariables false
set_option linter.unusedSimpArgs false
namespace Go.Proofs.YtpggfgkajkgcoaaDoor
open Go.RowKit

/-- A row of shares. -/
structure SharesIs (f C : List Int) (n : Nat) (xs : List Nat) : Prop where
  len : xs.length = n
  w : FW xs
  eq : ∀ j : Nat, j < n → fsame (fd xs j) (shareF (rd f j) (rd C j)) = true
theorem SharesIs.snoc {f C : List Int} {n : Nat} {xs : List Nat} (h : SharesIs f C n xs) {r : Nat} (hr : r < 18446744073709551616) (he : fsame r (shareF (rd f n) (rd C n)) = true) : SharesIs f C (n + 1) (xs ++ [r]) := by
  refine ⟨by simp [h.len], FW_snoc h.w hr, fun j hj => ?_⟩
  by_cases e : j = n
  · subst e
    rw [show fd (xs ++ [r]) (j : Int) = r from by unfold fd; simp [List.getD_eq_getElem?_getD, h.len]]
    exact he
  · have := h.eq j (by omega)
    rw [show fd (xs ++ [r]) (j : Int) = fd xs j from by unfold fd; simp only [Int.toNat_natCast, List.getD_eq_getElem?_getD]; rw [List.getElem?_append_left (by rw [h.len]; omega)]]
    exact this
set_option maxHeartbeats 3200000 in
theorem shares_any {w : World} {m n bF oF cF : Nat} {aT aX aC : Option Addr} {lT cT lX cX cC : Nat} {f C : List Int} (hF : RowOf w (some ⟨bF, oF, none⟩) f) (lf : f.length = n) (hC : RowOf w aC C) (lC : C.length = n) (hn : n ≤ 48) :
    Calls Tryd.prog 32 #[.agg #[.int .i64 m, .slice aT lT cT, .slice aX lX cX, .slice aC n cC], .slice (some ⟨bF, oF, none⟩) n cF] w fun e w' => ∃ a c xs, e = .returned (.slice a n c) ∧ FRow w' a xs ∧ SharesIs f C n xs ∧ Below w.heap.size w w' := by
  obtain ⟨i0, hi, hz0, hz1, hz2⟩ := info_parts infoF
  have hmk : ∀ w : World, (Instr.makeSlice 25 (.int .i64 0) (.int .i64 n)).run Tryd.prog w = .ok (.slice (some ⟨w.heap.size, 0, none⟩) 0 n) (w.alloc (.cells (madeCells #[.float .f64 0] n) 22)) := fun w => by
    have := run_make (P := Tryd.prog) w 25 22 i0 (.float .f64 0) Tryd.underlying25 hi hz0 .i64 .i64 0 n (by omega) (by omega) (by rw [hz2]; omega) (by omega)
    have e : madeCells (Value.float .f64 0).cells n = madeCells #[.float .f64 0] n := rfl
    rw [← e]
    simpa [hz1] using this
  have hB := below_alloc (Below.refl w.heap.size w) (.cells #[.int .i64 m, .slice aT lT cT, .slice aX lX cX, .slice aC n cC] 47)
  have hbox := box_new w #[.int .i64 m, .slice aT lT cT, .slice aX lX cX, .slice aC n cC] 47
  have FK := Bx.mk (fun W (h : Below w.heap.size w W) => hF.keep h)
  have CK := Bx.mk (fun W (h : Below w.heap.size w W) => hC.keep h)
  have LL := Bx.mk (And.intro lf lC)
  clear hF hC lf lC hi hz0 hz1 hz2
  go_enter Tryd.func32, Tryd.ntmps32
  go_upto_region 1 with fail
  generalize w.alloc _ = wa at hB hbox ⊢
  generalize hb0 : w.heap.size = b at hbox ⊢
  have HK := Bx.mk (fun W (h : Below wa.heap.size wa W) => (show W.cell? ⟨b, 3, none⟩ = some (.slice aC n cC) from (hbox.keep h).cell 3))
  have hbl := hbox.lt
  clear hbox
  have o0 : FOwn (wa.alloc (.cells (madeCells #[.float .f64 0] n) 22)) wa.heap.size (.slice (some ⟨wa.heap.size, 0, none⟩) 0 n) [] := World.ownsRow_made wa _ n (Nat.le_refl _) (by unfold maxLen; omega) (by rw [size_madeCells]; simp)
  have B1 := below_alloc (Below.refl wa.heap.size wa) (.cells (madeCells #[.float .f64 0] n) 22)
  go_wp2
  go_loopg [5, 13] (n + 1) (fun q z y wr => ∃ (j : Nat) (xs : List Nat) (a : Option Addr) (c : Nat), z = .slice a j c ∧ y = .int .i64 j ∧ q = n + 1 - j ∧ j ≤ n ∧ FOwn wr wa.heap.size (.slice a j c) xs ∧ Bx (SharesIs f C j xs) ∧ Below wa.heap.size wa wr)
  case atStart => exact ⟨0, [], _, _, rfl, rfl, by omega, by omega, o0, ⟨⟨rfl, fun i => by simp [fd], fun j h => by omega⟩⟩, B1⟩
  case round =>
    clear o0 B1 hmk
    obtain ⟨j, xs, a, c, rfl, rfl, hq, hj, hO, SI, BW⟩ := hrel
    have hxl := SI.out.len
    by_cases hjn : j < n
    · have hjI : (j : Int) < n := by omega
      have BWW := below_below hB BW
      obtain ⟨b1, o1, e1, _, c1⟩ := (FK.out _ (by rw [← hb0] at *; exact BWW)) j (by omega) (by rw [LL.out.1]; exact hjI)
      cases e1
      obtain ⟨bC, oC, rfl, _, c2⟩ := (CK.out _ (by rw [← hb0] at *; exact BWW)) j (by omega) (by rw [LL.out.2]; exact hjI)
      rw [Int.toNat_natCast] at c1 c2
      have k3 := HK.out _ BW
      obtain ⟨x, hx⟩ : ∃ x, rd f j = x := ⟨_, rfl⟩
      obtain ⟨y, hy⟩ : ∃ y, rd C j = y := ⟨_, rfl⟩
      rw [hx] at c1
      rw [hy] at c2
      have SN := Bx.mk (fun (r : Nat) (h1 : r < 18446744073709551616) (h2 : fsame r (shareF x y) = true) => SI.out.snoc h1 (by rw [hx, hy]; exact h2))
      clear hx hy
      go_wp2_with fail
      refine (share_any x y _).mono ?_
      rintro e w2 ⟨r, rfl, B2, lr, er⟩
      have SM := Bx.mk (SN.out r lr er)
      have n1 := frow_new w2 [r]
      have hO1 := hO.keep B2
      have hO2 := hO1.keep (below_alloc (Below.refl w2.heap.size w2) (.cells (flts [r]).toArray 22))
      have BL := below_alloc (below_below BW B2) (.cells (flts [r]).toArray 22)
      clear k3 c1 c2 hO hO1 SN er lr
      go_wp2_with (at_builtin; refine fapp_any rfl (.tmp 23) (.tmp 31) rfl wa.heap.size _ xs [r] rfl hO2 (some ⟨w2.heap.size, 0, none⟩) 1 1 rfl rfl n1 (by omega) (by omega) BL.size (j + 1) (by omega) ?_; intro g1 p1 w3 q1 gr1 _; have B3 := fbelow_app BL hO2 (Nat.le_refl _) gr1; have q2 := Bx.mk q1; clear q1 gr1 hO2 n1 BL BW)
      go_roundg (n + 1 - (j + 1))
      case rel => exact ⟨j + 1, _, _, _, rfl, rfl, by omega, by omega, q2.out.own, SM, B3⟩
      case measure => omega
    · have hjI : ¬ (j : Int) < n := by omega
      obtain rfl : n = j := by omega
      obtain ⟨a', c', e, hX, _⟩ := hO.parts
      cases e
      go_wp2
      go_ret
      have BX := below_below hB BW
      refine ⟨a, ⟨c, rfl⟩, ?_⟩
      exact ⟨xs, hX, SI.out, by rw [← hb0]; exact BX⟩
end Go.Proofs.YtpggfgkajkgcoaaDoor
