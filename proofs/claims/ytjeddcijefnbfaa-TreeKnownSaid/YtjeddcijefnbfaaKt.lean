/- The document's turns, of a round. -/
import Derived.Test.YtjeddcijefnbfaaKp
set_option linter.unusedVariables false
set_option linter.unusedSimpArgs false
namespace Go.Proofs.Ytjeddcijefnbfaa
open Go.RowKit

theorem cell_row {w w' : World} {a : Option Addr} {xs : List Int} (h : RowOf w a xs) (hb : Below w.heap.size w w') {n : Nat} (hn : xs.length = n) {i v : Int} (h0 : 0 ≤ i) (h1 : i < n) (hv : rd xs i = v) : ∃ b o, a = some ⟨b, o, none⟩ ∧ w'.cell? ⟨b, o + i.toNat, none⟩ = some (.int .i64 v) := by
  obtain ⟨b, o, e, _, c⟩ := h.keep hb i h0 (by omega)
  exact ⟨b, o, e, by rw [c, hv]⟩
theorem cnt_le (T : List Int) (x : Int) : ∀ i, cnt T x i ≤ i
  | 0 => Nat.le_refl _
  | i + 1 => by
    have := cnt_le T x i
    rw [cnt]
    split <;> omega
/-- A row that has a first place lies in a block. -/
theorem RowOf.spot {w : World} {a : Option Addr} {xs : List Int} (h : RowOf w a xs) (hp : 0 < xs.length) : ∃ b o, a = some ⟨b, o, none⟩ ∧ ∀ w', Below w.heap.size w w' → ∀ i : Int, 0 ≤ i → i < xs.length → w'.cell? ⟨b, o + i.toNat, none⟩ = some (.int .i64 (rd xs i)) := by
  obtain ⟨b, o, rfl, _, _⟩ := h 0 (by omega) (by omega)
  refine ⟨b, o, rfl, fun w' hb i h0 h1 => ?_⟩
  obtain ⟨b', o', e, _, c⟩ := h.keep hb i h0 h1
  obtain ⟨rfl, rfl⟩ : b = b' ∧ o = o' := by simpa using e
  exact c
set_option maxHeartbeats 3200000 in
theorem turns_any {k : Nat} {N : Int} {aT aX aC : Option Addr} {kT kX kC : Nat} {w : World} (R : Round k) (h3 : 3 ≤ k) (h11 : k ≤ 11) (hT : RowOf w aT (cT k)) (hX : RowOf w aX (cX k)) :
    Calls Try.prog 39 #[.agg #[.int .i64 N, .slice aT (2 * k) kT, .slice aX (2 * k) kX, .slice aC (2 * k) kC]] w fun e w' => e = .returned (.bool true) ∧ Below w.heap.size w w' := by
  obtain ⟨n, hn⟩ : ∃ n, 2 * k = n := ⟨_, rfl⟩
  have hn0 : 6 ≤ n := by omega
  have hn1 : n ≤ 22 := by omega
  obtain ⟨bT, oT, rfl, hcT⟩ := hT.spot (by rw [R.lT]; omega)
  obtain ⟨bX, oX, rfl, hcX⟩ := hX.spot (by rw [R.lX]; omega)
  have lT := R.lT
  have lX := R.lX
  have RR := Bx.mk R
  rw [hn] at lT lX ⊢
  have HN := Bx.mk hn
  obtain ⟨T, hTT⟩ : ∃ T, cT k = T := ⟨_, rfl⟩
  obtain ⟨X, hXX⟩ : ∃ X, cX k = X := ⟨_, rfl⟩
  rw [hTT] at hcT lT
  rw [hXX] at hcX lX
  have t0 := Bx.mk (fun (d : Int) (h0 : 0 ≤ d) (h1 : d < n) => (by have := R.x0 d h0 (by omega); rw [hXX, hn] at this; exact this : 0 ≤ rd X d ∧ rd X d < n))
  have tx := Bx.mk (fun (d : Int) (h0 : 0 ≤ d) (h1 : d < n) => (by have := R.tx d h0 (by omega); rw [hXX, hTT] at this; exact this : rd T (rd X d) = rd T d))
  have xx := Bx.mk (fun (d : Int) (h0 : 0 ≤ d) (h1 : d < n) => (by have := R.xx d h0 (by omega); rw [hXX] at this; exact this : rd X (rd X d) = d ∧ rd X d ≠ d))
  have tw := Bx.mk (fun (d : Int) (h0 : 0 ≤ d) (h1 : d < n) => (by have := R.two d h0 (by omega); rw [hTT, hn] at this; exact this : cnt T (rd T d) n = 2))
  have HCT := Bx.mk (fun w' (hb : Below w.heap.size w w') (i : Int) (h0 : 0 ≤ i) (h1 : i < n) => hcT w' hb i h0 (by omega))
  have HCX := Bx.mk (fun w' (hb : Below w.heap.size w w') (i : Int) (h0 : 0 ≤ i) (h1 : i < n) => hcX w' hb i h0 (by omega))
  clear hTT hXX hcT hcX hT hX R hn h3 h11 lT lX
  have hB := below_alloc (Below.refl w.heap.size w) (.cells #[.int .i64 N, .slice (some ⟨bT, oT, none⟩) n kT, .slice (some ⟨bX, oX, none⟩) n kX, .slice aC n kC] 25)
  have hbox := box_new w #[.int .i64 N, .slice (some ⟨bT, oT, none⟩) n kT, .slice (some ⟨bX, oX, none⟩) n kX, .slice aC n kC] 25
  go_enter Try.func39, Try.ntmps39
  go_upto_region 1 with fail
  generalize w.alloc _ = wa at hB hbox ⊢
  generalize w.heap.size = b at hbox ⊢
  have HK := Bx.mk (fun W (h : Below wa.heap.size wa W) => (⟨(hbox.keep h).cell 1, (hbox.keep h).cell 2⟩ : W.cell? ⟨b, 1, none⟩ = some (.slice (some ⟨bT, oT, none⟩) n kT) ∧ W.cell? ⟨b, 2, none⟩ = some (.slice (some ⟨bX, oX, none⟩) n kX)))
  have HBW := Bx.mk (fun W (h : Below wa.heap.size wa W) => below_below hB h)
  clear hbox
  go_wp2
  go_loopg [3] (n + 1) (fun q y wr => ∃ d : Nat, y = .int .i64 d ∧ q = n + 1 - d ∧ d ≤ n ∧ Below wa.heap.size wa wr)
  case atStart => exact ⟨0, rfl, by omega, by omega, Below.refl _ _⟩
  case round =>
    obtain ⟨d, rfl, hq, hd, BW⟩ := hrel
    obtain ⟨k1, k2⟩ := HK.out _ BW
    by_cases hdn : d < n
    · have hD : (d : Int) < n := by omega
      have cx := HCX.out _ (HBW.out _ BW) d (by omega) hD
      have x0 := t0.out d (by omega) hD
      have ct := HCT.out _ (HBW.out _ BW) d (by omega) hD
      have ct2 := HCT.out _ (HBW.out _ BW) (rd X d) x0.1 x0.2
      rw [tx.out d (by omega) hD] at ct2
      rw [Int.toNat_natCast] at cx ct
      have x00 := x0.1
      have x01 := x0.2
      obtain ⟨x, hx⟩ : ∃ x, rd X d = x := ⟨_, rfl⟩
      obtain ⟨t, ht⟩ : ∃ t, rd T d = t := ⟨_, rfl⟩
      rw [hx] at cx ct2 x00 x01
      rw [ht] at ct ct2
      have e0 : (t != t) = false := by simp
      clear hx ht x0
      go_upto_region 4 with fail
      go_quiet (fail)
      go_wp2
      go_roundg (n + 1 - (d + 1))
      case rel => exact ⟨d + 1, rfl, by omega, by omega, below_drewN BW _⟩
      case measure => omega
    · have hD : ¬ (d : Int) < n := by omega
      go_wp2
      go_loopg [4] (n + 1) (fun q y wr => ∃ d : Nat, y = .int .i64 d ∧ q = n + 1 - d ∧ d ≤ n ∧ Below wa.heap.size wa wr)
      case atStart => exact ⟨0, rfl, by omega, by omega, BW⟩
      case round =>
        clear BW k1 k2 hD hdn hq hd
        obtain ⟨d, rfl, hq, hd, BW⟩ := hrel
        obtain ⟨k1, k2⟩ := HK.out _ BW
        by_cases hdn : d < n
        · have hD : (d : Int) < n := by omega
          have x0 := t0.out d (by omega) hD
          have x00 := x0.1
          have x01 := x0.2
          have cx := HCX.out _ (HBW.out _ BW) d (by omega) hD
          have cx2 := HCX.out _ (HBW.out _ BW) (rd X d) x0.1 x0.2
          have hxx := xx.out d (by omega) hD
          rw [hxx.1] at cx2
          rw [Int.toNat_natCast] at cx
          have hne := hxx.2
          have TW := Bx.mk (tw.out d (by omega) hD)
          obtain ⟨x, hx⟩ : ∃ x, rd X d = x := ⟨_, rfl⟩
          rw [hx] at cx cx2 x00 x01 hne
          have e1 : (x != (d : Int)) = true := by simpa using hne
          clear hx x0 hxx hne
          go_wp2
          go_loopg [5, 6] 3 (fun q y z wx => wx = wr ∧ ((q = 3 ∧ y = .int .i64 d ∧ z = .int .i64 0) ∨ (q = 2 ∧ y = .int .i64 x ∧ z = .int .i64 1) ∨ (q = 1 ∧ y = .int .i64 d ∧ z = .int .i64 2)))
          case atStart => exact ⟨rfl, .inl ⟨rfl, rfl, rfl⟩⟩
          case round =>
            obtain ⟨rfl, hc⟩ := hrel
            rcases hc with ⟨hq3, rfl, rfl⟩ | ⟨hq3, rfl, rfl⟩ | ⟨hq3, rfl, rfl⟩
            · go_wp2
              go_roundg 2
              case rel => exact ⟨rfl, .inr (.inl ⟨rfl, rfl, rfl⟩)⟩
              case measure => omega
            · have g1 : (1 : Int) ≤ n := by omega
              go_wp2
              go_roundg 1
              case rel => exact ⟨rfl, .inr (.inr ⟨rfl, rfl, rfl⟩)⟩
              case measure => omega
            · have e2 : ((d : Int) != (d : Int)) = false := by simp
              clear cx cx2 e1
              go_wp2
              go_loopg [7, 8] (n + 1) (fun q y z wx => ∃ i : Nat, z = .int .i64 i ∧ y = .int .i64 (cnt T (rd T d) i) ∧ q = n + 1 - i ∧ i ≤ n ∧ Below wa.heap.size wa wx)
              case atStart => exact ⟨0, rfl, rfl, by omega, by omega, BW⟩
              case round =>
                clear BW k1 k2
                obtain ⟨i, rfl, rfl, hq4, hi, BW⟩ := hrel
                obtain ⟨k1, k2⟩ := HK.out _ BW
                by_cases hin : i < n
                · have hI : (i : Int) < n := by omega
                  have ci := HCT.out _ (HBW.out _ BW) i (by omega) hI
                  have ct := HCT.out _ (HBW.out _ BW) d (by omega) hD
                  rw [Int.toNat_natCast] at ci ct
                  have NX := Bx.mk (show cnt T (rd T d) (i + 1) = cnt T (rd T d) i + if rd T i = rd T d then 1 else 0 from rfl)
                  obtain ⟨c, hc⟩ : ∃ c, cnt T (rd T d) i = c := ⟨_, rfl⟩
                  have hcl : c ≤ i := by rw [← hc]; exact cnt_le _ _ _
                  rw [hc] at NX ⊢
                  obtain ⟨u, hu⟩ : ∃ u, rd T i = u := ⟨_, rfl⟩
                  obtain ⟨t, ht⟩ : ∃ t, rd T d = t := ⟨_, rfl⟩
                  rw [hu] at ci NX
                  rw [ht] at ct NX
                  have HT := Bx.mk ht
                  clear hc hu ht
                  by_cases e : u = t
                  · have e3 : (u == t) = true := beq_iff_eq.2 e
                    have NX2 := Bx.mk (show cnt T (rd T d) (i + 1) = c + 1 from by rw [HT.out, NX.out, if_pos e])
                    clear e NX
                    go_upto_region 16 with fail
                    go_quiet (fail)
                    go_wp2
                    go_roundg (n + 1 - (i + 1))
                    case rel => exact ⟨i + 1, rfl, by rw [NX2.out]; rfl, by omega, by omega, below_drewN BW _⟩
                    case measure => omega
                  · have e3 : (u == t) = false := beq_false_of_ne e
                    have NX2 := Bx.mk (show cnt T (rd T d) (i + 1) = c from by rw [HT.out, NX.out, if_neg e]; rfl)
                    clear e NX
                    go_upto_region 16 with fail
                    go_quiet (fail)
                    go_wp2
                    go_roundg (n + 1 - (i + 1))
                    case rel => exact ⟨i + 1, rfl, by rw [NX2.out], by omega, by omega, below_drewN BW _⟩
                    case measure => omega
                · have hI : ¬ (i : Int) < n := by omega
                  obtain rfl : i = n := by omega
                  rw [TW.out]
                  go_wp2
                  go_roundg (i + 1 - (d + 1))
                  case rel => exact ⟨d + 1, rfl, by omega, by omega, BW⟩
                  case measure => omega
        · have hD : ¬ (d : Int) < n := by omega
          have BF := Bx.mk (HBW.out _ BW)
          go_wp2
          go_ret
          exact ⟨rfl, BF.out⟩
end Go.Proofs.Ytjeddcijefnbfaa
