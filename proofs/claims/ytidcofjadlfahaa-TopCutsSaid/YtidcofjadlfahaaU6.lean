/- The walk of Check: all is well. -/
import Derived.Test.YtidcofjadlfahaaU5
set_option linter.unusedVariables false
set_option linter.unusedSimpArgs false
namespace Go.Proofs.Ytidcofjadlfahaa
open Go.RowKit

section
variable {m n bT oT bX oX bC oC kT kX kC : Nat} {T X C : List Int} {w : World}
set_option maxHeartbeats 3200000 in
theorem pcheck_any (G : Good m n T X C) (R : Rows3 w n bT oT bX oX bC oC T X C) : Calls Try.prog 19 #[(.agg #[.int .i64 m, .slice (some ⟨bT, oT, none⟩) n kT, .slice (some ⟨bX, oX, none⟩) n kX, .slice (some ⟨bC, oC, none⟩) n kC])] w fun e w' => e = .returned (.int .i64 0) ∧ Below w.heap.size w w' := by
  have SH := fun W (h : Below w.heap.size w W) => shape_any (kT := kT) (kX := kX) (kC := kC) G (R.keep h)
  have TU := fun W (h : Below w.heap.size w W) => pturns_any (kT := kT) (kX := kX) (kC := kC) G (R.keep h)
  have PA := fun W (h : Below w.heap.size w W) => pparts_any (kT := kT) (kX := kX) (kC := kC) G (R.keep h)
  have FA := fun W (h : Below w.heap.size w W) => pfaces_any (kT := kT) (kX := kX) (kC := kC) G (R.keep h)
  have RR := Bx.mk R
  have GG := Bx.mk G
  have m1 := G.m1
  have m60 := G.m60
  have n2 := G.n2
  have n240 := G.n240
  clear G R
  have hB := below_alloc (Below.refl w.heap.size w) (.cells #[.int .i64 m, .slice (some ⟨bT, oT, none⟩) n kT, .slice (some ⟨bX, oX, none⟩) n kX, .slice (some ⟨bC, oC, none⟩) n kC] 25)
  have hbox := box_new w #[.int .i64 m, .slice (some ⟨bT, oT, none⟩) n kT, .slice (some ⟨bX, oX, none⟩) n kX, .slice (some ⟨bC, oC, none⟩) n kC] 25
  go_enter Try.func19, Try.ntmps19
  go_upto_region 1 with fail
  generalize w.alloc _ = wa at hB hbox ⊢
  generalize w.heap.size = b at hbox ⊢
  have HK := Bx.mk (fun W (h : Below wa.heap.size wa W) => (⟨(hbox.keep h).cell 0, (hbox.keep h).cell 1, (hbox.keep h).cell 2, (hbox.keep h).cell 3⟩ : W.cell? ⟨b, 0, none⟩ = some (.int .i64 m) ∧ W.cell? ⟨b, 1, none⟩ = some (.slice (some ⟨bT, oT, none⟩) n kT) ∧ W.cell? ⟨b, 2, none⟩ = some (.slice (some ⟨bX, oX, none⟩) n kX) ∧ W.cell? ⟨b, 3, none⟩ = some (.slice (some ⟨bC, oC, none⟩) n kC)))
  have HBX := Bx.mk hbox
  have HBW := Bx.mk (fun W (h : Below wa.heap.size wa W) => below_below hB h)
  clear hbox
  obtain ⟨k0, k1, k2, k3⟩ := HK.out wa (Below.refl _ _)
  have S1 := SH _ hB
  go_wp2_with fail
  refine S1.mono ?_
  rintro e w2 ⟨rfl, B2⟩
  clear S1 SH k0 k1 k2 k3
  obtain ⟨k0, k1, k2, k3⟩ := HK.out _ B2
  have S1 := TU _ (HBW.out _ B2)
  go_wp2_with fail
  refine S1.mono ?_
  rintro e w3 ⟨rfl, B3⟩
  have BW := below_below B2 B3
  clear S1 TU k0 k1 k2 k3 B2 B3
  obtain ⟨k0, k1, k2, k3⟩ := HK.out _ BW
  go_wp2
  go_loopg [21] (n + 1) (fun q y wr => ∃ d : Nat, y = .int .i64 d ∧ q = n + 1 - d ∧ d ≤ n ∧ wr = w3)
  case atStart => exact ⟨0, rfl, by omega, by omega, rfl⟩
  case round =>
    obtain ⟨d, rfl, hq, hd, rfl⟩ := hrel
    by_cases hdn : d < n
    · have hD : (d : Int) < n := by omega
      have cc := (RR.out.keep (HBW.out _ BW)).C.get d (by omega) hD
      have xx := GG.out.c d (by omega) hD
      rw [Int.toNat_natCast] at cc
      obtain ⟨x, hx⟩ : ∃ x, rd C d = x := ⟨_, rfl⟩
      rw [hx] at cc xx
      have g3 : decide (x < 0) = false := decide_eq_false (by omega)
      have g4 : decide (x > 2147483648) = false := decide_eq_false (by omega)
      clear hx xx
      go_wp2
      go_roundg (n + 1 - (d + 1))
      case rel => exact ⟨d + 1, rfl, by omega, by omega, rfl⟩
      case measure => omega
    · have hD : ¬ (d : Int) < n := by omega
      have S1 := PA _ (HBW.out _ BW)
      go_wp2_with fail
      refine S1.mono ?_
      rintro e w4 ⟨v4, rfl, B4⟩
      have BW2 := below_below BW B4
      clear S1 PA k0 k1 k2 k3 B4
      obtain ⟨k0, k1, k2, k3⟩ := HK.out _ BW2
      have S1 := FA _ (HBW.out _ BW2)
      go_wp2_with fail
      refine S1.mono ?_
      rintro e w5 ⟨v5, rfl, _, B5⟩
      have BW3 := below_below BW2 B5
      clear S1 FA k0 k1 k2 k3 B5
      obtain ⟨k0, k1, k2, k3⟩ := HK.out _ BW3
      have BF := Bx.mk (HBW.out _ BW3)
      have EU := GG.out.eu
      have f1 := GG.out.f1
      have ev := GG.out.ev
      have FT := facesTo_rng X n
      have f2 : faceN X ≤ n := by have := FT.2.2; unfold faceN; rw [GG.out.lX]; exact this
      clear FT
      generalize faceN X = f at EU f1 f2 ⊢
      have y1 : ((m : Int) - (n : Int) / 2 + f != 2) = false := by rw [EU]; rfl
      clear EU
      go_wp2
      go_ret
      exact ⟨rfl, BF.out⟩
end
end Go.Proofs.Ytidcofjadlfahaa
