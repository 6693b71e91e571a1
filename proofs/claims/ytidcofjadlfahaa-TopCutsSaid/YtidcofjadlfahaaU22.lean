/- The walk of check.Flow. -/
import Derived.Test.YtidcofjadlfahaaU14
import Derived.Test.YtidcofjadlfahaaU21
import Derived.Deep.RegionHeldLaw
set_option linter.unusedVariables false
set_option linter.unusedSimpArgs false
namespace Go.Proofs.Ytidcofjadlfahaa
open Go.RowKit

section
variable {m n bT oT bX oX bC oC kT kX kC : Nat} {T X C : List Int} {w : World}
set_option maxHeartbeats 6400000 in
set_option maxRecDepth 100000 in
theorem flow_check {bF oF kF : Nat} {f : List Int} (G : Good m n T X C) (R : Rows3 w n bT oT bX oX bC oC T X C) (F : RowAt w bF oF n f) (s t : Int) (hs0 : 0 ≤ s) (hs1 : s < m) (ht0 : 0 ≤ t) (ht1 : t < m) (hst : s ≠ t) (K : FlowOk m n T C s t f) :
    Calls Try.prog 14 #[(.agg #[.int .i64 m, .slice (some ⟨bT, oT, none⟩) n kT, .slice (some ⟨bX, oX, none⟩) n kX, .slice (some ⟨bC, oC, none⟩) n kC]), .int .i64 s, .int .i64 t, .slice (some ⟨bF, oF, none⟩) n kF] w fun e w' => e = .returned (.int .i64 0) ∧ Below w.heap.size w w' := by
  have EN := fun W (h : Below w.heap.size w W) => ends_any (kT := kT) (kX := kX) (kC := kC) G (R.keep h) s t hs0 hs1 ht0 ht1 hst
  have VA := fun W (h : Below w.heap.size w W) (v : Int) => value_any (kT := kT) (kX := kX) (kC := kC) (kF := kF) G (R.keep h) (F.keep h) (K.mid G) v
  have GG := Bx.mk G
  have RR := Bx.mk R
  have FF := Bx.mk F
  have KK := Bx.mk K
  have MM := Bx.mk (K.mid G)
  have m1 := G.m1
  have m60 := G.m60
  have n2 := G.n2
  have n240 := G.n240
  clear G R F K
  have hB := below_alloc (Below.refl w.heap.size w) (.cells #[.int .i64 m, .slice (some ⟨bT, oT, none⟩) n kT, .slice (some ⟨bX, oX, none⟩) n kX, .slice (some ⟨bC, oC, none⟩) n kC] 25)
  have hbox := box_new w #[.int .i64 m, .slice (some ⟨bT, oT, none⟩) n kT, .slice (some ⟨bX, oX, none⟩) n kX, .slice (some ⟨bC, oC, none⟩) n kC] 25
  go_enter Try.func14, Try.ntmps14
  go_upto_region 1 with fail
  generalize w.alloc _ = wa at hB hbox ⊢
  generalize w.heap.size = b at hbox ⊢
  have HK := Bx.mk (fun W (h : Below wa.heap.size wa W) => (⟨(hbox.keep h).cell 0, (hbox.keep h).cell 1, (hbox.keep h).cell 2, (hbox.keep h).cell 3⟩ : W.cell? ⟨b, 0, none⟩ = some (.int .i64 m) ∧ W.cell? ⟨b, 1, none⟩ = some (.slice (some ⟨bT, oT, none⟩) n kT) ∧ W.cell? ⟨b, 2, none⟩ = some (.slice (some ⟨bX, oX, none⟩) n kX) ∧ W.cell? ⟨b, 3, none⟩ = some (.slice (some ⟨bC, oC, none⟩) n kC)))
  have HBX := Bx.mk hbox
  have HBW := Bx.mk (fun W (h : Below wa.heap.size wa W) => below_below hB h)
  clear hbox
  obtain ⟨k0, k1, k2, k3⟩ := HK.out wa (Below.refl _ _)
  have S1 := EN _ hB
  go_step3
  go_wp2_with fail
  refine S1.mono ?_
  rintro e w2 ⟨rfl, B2⟩
  clear S1 EN k0 k1 k2 k3
  obtain ⟨k0, k1, k2, k3⟩ := HK.out _ B2
  go_wp2
  go_loopg [31] (n + 1) (fun q y wr => ∃ j : Nat, y = .int .i64 j ∧ q = n + 1 - j ∧ j ≤ n ∧ Below wa.heap.size wa wr)
  case atStart => exact ⟨0, rfl, by omega, by omega, B2⟩
  case round =>
    clear B2 k0 k1 k2 k3
    obtain ⟨j, rfl, hq, hj, BW⟩ := hrel
    by_cases hjn : j < n
    · have hjI : (j : Int) < n := by omega
      obtain ⟨o0, o1⟩ := ot_rng j n (by omega) hjI GG.out.ev
      have hx1 := xor_one j (by omega) (by omega)
      have F2 := FF.out.keep (HBW.out _ BW)
      have cj := F2.get j (by omega) hjI
      have co := F2.get (ot j) o0 o1
      have hod := KK.out.odd j (by omega) hjI
      have hmid := MM.out j (by omega) hjI
      rw [Int.toNat_natCast] at cj
      obtain ⟨x, hx⟩ : ∃ x, rd f j = x := ⟨_, rfl⟩
      obtain ⟨y, hy⟩ : ∃ y, rd f (ot j) = y := ⟨_, rfl⟩
      obtain ⟨k, hk⟩ : ∃ k, ot (j : Int) = k := ⟨_, rfl⟩
      rw [hx] at cj hmid
      rw [hx, hy] at hod
      rw [hy] at co
      rw [hk] at co hx1 o0 o1
      have F2lt := F2.lt
      clear hx hy hk F2
      have OA := fun W : World => ofW_any (w := W) x (by omega) (by omega)
      have OB := fun W : World => ofW_any (w := W) y (by omega) (by omega)
      have AD := fun W : World => addW_any (w := W) x y (by omega) (by omega) hod
      have BO := fun W (h : Below wr.heap.size wr W) => (⟨h, by rw [below_old h F2lt]; exact cj, by rw [below_old h F2lt]; exact co⟩ : Below wr.heap.size wr W ∧ W.cell? ⟨bF, oF + j, none⟩ = some (.int .i64 x) ∧ W.cell? ⟨bF, oF + k.toNat, none⟩ = some (.int .i64 y))
      have HKW := Bx.mk BO
      clear BO
      have ob : -4611686018427387904 < y ∧ y < 4611686018427387904 := by omega
      clear hod
      go_upto_region 10 with fail
      go_region_held_law (fun W => Below wr.heap.size wr W ∧ W.cell? ⟨bF, oF + j, none⟩ = some (.int .i64 x) ∧ W.cell? ⟨bF, oF + k.toNat, none⟩ = some (.int .i64 y))
        (first | assumption | exact HKW.out _ (Below.drew (Below.refl _ _)) | exact HKW.out _ B5 | exact HKW.out _ B6 | exact HKW.out _ B7)
        (first
          | (go_at_call 32; (with_reducible refine (OA _).mono ?_); rintro e W5 ⟨rfl, B5'⟩; have B5 := below_below (And.left ‹_ ∧ _›) B5')
          | (go_at_call 32; (with_reducible refine (OB _).mono ?_); rintro e W6 ⟨rfl, B6'⟩; have B6 := below_below (And.left ‹_ ∧ _›) B6')
          | (go_at_call 30; (with_reducible refine (AD _).mono ?_); rintro e W7 ⟨rfl, B7'⟩; have B7 := below_below (And.left ‹_ ∧ _›) B7'))
      all_goals
        have B8 := below_below BW (And.left ‹Below wr.heap.size wr _ ∧ _›)
        go_wp2
        go_roundg (n + 1 - (j + 1))
        case rel => exact ⟨j + 1, rfl, rfl, by omega, B8⟩
        case measure => omega
    · have hjI : ¬ (j : Int) < n := by omega
      obtain rfl : n = j := by omega
      obtain ⟨k0, k1, k2, k3⟩ := HK.out _ BW
      go_wp2
      go_loopg [52] (n + 1) (fun q y wr => ∃ j : Nat, y = .int .i64 j ∧ q = n + 1 - j ∧ j ≤ n ∧ Below wa.heap.size wa wr)
      case atStart => exact ⟨0, rfl, by omega, by omega, BW⟩
      case round =>
        clear BW k0 k1 k2 k3
        obtain ⟨j, rfl, hq, hj, BW⟩ := hrel
        by_cases hjn : j < n
        · have hjI : (j : Int) < n := by omega
          have F2 := FF.out.keep (HBW.out _ BW)
          have C2 := (RR.out.keep (HBW.out _ BW)).C
          have cj := F2.get j (by omega) hjI
          have cc := C2.get j (by omega) hjI
          have hcap := KK.out.cap j (by omega) hjI
          have hc := GG.out.c j (by omega) hjI
          have hmid := MM.out j (by omega) hjI
          rw [Int.toNat_natCast] at cj cc
          obtain ⟨x, hx⟩ : ∃ x, rd f j = x := ⟨_, rfl⟩
          obtain ⟨y, hy⟩ : ∃ y, rd C j = y := ⟨_, rfl⟩
          rw [hx] at cj hmid
          rw [hx, hy] at hcap
          rw [hy] at cc hc
          obtain ⟨q3, q4⟩ := hc
          have C2lt := C2.lt
          clear hx hy F2 C2
          have OA := fun W : World => ofW_any (w := W) x (by omega) (by omega)
          have OB := fun W : World => ofW_any (w := W) y (by omega) (by omega)
          have AD := fun W : World => aboveW_any (w := W) x y q3 hcap
          obtain ⟨k0, k1, k2, k3⟩ := HK.out _ BW
          have BO := fun W (h : Below wr.heap.size wr W) => (⟨h, (HK.out W (below_below BW h)).2.2.2, by rw [below_old h C2lt]; exact cc⟩ : Below wr.heap.size wr W ∧ W.cell? ⟨b, 3, none⟩ = some (.slice (some ⟨bC, oC, none⟩) n kC) ∧ W.cell? ⟨bC, oC + j, none⟩ = some (.int .i64 y))
          have HKW := Bx.mk BO
          clear BO
          go_upto_region 16 with fail
          clear k0 k1 k2 k3
          go_region_held_law (fun W => Below wr.heap.size wr W ∧ W.cell? ⟨b, 3, none⟩ = some (.slice (some ⟨bC, oC, none⟩) n kC) ∧ W.cell? ⟨bC, oC + j, none⟩ = some (.int .i64 y))
            (first | assumption | exact HKW.out _ (Below.drew (Below.refl _ _)) | exact HKW.out _ B5 | exact HKW.out _ B6 | exact HKW.out _ B7)
            (first
              | (go_at_call 32; (with_reducible refine (OA _).mono ?_); rintro e W5 ⟨rfl, B5'⟩; have B5 := below_below (And.left ‹_ ∧ _›) B5')
              | (go_at_call 32; (with_reducible refine (OB _).mono ?_); rintro e W6 ⟨rfl, B6'⟩; have B6 := below_below (And.left ‹_ ∧ _›) B6')
              | (go_at_call 31; (with_reducible refine (AD _).mono ?_); rintro e W7 ⟨rfl, B7'⟩; have B7 := below_below (And.left ‹_ ∧ _›) B7'))
          all_goals
            have B8 := below_below BW (And.left ‹Below wr.heap.size wr _ ∧ _›)
            go_wp2
            go_roundg (n + 1 - (j + 1))
            case rel => exact ⟨j + 1, rfl, rfl, by omega, B8⟩
            case measure => omega
        · have hjI : ¬ (j : Int) < n := by omega
          obtain rfl : n = j := by omega
          obtain ⟨k0, k1, k2, k3⟩ := HK.out _ BW
          go_wp2
          go_step3
          go_wp2
          go_loopg [70] (m + 1) (fun q y wr => ∃ j : Nat, y = .int .i64 j ∧ q = m + 1 - j ∧ j ≤ m ∧ Below wa.heap.size wa wr)
          case atStart => exact ⟨0, rfl, by omega, by omega, BW⟩
          case round =>
            clear BW k0 k1 k2 k3
            obtain ⟨j, rfl, hq, hj, BW⟩ := hrel
            by_cases hjn : j < m
            · have hjI : (j : Int) < m := by omega
              by_cases e1 : (j : Int) = s
              · have e2 : ((j : Int) == s) = true := by simpa using e1
                have HJ := Bx.mk BW
                clear e1 BW
                go_wp2
                go_roundg (m + 1 - (j + 1))
                case rel => exact ⟨j + 1, rfl, rfl, by omega, HJ.out⟩
                case measure => omega
              · have e2 : ((j : Int) == s) = false := by simpa using e1
                by_cases e3 : (j : Int) = t
                · have e4 : ((j : Int) == t) = true := by simpa using e3
                  have HJ := Bx.mk BW
                  clear e1 e3 BW
                  go_wp2
                  go_roundg (m + 1 - (j + 1))
                  case rel => exact ⟨j + 1, rfl, rfl, by omega, HJ.out⟩
                  case measure => omega
                · have e4 : ((j : Int) == t) = false := by simpa using e3
                  have S1 := VA _ (HBW.out _ BW) j
                  rw [KK.out.keep j e1 e3] at S1
                  obtain ⟨k0, k1, k2, k3⟩ := HK.out _ BW
                  clear e1 e3
                  go_wp2_with fail
                  refine S1.mono ?_
                  rintro e w4 ⟨rfl, B4⟩
                  have HJ := Bx.mk (below_below BW B4)
                  clear S1 k0 k1 k2 k3 BW B4
                  go_wp2
                  go_roundg (m + 1 - (j + 1))
                  case rel => exact ⟨j + 1, rfl, rfl, by omega, HJ.out⟩
                  case measure => omega
            · have hjI : ¬ (j : Int) < m := by omega
              have HJ := Bx.mk BW
              clear BW
              go_wp2
              go_ret
              exact ⟨rfl, HBW.out _ HJ.out⟩
end
end Go.Proofs.Ytidcofjadlfahaa
