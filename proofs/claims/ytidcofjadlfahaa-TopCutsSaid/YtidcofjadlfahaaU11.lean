/- The walks of out, Sum. -/
import Derived.Test.YtidcofjadlfahaaU10
set_option linter.unusedVariables false
set_option linter.unusedSimpArgs false
namespace Go.Proofs.Ytidcofjadlfahaa
open Go.RowKit

section
variable {m n bT oT bX oX bC oC kT kX kC : Nat} {T X C : List Int} {w : World} {bF oF kF : Nat} {inb : List Bool}
set_option maxHeartbeats 3200000 in
theorem out_any (G : Good m n T X C) (R : Rows3 w n bT oT bX oX bC oC T X C) (F : BRowAt w bF oF m inb) :
    Calls Try.prog 28 #[(.agg #[.int .i64 m, .slice (some ⟨bT, oT, none⟩) n kT, .slice (some ⟨bX, oX, none⟩) n kX, .slice (some ⟨bC, oC, none⟩) n kC]), .slice (some ⟨bF, oF, none⟩) m kF] w fun e w' => ∃ v, e = .returned v ∧ OwnK w' w.heap.size v (outL T inb n) ∧ Below w.heap.size w w' := by
  have GG := Bx.mk G
  have RR := Bx.mk R
  have FF := Bx.mk F
  have n240 := G.n240
  have EV := Bx.mk G.ev
  clear G R F
  have hB := below_alloc (Below.refl w.heap.size w) (.cells #[.int .i64 m, .slice (some ⟨bT, oT, none⟩) n kT, .slice (some ⟨bX, oX, none⟩) n kX, .slice (some ⟨bC, oC, none⟩) n kC] 25)
  have hbox := box_new w #[.int .i64 m, .slice (some ⟨bT, oT, none⟩) n kT, .slice (some ⟨bX, oX, none⟩) n kX, .slice (some ⟨bC, oC, none⟩) n kC] 25
  go_enter Try.func28, Try.ntmps28
  go_upto_region 1 with fail
  generalize w.alloc _ = wa at hB hbox ⊢
  generalize w.heap.size = b at hbox ⊢
  have HK := Bx.mk (fun W (h : Below wa.heap.size wa W) => (⟨(hbox.keep h).cell 0, (hbox.keep h).cell 1, (hbox.keep h).cell 2, (hbox.keep h).cell 3⟩ : W.cell? ⟨b, 0, none⟩ = some (.int .i64 m) ∧ W.cell? ⟨b, 1, none⟩ = some (.slice (some ⟨bT, oT, none⟩) n kT) ∧ W.cell? ⟨b, 2, none⟩ = some (.slice (some ⟨bX, oX, none⟩) n kX) ∧ W.cell? ⟨b, 3, none⟩ = some (.slice (some ⟨bC, oC, none⟩) n kC)))
  have HBX := Bx.mk hbox
  have HBW := Bx.mk (fun W (h : Below wa.heap.size wa W) => below_below hB h)
  clear hbox
  have HH := fun W (h : Below wa.heap.size wa W) (d : Int) (d0 : 0 ≤ d) (d1 : d < n) => ghead_any (kT := kT) (kX := kX) (kC := kC) GG.out (RR.out.keep (HBW.out W h)) d d0 d1
  have HR := fun W (h : Below wa.heap.size wa W) (v : Int) (v0 : 0 ≤ v) (v1 : v < m) => has_any (kF := kF) (FF.out.keep (HBW.out W h)) v v0 v1
  obtain ⟨k0, k1, k2, k3⟩ := HK.out wa (Below.refl _ _)
  go_wp2
  clear k0 k1 k2 k3
  go_loopg [5, 11] (n + 1) (fun q y5 y11 wr => ∃ j : Nat, y11 = .int .i64 j ∧ q = n + 1 - j ∧ j ≤ n ∧ Own wr wa.heap.size y5 (outL T inb j) ∧ Below wa.heap.size wa wr)
  case atStart => exact ⟨0, rfl, by omega, by omega, Own.nil _ _, Below.refl _ _⟩
  case round =>
    obtain ⟨j, rfl, hq, hj, oL, BW⟩ := hrel
    have ll := outL_len T inb j
    have NX := Bx.mk (show outL T inb (j + 1) = if rb inb (rd T j) = true ∧ rb inb (rd T (ot j)) = false then outL T inb j ++ [(j : Int)] else outL T inb j from rfl)
    obtain ⟨L, hL⟩ : ∃ L, outL T inb j = L := ⟨_, rfl⟩
    rw [hL] at NX oL ll
    have LB := Bx.mk hL
    clear hL
    by_cases hjn : j < n
    · have hjI : (j : Int) < n := by omega
      have ct := (RR.out.keep (HBW.out _ BW)).T.get j (by omega) hjI
      have t0 := GG.out.t j (by omega) hjI
      have oj := ot_rng j n (by omega) hjI EV.out
      have vr := GG.out.t (ot j) oj.1 oj.2
      have H1 := HR _ BW (rd T j) t0.1 t0.2
      have H2 := fun W (h : Below wa.heap.size wa W) => HR W h (rd T (ot j)) vr.1 vr.2
      have HHj := HH _ BW j (by omega) hjI
      rw [Int.toNat_natCast] at ct
      obtain ⟨t, ht⟩ : ∃ t, rd T j = t := ⟨_, rfl⟩
      obtain ⟨v, hv⟩ : ∃ v, rd T (ot j) = v := ⟨_, rfl⟩
      rw [ht] at ct H1 NX
      rw [hv] at H2 HHj NX
      obtain ⟨x, hx⟩ : ∃ x, rb inb t = x := ⟨_, rfl⟩
      obtain ⟨y, hy⟩ : ∃ y, rb inb v = y := ⟨_, rfl⟩
      rw [hx] at H1 NX
      rw [hy] at H2 NX
      clear ht hv hx hy t0 oj vr HH HR
      obtain ⟨k0, k1, k2, k3⟩ := HK.out _ BW
      cases x with
      | false =>
        have N2 := Bx.mk (NX.out.trans (if_neg (by simp)))
        clear NX H2 HHj
        go_wp2_with (go_at_call 48; refine H1.mono ?_; rintro e w5 ⟨rfl, rfl⟩)
        go_roundg (n + 1 - (j + 1))
        case rel => exact ⟨j + 1, rfl, rfl, by omega, by rw [N2.out]; exact oL, BW⟩
        case measure => omega
      | true =>
        go_wp2_with (first | (go_at_call 48; refine H1.mono ?_; rintro e w5 ⟨rfl, rfl⟩) | fail)
        refine HHj.mono ?_
        rintro e w6 ⟨rfl, B6⟩
        have BW6 := below_below BW B6
        have oL6 := oL.keep B6
        have H3 := H2 _ BW6
        clear k0 k1 k2 k3 H1 H2 HHj ct BW oL B6
        cases y with
        | true =>
          have N2 := Bx.mk (NX.out.trans (if_neg (by simp)))
          clear NX
          go_wp2_with (go_at_call 48; refine H3.mono ?_; rintro e w7 ⟨rfl, rfl⟩)
          go_roundg (n + 1 - (j + 1))
          case rel => exact ⟨j + 1, rfl, rfl, by omega, by rw [N2.out]; exact oL6, BW6⟩
          case measure => omega
        | false =>
          have N2 := Bx.mk (NX.out.trans (if_pos (by simp)))
          clear NX
          go_upto_region 6 with (go_at_call 48; refine H3.mono ?_; rintro e w7 ⟨rfl, rfl⟩)
          have oL8 := oL6.keep (below_alloc (Below.refl w6.heap.size w6) (.cells #[.int .i64 j] 3))
          have BW8 := below_alloc BW6 (.cells #[.int .i64 (j : Int)] 3)
          have n8 : RowOf (w6.alloc (.cells #[.int .i64 (j : Int)] 3)) (some ⟨w6.heap.size, 0, none⟩) [(j : Int)] := row_new w6 [(j : Int)]
          clear oL6 BW6 H3
          go_wp2_with (at_builtin; refine app_any rfl (.tmp 27) (.tmp 29) rfl wa.heap.size _ L [(j : Int)] rfl oL8 (some ⟨w6.heap.size, 0, none⟩) 1 1 rfl rfl n8 (by omega) (by omega) BW8.size (L.length + 1) rfl ?_; intro g9 p9 w9 q9 gr9 _; have B9 := below_app BW8 oL8 (Nat.le_refl _) gr9; have Q9 := Bx.mk q9; clear q9 gr9 oL8 n8 BW8)
          go_roundg (n + 1 - (j + 1))
          case rel => exact ⟨j + 1, rfl, rfl, by omega, by rw [N2.out]; have := Q9.out.own; simpa using this, B9⟩
          case measure => omega
    · have hjI : ¬ (j : Int) < n := by omega
      obtain rfl : n = j := by omega
      have BF := Bx.mk (HBW.out _ BW)
      have hw : w.heap.size ≤ wa.heap.size := hB.size
      rcases oL.cases with ⟨rfl, hL0⟩ | ⟨g, cap, rfl, hc1, hc2, k⟩
      · have LN := Bx.mk (LB.out.trans hL0)
        clear hL0 NX oL
        go_wp2
        go_ret
        exact ⟨_, rfl, .inl ⟨rfl, LN.out⟩, BF.out⟩
      · obtain ⟨l, hl⟩ : ∃ l, L.length = l := ⟨_, rfl⟩
        have K := Bx.mk (OwnN.low3 (B' := w.heap.size) k hw)
        unfold maxLen at hc2
        rw [hl] at hc1 ll ⊢
        have HL := Bx.mk hl
        clear k oL NX hl
        go_wp2
        go_ret
        exact ⟨_, rfl, .inr ⟨g, cap, l, by rw [LB.out, HL.out]; rfl, by rw [LB.out, HL.out]; have := K.out; rw [HL.out] at this; exact this⟩, BF.out⟩
end
end Go.Proofs.Ytidcofjadlfahaa
