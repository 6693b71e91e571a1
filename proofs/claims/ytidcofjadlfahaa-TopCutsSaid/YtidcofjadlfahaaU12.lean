/- The walks of Sum, whole. -/
import Derived.Test.YtidcofjadlfahaaU11
set_option linter.unusedVariables false
set_option linter.unusedSimpArgs false
namespace Go.Proofs.Ytidcofjadlfahaa
open Go.RowKit

/-- What a cut holds. -/
def cutSum (T C : List Int) (inb : List Bool) (n : Nat) : Int := sumC C (outL T inb n)
/-- The first place that is as said; -1: there is none. -/
def firstV (inb : List Bool) (side : Bool) : Nat → Int
  | 0 => -1
  | j + 1 => if 0 ≤ firstV inb side j then firstV inb side j else if rb inb j = side then j else -1
theorem firstV_rng (inb : List Bool) (side : Bool) : ∀ j, firstV inb side j = -1 ∨ (0 ≤ firstV inb side j ∧ firstV inb side j < j ∧ rb inb (firstV inb side j) = side)
  | 0 => .inl rfl
  | j + 1 => by
    rw [firstV]
    rcases firstV_rng inb side j with h | ⟨a, b, c⟩
    · rw [h, if_neg (by omega)]
      split
      · rename_i k
        exact .inr ⟨by omega, by omega, k⟩
      · exact .inl rfl
    · rw [if_pos a]
      exact .inr ⟨a, by omega, c⟩
theorem firstV_none {inb : List Bool} {side : Bool} : ∀ {j : Nat}, firstV inb side j = -1 → ∀ v : Int, 0 ≤ v → v < j → rb inb v ≠ side
  | 0, _, v, h0, h1 => by omega
  | j + 1, h, v, h0, h1 => by
    rw [firstV] at h
    by_cases a : 0 ≤ firstV inb side j
    · rw [if_pos a] at h; omega
    · rw [if_neg a] at h
      by_cases b : rb inb j = side
      · rw [if_pos b] at h; omega
      · by_cases e : v = j
        · rw [e]; exact b
        · refine firstV_none (j := j) ?_ v h0 (by omega)
          rcases firstV_rng inb side j with k | k
          · exact k
          · omega
theorem firstV_stay {inb : List Bool} {side : Bool} {j : Nat} (h : 0 ≤ firstV inb side j) : ∀ k, firstV inb side (j + k) = firstV inb side j
  | 0 => rfl
  | k + 1 => by
    have ih := firstV_stay h k
    show firstV inb side ((j + k) + 1) = _
    rw [firstV, ih, if_pos h]
/-- Do the first j that are as said lie in a piece? -/
def allIn (inb fnd : List Bool) (side : Bool) : Nat → Bool
  | 0 => true
  | j + 1 => allIn inb fnd side j && (rb fnd j || !(rb inb j == side))
theorem allIn_le {inb fnd : List Bool} {side : Bool} {j : Nat} : ∀ {k : Nat}, allIn inb fnd side (j + k) = true → allIn inb fnd side j = true
  | 0, h => h
  | k + 1, h => by
    have h' : (allIn inb fnd side (j + k) && (rb fnd ((j + k : Nat) : Int) || !(rb inb ((j + k : Nat) : Int) == side))) = true := h
    rw [Bool.and_eq_true] at h'
    exact allIn_le h'.1
def wholeB (T : List Int) (inb : List Bool) (side : Bool) (m n : Nat) : Bool :=
  decide (0 ≤ firstV inb side m) && allIn inb (mk1 (bEnd T (okS T inb (firstV inb side m)) m n (firstV inb side m)).by_) side m
section
variable {m n bT oT bX oX bC oC kT kX kC : Nat} {T X C : List Int} {w : World} {bF oF kF : Nat} {inb : List Bool}
set_option maxHeartbeats 1600000 in
theorem sum_any (G : Good m n T X C) (R : Rows3 w n bT oT bX oX bC oC T X C) (F : BRowAt w bF oF m inb) :
    Calls Try.prog 12 #[(.agg #[.int .i64 m, .slice (some ⟨bT, oT, none⟩) n kT, .slice (some ⟨bX, oX, none⟩) n kX, .slice (some ⟨bC, oC, none⟩) n kC]), .slice (some ⟨bF, oF, none⟩) m kF] w fun e w' => e = .returned (.int .i64 (cutSum T C inb n)) ∧ Below w.heap.size w w' := by
  have GG := Bx.mk G
  have RR := Bx.mk R
  have OU := fun W (h : Below w.heap.size w W) => out_any (kT := kT) (kX := kX) (kC := kC) (kF := kF) G (R.keep h) (F.keep h)
  have n240 := G.n240
  have OM := Bx.mk (show ∀ d, d ∈ outL T inb n → 0 ≤ d ∧ d < n from fun d hd => ⟨(outL_mem.1 hd).1, (outL_mem.1 hd).2.1⟩)
  have ll := outL_len T inb n
  have CS := Bx.mk (show cutSum T C inb n = sumTo C (outL T inb n) (outL T inb n).length from by unfold cutSum sumTo; rw [List.take_length])
  have SB := Bx.mk (fun j hj => sumTo_bound (n := n) (C := C) (L := outL T inb n) (fun d hd => G.c d (outL_mem.1 hd).1 (outL_mem.1 hd).2.1) j hj)
  clear G R F
  obtain ⟨L, hL⟩ : ∃ L, outL T inb n = L := ⟨_, rfl⟩
  rw [hL] at OU OM ll CS SB
  clear hL
  have hB := below_alloc (Below.refl w.heap.size w) (.cells #[.int .i64 m, .slice (some ⟨bT, oT, none⟩) n kT, .slice (some ⟨bX, oX, none⟩) n kX, .slice (some ⟨bC, oC, none⟩) n kC] 25)
  have hbox := box_new w #[.int .i64 m, .slice (some ⟨bT, oT, none⟩) n kT, .slice (some ⟨bX, oX, none⟩) n kX, .slice (some ⟨bC, oC, none⟩) n kC] 25
  go_enter Try.func12, Try.ntmps12
  go_upto_region 1 with fail
  generalize w.alloc _ = wa at hB hbox ⊢
  generalize w.heap.size = b at hbox ⊢
  have HK := Bx.mk (fun W (h : Below wa.heap.size wa W) => (⟨(hbox.keep h).cell 0, (hbox.keep h).cell 1, (hbox.keep h).cell 2, (hbox.keep h).cell 3⟩ : W.cell? ⟨b, 0, none⟩ = some (.int .i64 m) ∧ W.cell? ⟨b, 1, none⟩ = some (.slice (some ⟨bT, oT, none⟩) n kT) ∧ W.cell? ⟨b, 2, none⟩ = some (.slice (some ⟨bX, oX, none⟩) n kX) ∧ W.cell? ⟨b, 3, none⟩ = some (.slice (some ⟨bC, oC, none⟩) n kC)))
  have HBX := Bx.mk hbox
  have HBW := Bx.mk (fun W (h : Below wa.heap.size wa W) => below_below hB h)
  clear hbox
  obtain ⟨k0, k1, k2, k3⟩ := HK.out wa (Below.refl _ _)
  have S1 := OU _ hB
  go_wp2_with fail
  refine S1.mono ?_
  rintro e w2 ⟨v2, rfl, o2, B2⟩
  clear S1 OU k0 k1 k2 k3
  obtain ⟨a2, c2, rfl, r2⟩ := o2.row
  clear o2
  obtain ⟨l, hl⟩ : ∃ l, L.length = l := ⟨_, rfl⟩
  rw [hl] at ll CS SB ⊢
  have HL := Bx.mk hl
  clear hl
  obtain ⟨k0, k1, k2, k3⟩ := HK.out _ B2
  go_wp2
  go_loopg [5, 12] (l + 1) (fun q y5 y12 wr => ∃ j : Nat, y5 = .int .i64 (sumTo C L j) ∧ y12 = .int .i64 j ∧ q = l + 1 - j ∧ j ≤ l ∧ wr = w2)
  case atStart => exact ⟨0, rfl, rfl, by omega, by omega, rfl⟩
  case round =>
    obtain ⟨j, rfl, rfl, hq, hj, rfl⟩ := hrel
    have vb := SB.out j hj
    by_cases hjn : j < l
    · have hjI : (j : Int) < l := by omega
      have NX := Bx.mk (sumTo_next C L j (by rw [HL.out]; exact hjn))
      obtain ⟨b2, o2, rfl, _, c1⟩ := r2 j (by omega) (by rw [HL.out]; exact hjI)
      have dr := OM.out (rd L j) (rd_mem (by omega) (by rw [HL.out]; exact hjI))
      have cc := (RR.out.keep (HBW.out _ B2)).C.get (rd L j) dr.1 dr.2
      have cb := GG.out.c (rd L j) dr.1 dr.2
      obtain ⟨z, hz⟩ : ∃ z, sumTo C L j = z := ⟨_, rfl⟩
      rw [hz] at NX vb ⊢
      rw [Int.toNat_natCast] at c1
      have d0 := dr.1
      have d1 := dr.2
      obtain ⟨d, hd⟩ : ∃ d, rd L j = d := ⟨_, rfl⟩
      rw [hd] at c1 cc cb NX d0 d1
      obtain ⟨y, hy⟩ : ∃ y, rd C d = y := ⟨_, rfl⟩
      rw [hy] at cc cb NX
      have y1 : IntKind.i64.wrap (z + y) = z + y := IntWalk.i64_in _ (by omega)
      clear hz hd hy dr
      go_wp2
      go_roundg (l + 1 - (j + 1))
      case rel => exact ⟨j + 1, by rw [NX.out], rfl, rfl, by omega, rfl⟩
      case measure => omega
    · have hjI : ¬ (j : Int) < l := by omega
      obtain rfl : l = j := by omega
      have BF := Bx.mk (HBW.out _ B2)
      have C2 := Bx.mk CS.out.symm
      rw [C2.out]
      obtain ⟨z, hz⟩ : ∃ z, cutSum T C inb n = z := ⟨_, rfl⟩
      rw [hz]
      have ZB := Bx.mk hz
      clear hz vb
      go_wp2
      go_ret
      exact ⟨by rw [ZB.out]; rfl, BF.out⟩
set_option maxHeartbeats 3200000 in
theorem whole_any (G : Good m n T X C) (R : Rows3 w n bT oT bX oX bC oC T X C) (F : BRowAt w bF oF m inb) (side : Bool) :
    Calls Try.prog 52 #[(.agg #[.int .i64 m, .slice (some ⟨bT, oT, none⟩) n kT, .slice (some ⟨bX, oX, none⟩) n kX, .slice (some ⟨bC, oC, none⟩) n kC]), .slice (some ⟨bF, oF, none⟩) m kF, .bool side] w fun e w' => e = .returned (.bool (wholeB T inb side m n)) ∧ Below w.heap.size w w' := by
  have PI := fun W (h : Below w.heap.size w W) (v : Int) (v0 : 0 ≤ v) (v1 : v < m) => piece_any (kT := kT) (kX := kX) (kC := kC) (kF := kF) G (R.keep h) (F.keep h) v v0 v1
  have FF := Bx.mk F
  have m60 := G.m60
  have BL := Bx.mk (show ∀ v : Int, 0 ≤ v → v < m → (bEnd T (okS T inb v) m n v).by_.length = m from fun v v0 v1 => (bEnd_found G.ev G.t v0 v1).lb)
  have WB := Bx.mk (show wholeB T inb side m n = (decide (0 ≤ firstV inb side m) && allIn inb (mk1 (bEnd T (okS T inb (firstV inb side m)) m n (firstV inb side m)).by_) side m) from rfl)
  obtain ⟨wb, hwb⟩ : ∃ wb, wholeB T inb side m n = wb := ⟨_, rfl⟩
  rw [hwb] at WB ⊢
  clear G R F hwb
  have hB := below_alloc (Below.refl w.heap.size w) (.cells #[.int .i64 m, .slice (some ⟨bT, oT, none⟩) n kT, .slice (some ⟨bX, oX, none⟩) n kX, .slice (some ⟨bC, oC, none⟩) n kC] 25)
  have hbox := box_new w #[.int .i64 m, .slice (some ⟨bT, oT, none⟩) n kT, .slice (some ⟨bX, oX, none⟩) n kX, .slice (some ⟨bC, oC, none⟩) n kC] 25
  go_enter Try.func52, Try.ntmps52
  go_upto_region 1 with fail
  generalize w.alloc _ = wa at hB hbox ⊢
  generalize w.heap.size = b at hbox ⊢
  have HK := Bx.mk (fun W (h : Below wa.heap.size wa W) => (⟨(hbox.keep h).cell 0, (hbox.keep h).cell 1, (hbox.keep h).cell 2, (hbox.keep h).cell 3⟩ : W.cell? ⟨b, 0, none⟩ = some (.int .i64 m) ∧ W.cell? ⟨b, 1, none⟩ = some (.slice (some ⟨bT, oT, none⟩) n kT) ∧ W.cell? ⟨b, 2, none⟩ = some (.slice (some ⟨bX, oX, none⟩) n kX) ∧ W.cell? ⟨b, 3, none⟩ = some (.slice (some ⟨bC, oC, none⟩) n kC)))
  have HBX := Bx.mk hbox
  have HBW := Bx.mk (fun W (h : Below wa.heap.size wa W) => below_below hB h)
  clear hbox
  have HR := fun W (h : Below wa.heap.size wa W) (v : Int) (v0 : 0 ≤ v) (v1 : v < m) => has_any (kF := kF) (FF.out.keep (HBW.out W h)) v v0 v1
  obtain ⟨k0, k1, k2, k3⟩ := HK.out wa (Below.refl _ _)
  go_wp2
  clear k0 k1 k2 k3
  go_loopg [7, 13] (m + 1) (fun q y7 y13 wr => ∃ j : Nat, y7 = .int .i64 (-1) ∧ y13 = .int .i64 j ∧ q = m + 1 - j ∧ j ≤ m ∧ wr = wa ∧ Bx (firstV inb side j = -1))
  case atStart => exact ⟨0, rfl, rfl, by omega, by omega, rfl, ⟨rfl⟩⟩
  case round =>
    obtain ⟨j, rfl, rfl, hq, hj, rfl, FN⟩ := hrel
    by_cases hjm : j < m
    · have hjI : (j : Int) < m := by omega
      have H1 := HR _ (Below.refl _ _) j (by omega) hjI
      have NX := Bx.mk (show firstV inb side (j + 1) = if rb inb j = side then (j : Int) else -1 from by rw [firstV, FN.out, if_neg (by omega)])
      obtain ⟨x, hx⟩ : ∃ x, rb inb j = x := ⟨_, rfl⟩
      rw [hx] at H1 NX
      clear hx
      by_cases hxs : x = side
      · subst hxs
        have FM := Bx.mk (show firstV inb x m = j from by
          have e1 := NX.out
          rw [if_pos rfl] at e1
          have := firstV_stay (inb := inb) (side := x) (j := j + 1) (by omega) (m - (j + 1))
          rwa [show j + 1 + (m - (j + 1)) = m from by omega, e1] at this)
        have PJ := fun W h => PI W h j (by omega) hjI
        have W2 := Bx.mk (show wb = allIn inb (mk1 (bEnd T (okS T inb j) m n j).by_) x m from by rw [WB.out, FM.out, decide_eq_true (by omega)]; rfl)
        have DL := Bx.mk (BL.out j (by omega) hjI)
        obtain ⟨D, hD⟩ : ∃ D, (bEnd T (okS T inb j) m n j).by_ = D := ⟨_, rfl⟩
        rw [hD] at W2 DL PJ
        obtain ⟨sd, hsd⟩ : ∃ sd, sd = x := ⟨_, rfl⟩
        rw [← hsd] at W2
        have SD := Bx.mk hsd
        clear hsd
        have j0 : ¬ (j : Int) < 0 := by omega
        clear NX hD PI
        obtain ⟨k0, k1, k2, k3⟩ := HK.out wr (Below.refl _ _)
        cases x
        all_goals
          go_upto_region 8 with (go_at_call 48; refine H1.mono ?_; rintro e w5 ⟨rfl, rfl⟩)
          have P1 := PJ _ hB
          go_wp2_with fail
          refine P1.mono ?_
          rintro e w6 ⟨g6, rfl, o6, B6⟩
          clear P1 PJ H1 k0 k1 k2 k3
          go_wp2
          go_loopg [30] (m + 1) (fun q y wx => ∃ i : Nat, y = .int .i64 i ∧ q = m + 1 - i ∧ i ≤ m ∧ wx = w6 ∧ Bx (allIn inb (mk1 D) sd i = true))
          case atStart => exact ⟨0, rfl, by omega, by omega, rfl, ⟨rfl⟩⟩
          case round =>
            obtain ⟨i, rfl, hq2, hi, rfl, AL⟩ := hrel
            by_cases him : i < m
            · have hiI : (i : Int) < m := by omega
              have c1 := o6.cell i (by omega) hiI
              have H3 := HR _ B6 i (by omega) hiI
              rw [Int.toNat_natCast] at c1
              have NI := Bx.mk ((show allIn inb (mk1 D) sd (i + 1) = (allIn inb (mk1 D) sd i && (rb (mk1 D) i || !(rb inb i == sd))) from rfl))
              obtain ⟨f, hf⟩ : ∃ f, rb (mk1 D) i = f := ⟨_, rfl⟩
              obtain ⟨x, hx⟩ : ∃ x, rb inb i = x := ⟨_, rfl⟩
              rw [hf] at c1 NI
              rw [hx] at H3 NI
              clear hf hx
              have AW := Bx.mk (fun (h : allIn inb (mk1 D) sd (i + 1) = false) => (show allIn inb (mk1 D) sd m = false from by
                cases e : allIn inb (mk1 D) sd m with
                | false => rfl
                | true =>
                  have := allIn_le (inb := inb) (fnd := mk1 D) (side := sd) (j := i + 1) (k := m - (i + 1)) (by rw [show i + 1 + (m - (i + 1)) = m from by omega]; exact e)
                  rw [this] at h
                  cases h))
              cases f
              all_goals cases x
              all_goals first
                | (have N3 := Bx.mk (show allIn inb (mk1 D) sd (i + 1) = true from by rw [NI.out, AL.out, SD.out]; rfl)
                   clear NI AW
                   go_wp2_with (go_at_call 48; refine H3.mono ?_; rintro e w7 ⟨rfl, rfl⟩)
                   go_roundg (m + 1 - (i + 1))
                   case rel => exact ⟨i + 1, rfl, rfl, by omega, rfl, N3⟩
                   case measure => omega)
                | (have N3 := Bx.mk (show wb = false from by rw [W2.out]; exact AW.out (by rw [NI.out, AL.out, SD.out]; rfl))
                   clear NI AW
                   have BF := Bx.mk (HBW.out _ B6)
                   go_wp2_with (go_at_call 48; refine H3.mono ?_; rintro e w7 ⟨rfl, rfl⟩)
                   go_ret
                   exact ⟨by rw [N3.out]; rfl, BF.out⟩)
            · have hiI : ¬ (i : Int) < m := by omega
              obtain rfl : m = i := by omega
              have W3 := Bx.mk (W2.out.trans AL.out)
              have BF := Bx.mk (HBW.out _ B6)
              go_wp2
              go_ret
              exact ⟨by rw [W3.out]; rfl, BF.out⟩
      · have N2 := Bx.mk (NX.out.trans (if_neg hxs))
        clear NX
        cases x
        all_goals cases side
        all_goals first
          | exact absurd rfl hxs
          | (clear hxs
             go_wp2_with (go_at_call 48; refine H1.mono ?_; rintro e w5 ⟨rfl, rfl⟩)
             go_roundg (m + 1 - (j + 1))
             case rel => exact ⟨j + 1, rfl, rfl, rfl, by omega, rfl, N2⟩
             case measure => omega)
    · have hjI : ¬ (j : Int) < m := by omega
      obtain rfl : m = j := by omega
      have W2 := Bx.mk (show wb = false from by rw [WB.out, FN.out, decide_eq_false (by omega)]; rfl)
      have BF := Bx.mk (HBW.out _ (Below.refl _ _))
      go_wp2
      go_ret
      exact ⟨by rw [W2.out]; rfl, BF.out⟩
end
end Go.Proofs.Ytidcofjadlfahaa
