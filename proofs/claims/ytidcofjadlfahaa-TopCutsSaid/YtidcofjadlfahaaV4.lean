/- The walks of l11.Flow (a flow of a plane net, by potentials of faces) and of TopCuts. -/
import Derived.Test.YtidcofjadlfahaaV1
import Derived.Test.YtidcofjadlfahaaU20
import Derived.Test.YtidcofjadlfahaaPl
import Derived.Deep.CutBlock
set_option linter.unusedVariables false
set_option linter.unusedSimpArgs false
namespace Go.Proofs.Ytidcofjadlfahaa
open Go.RowKit

/-- An append of some numbers to a row of the call's own, in a region that draws its order. -/
theorem istep_app {ops : Array Oper} {o : Oper} {a : Act} {W : World} {K : Act → World → Prop} {Q : Exit → Act → World → Prop} {E : Prop} (hgd : o.guard = none) (s x : Operand)
    (ho : o.op = .call { callee := .builtin .append, args := #[s, x], argTypes := #[22, 22] }) (B : Nat) (v : Value) (xs ys : List Int) (hs : a.eval s = v) (hown : Own W B v xs)
    (ax : Option Addr) (c m : Nat) (hm : ys.length = m) (hx : a.eval x = .slice ax m c) (hr : RowOf W ax ys) (hp : 0 < m) (h1 : xs.length + m ≤ 1000) (hB : B ≤ W.heap.size) (n : Nat) (hn : xs.length + m = n)
    (h : ∀ g cap w', OwnN w' B g cap n (xs ++ ys) → W.grownBy w' v.ownBlock → (v.ownBlock = some g ∨ g = W.heap.size) → K (a.put o.dst (.slice (some ⟨g, 0, none⟩) n cap)) w') :
    if Region.wanted o (yielded ops a.tmps) = true then Oper.wp Try.prog o a W K Q else E := by
  obtain ⟨i0, hi, hz0, hz1, hz2⟩ := info_parts info3
  subst hm
  obtain ⟨b, off, rfl, hb, hc⟩ := row_cells hr hp
  refine step_append_lies W hgd s x 22 ho B 3 i0 (.int .i64 0) 1 8 Try.underlying22 hi hz0 hz1 hz2 rfl (by omega) v xs.length (nums xs) hs hown ⟨b, off, none⟩ ys.length c (nums ys) hx (by rw [nums_length, Nat.mul_one]) hc (by simp [nums, Value.oneCell']) hp (by unfold maxLen; omega) (by omega) hB _ rfl ?_
  intro g cap w' hown' hgrow hat hlt
  subst hn
  refine h g cap w' ⟨by simp, ?_⟩ hgrow hat
  rw [show nums (xs ++ ys) = nums xs ++ nums ys from by simp [nums]]
  exact hown'
theorem Good.caps {m n : Nat} {T X C C' : List Int} (G : Good m n T X C) (lC : C'.length = n) (c : ∀ d : Int, 0 ≤ d → d < n → 0 ≤ rd C' d ∧ rd C' d ≤ 2147483648) : Good m n T X C' :=
  ⟨G.m1, G.m60, G.n2, G.n240, G.ev, G.lT, G.lX, lC, G.t, G.px, c, G.tu, G.same, G.conn, G.eu, G.f1⟩
theorem fall_flow {m n : Nat} {T X C C' f g H : List Int} {s t : Int} (G : Good m n T X C) (K : FlowOk m n T C s t f) (lg : g.length = n)
    (hg : ∀ d : Int, 0 ≤ d → d < n → rd g d = rd f d + rd H (rd (facesOf X) d) - rd H (rd (facesOf X) (ot d)) ∧ rd g d ≤ 2147483648) (lC : C'.length = n) (hC : ∀ d : Int, 0 ≤ d → d < n → rd C' d = max (rd C d) (rd g d)) :
    Good m n T X C' ∧ FlowOk m n T C' s t g := by
  refine ⟨G.caps lC (fun d d0 d1 => ?_), ⟨lg, fun d d0 d1 => ?_, fun d d0 d1 => ?_, fun v h1 h2 => ?_⟩⟩
  · have h1 := G.c d d0 d1
    have h2 := (hg d d0 d1).2
    have h3 := hC d d0 d1
    omega
  · have h3 := hC d d0 d1
    omega
  · have ho := ot_rng d n d0 d1 G.ev
    have h1 := (hg d d0 d1).1
    have h2 := (hg _ ho.1 ho.2).1
    have h3 := K.odd d d0 d1
    rw [ot_ot] at h2
    omega
  · rw [fall_keep (h := fun x => rd H x) G (fun d d0 d1 => (hg d d0 d1).1) v]
    exact K.keep v h1 h2
section
variable {m n bT oT bX oX bC oC kT kX kC : Nat} {T X C : List Int} {w : World}
theorem rfaces_any (G : Good m n T X C) (R : Rows3 w n bT oT bX oX bC oC T X C) :
    Calls Try.prog 22 #[(.agg #[.int .i64 m, .slice (some ⟨bT, oT, none⟩) n kT, .slice (some ⟨bX, oX, none⟩) n kX, .slice (some ⟨bC, oC, none⟩) n kC])] w fun e w' => ∃ v, e = .returned (.tuple #[v, .int .i64 (faceN X)]) ∧ Own w' w.heap.size v (facesOf X) ∧ Below w.heap.size w w' := by
  have := faces_any (N := (m : Int)) (aT := some ⟨bT, oT, none⟩) (aX := some ⟨bX, oX, none⟩) (aC := some ⟨bC, oC, none⟩) (cT := kT) (cX := kX) (cC := kC) (T := T) (X := X) (C := C) (w := w) R.X.row (by rw [G.lT, G.lX]) (by rw [G.lX]; exact G.ev) (by rw [G.lX]; exact G.n240) (rings_of (by rw [G.lX]; exact G.px) (by rw [G.lX]; exact G.ev) (by rw [G.lX]; exact G.n240))
  rw [G.lT, G.lX, G.lC, show max (faceN X) 1 = faceN X from by have := G.f1; omega] at this
  exact this
def FlowPost (m n : Nat) (bT oT bX oX kT kX : Nat) (T X : List Int) (s t : Int) (w : World) (e : Ending) (w' : World) : Prop :=
  ∃ (gC pC gG : Nat) (C' g : List Int), e = .returned (.tuple #[.agg #[.int .i64 m, .slice (some ⟨bT, oT, none⟩) n kT, .slice (some ⟨bX, oX, none⟩) n kX, .slice (some ⟨gC, 0, none⟩) n pC], .slice (some ⟨gG, 0, none⟩) n n]) ∧ Good m n T X C' ∧ RowAt w' gC 0 n C' ∧ RowAt w' gG 0 n g ∧ FlowOk m n T C' s t g ∧ Below w.heap.size w w'
set_option maxHeartbeats 6400000 in
set_option maxRecDepth 100000 in
theorem lflow_any {aM : Option Addr} {lm cM : Nat} {hs : List Int} (G : Good m n T X C) (R : Rows3 w n bT oT bX oX bC oC T X C) (s t : Int) (hs0 : 0 ≤ s) (hs1 : s < m) (ht0 : 0 ≤ t) (ht1 : t < m) (hst : s ≠ t) (hM : RowOf w aM hs) (lM : hs.length = lm) :
    Calls Try.prog 9 #[(.agg #[.int .i64 m, .slice (some ⟨bT, oT, none⟩) n kT, .slice (some ⟨bX, oX, none⟩) n kX, .slice (some ⟨bC, oC, none⟩) n kC]), .int .i64 s, .int .i64 t, .slice aM lm cM] w (FlowPost m n bT oT bX oX kT kX T X s t w) := by
  have GG := Bx.mk G
  have RR := Bx.mk R
  have n2 := G.n2
  have n240 := G.n240
  have MK := Bx.mk (fun W (h : Below w.heap.size w W) => hM.keep h)
  have LM := Bx.mk lM
  have FA := fun W (h : Below w.heap.size w W) => rfaces_any (kT := kT) (kX := kX) (kC := kC) G (R.keep h)
  have FS := Bx.mk (faces_all (X := X) (by rw [G.lX]; exact G.px) (by rw [G.lX]; exact G.ev))
  have feu := G.eu
  have ff1 := G.f1
  have m1 := G.m1
  have m60 := G.m60
  clear G R hM lM
  have FL := Bx.mk (show (facesOf X).length = n from by
    have := (facesTo_rng X X.length).1
    rw [← GG.out.lX]; exact this)
  obtain ⟨F, hF⟩ : ∃ F, facesOf X = F := ⟨_, rfl⟩
  obtain ⟨kf, hK⟩ : ∃ kf : Nat, faceN X = kf := ⟨(faceN X).toNat, by omega⟩
  rw [hF] at FL
  rw [hF, hK] at FA
  have FR := Bx.mk (show ∀ d : Int, 0 ≤ d → d < n → 0 ≤ rd F d ∧ rd F d < kf from fun d d0 d1 => by
    have hd : d < X.length := by rw [GG.out.lX]; exact d1
    have a := FS.out.don d d0 hd hd
    have b := FS.out.rng d d0 hd
    rw [hF, hK] at b
    rw [hF] at a
    omega)
  rw [hK] at feu ff1
  have FB := Bx.mk hF
  have kf1 : 1 ≤ kf := by omega
  have kf2 : kf ≤ 122 := by omega
  clear hK feu ff1 FS hF
  have hB := below_alloc (below_alloc (Below.refl w.heap.size w) (.cells #[.int .i64 m, .slice (some ⟨bT, oT, none⟩) n kT, .slice (some ⟨bX, oX, none⟩) n kX, .slice (some ⟨bC, oC, none⟩) n kC] 25)) (.cells #[.int .i64 0, .slice none 0 0, .slice none 0 0, .slice none 0 0] 25)
  have hbox := (box_new w #[.int .i64 m, .slice (some ⟨bT, oT, none⟩) n kT, .slice (some ⟨bX, oX, none⟩) n kX, .slice (some ⟨bC, oC, none⟩) n kC] 25).keep (below_alloc (Below.refl _ _) (.cells #[.int .i64 0, .slice none 0 0, .slice none 0 0, .slice none 0 0] 25))
  have hres := box_new (w.alloc (.cells #[.int .i64 m, .slice (some ⟨bT, oT, none⟩) n kT, .slice (some ⟨bX, oX, none⟩) n kX, .slice (some ⟨bC, oC, none⟩) n kC] 25)) #[.int .i64 0, .slice none 0 0, .slice none 0 0, .slice none 0 0] 25
  rw [World.size_alloc] at hres
  have hws : w.heap.size < w.heap.size + 1 := Nat.lt_succ_self _
  go_enter Try.func9, Try.ntmps9
  go_upto_region 1 with fail
  generalize (w.alloc _).alloc _ = wa at hB hbox hres ⊢
  generalize w.heap.size + 1 = b2 at hres hws ⊢
  generalize hb0 : w.heap.size = b at hbox hws ⊢
  have HK := Bx.mk (fun W (h : Below wa.heap.size wa W) => (⟨(hbox.keep h).cell 0, (hbox.keep h).cell 1, (hbox.keep h).cell 2, (hbox.keep h).cell 3⟩ : W.cell? ⟨b, 0, none⟩ = some (.int .i64 m) ∧ W.cell? ⟨b, 1, none⟩ = some (.slice (some ⟨bT, oT, none⟩) n kT) ∧ W.cell? ⟨b, 2, none⟩ = some (.slice (some ⟨bX, oX, none⟩) n kX) ∧ W.cell? ⟨b, 3, none⟩ = some (.slice (some ⟨bC, oC, none⟩) n kC)))
  have HBW := Bx.mk (fun W (h : Below wa.heap.size wa W) => below_below hB h)
  have HRS := Bx.mk (fun W (h : Below wa.heap.size wa W) => hres.keep h)
  have hb2 := hres.lt
  have hbl := hbox.lt
  clear hbox hres
  obtain ⟨k0, k1, k2, k3⟩ := HK.out wa (Below.refl _ _)
  have S1 := FA _ hB
  go_wp2_with fail
  refine S1.mono ?_
  rintro e w2 ⟨vF, rfl, oF, B2⟩
  clear S1 FA k0 k1 k2 k3
  obtain ⟨aF, cF, rfl, rF⟩ := oF.row
  obtain ⟨gF, oG, rfl, rG⟩ := rF.at' FL.out (by omega)
  have ne2 : gF ≠ b2 := by have := Own.block oF hb2; simpa [Value.ownBlock] using this
  rw [FL.out]
  clear oF rF FL
  have hmk : ∀ w : World, (Instr.makeSlice 22 (.int .i64 kf) (.int .i64 kf)).run Try.prog w = .ok (.slice (some ⟨w.heap.size, 0, none⟩) kf kf) (w.alloc (.cells (madeCells #[.int .i64 0] kf) 3)) :=
    run_make_row' (P := Try.prog) 22 3 (.int .i64 0) 8 Try.underlying22 info3 rfl .i64 .i64 kf (by omega) (by omega)
  have o1 := own_made w2 w2.heap.size kf (Nat.le_refl _) (by omega)
  have B3 := below_alloc (Below.refl w2.heap.size w2) (.cells (madeCells #[.int .i64 0] kf) 3)
  obtain ⟨gH, hgH⟩ : ∃ gH, w2.heap.size = gH := ⟨_, rfl⟩
  have hgl : w2.heap.size ≤ gH := by omega
  rw [show OwnN (w2.alloc (.cells (madeCells #[.int .i64 0] kf) 3)) w2.heap.size w2.heap.size kf kf (List.replicate kf 0) = OwnN (w2.alloc (.cells (madeCells #[.int .i64 0] kf) 3)) w2.heap.size gH kf kf (List.replicate kf 0) from by rw [hgH]] at o1
  go_upto_region 3 with fail
  generalize w2.alloc _ = w3 at o1 B3 ⊢
  clear hmk hgH
  go_upto_block 0 with fail
  go_cut [13] from 28 (fun s13 wx => ∃ H : List Int, OwnN wx w2.heap.size gH kf kf H ∧ Bx (∀ j : Int, 0 ≤ j → j < kf → 0 ≤ rd H j ∧ rd H j < 9) ∧ Below w2.heap.size w2 wx)
  case first =>
    go_wp2
    go_loopg [13] (kf + 1) (fun q y wr => ∃ (i : Nat) (H : List Int), y = .int .i64 i ∧ q = kf + 1 - i ∧ i ≤ kf ∧ OwnN wr w2.heap.size gH kf kf H ∧ Bx (∀ j : Int, 0 ≤ j → j < kf → 0 ≤ rd H j ∧ rd H j < 9) ∧ Below w2.heap.size w2 wr)
    case atStart => exact ⟨0, _, rfl, by omega, by omega, o1, ⟨fun j j0 j1 => by rw [rep_rd _ _ _ j0 j1]; omega⟩, B3⟩
    case round =>
      clear o1 B3
      obtain ⟨i, H, rfl, hq, hi, oH, HR, BW⟩ := hrel
      by_cases h3 : i < kf ∧ i < lm
      · obtain ⟨h1, h2⟩ := h3
        have hI1 : (i : Int) < kf := by omega
        have hI2 : (i : Int) < lm := by omega
        obtain ⟨bM, oM, rfl, _, cM1⟩ := (MK.out _ (HBW.out _ (below_below B2 BW))) i (by omega) (by rw [LM.out]; exact hI2)
        rw [Int.toNat_natCast] at cM1
        have WI := fun W => within11_any (rd hs i) 9 (by omega) (by omega) W
        have kr := wi_rng (rd hs i) 9 (by omega)
        obtain ⟨v, hv⟩ : ∃ v, wi (rd hs i) 9 = v := ⟨_, rfl⟩
        rw [hv] at WI kr
        clear hv
        have c1 := oH.cell i (by omega) hI1
        have f1 := oH.fz i
        have o2 := oH.set i v
        have B4 := below_set BW (p := ⟨gH, i, none⟩) hgl (.int .i64 v)
        have HR2 := Bx.mk (show ∀ j : Int, 0 ≤ j → j < kf → 0 ≤ rd (st H i v) j ∧ rd (st H i v) j < 9 from fun j j0 j1 => by
          rw [rd_st _ _ _ _ (by omega) (by rw [oH.1]; exact hI1) j0]
          split
          · exact kr
          · exact HR.out j j0 j1)
        rw [Int.toNat_natCast] at c1 f1 o2
        go_wp2_with (go_at_call 25; (with_reducible refine (WI _).mono ?_); rintro e W1 ⟨rfl, rfl⟩)
        go_roundg (kf + 1 - (i + 1))
        case rel => exact ⟨i + 1, _, rfl, rfl, by omega, o2, HR2, B4⟩
        case measure => omega
      · have hex : ¬ i < kf ∨ (i < kf ∧ ¬ i < lm) := by omega
        clear h3
        rcases hex with h1 | ⟨h1, h2⟩
        · have hI1 : ¬ (i : Int) < kf := by omega
          go_wp2
          go_meet
          case rel => exact ⟨H, oH, HR, BW⟩
        · have hI1 : (i : Int) < kf := by omega
          have hI2 : ¬ (i : Int) < lm := by omega
          go_wp2
          go_meet
          case rel => exact ⟨H, oH, HR, BW⟩
  case rest =>
    obtain ⟨H, oH, HR, BW⟩ := hcut
    have rH := oH.at'
    have rG5 := rG.keep BW
    have B5 := below_below B2 BW
    clear oH rG BW B2 o1 B3 hgl
    generalize wc = w5 at rH rG5 B5 ⊢
    obtain ⟨k0, k1, k2, k3⟩ := HK.out _ B5
    have S1 := most9_any (kT := kT) (kX := kX) (kC := kC) GG.out (RR.out.keep (HBW.out _ B5)) s t hs0 hs1 ht0 ht1 hst
    go_wp2_with fail
    refine S1.mono ?_
    rintro e w6 ⟨gf, f, rfl, of_, MI, B6⟩
    have KB := Bx.mk (MI.flow GG.out hs0 hs1 ht0 ht1 hst)
    have Z0 := Bx.mk (FlowOk.zero (s := s) (t := t) GG.out)
    clear S1 MI k0 k1 k2 k3
    obtain ⟨vf, hvf⟩ : ∃ v, valF T f s n = v := ⟨_, rfl⟩
    rw [hvf]
    clear hvf
    go_upto_region 8 with fail
    go_cut [68] from 55 (fun s68 wx => (∃ c : Bool, s68 = .bool c) ∧ wx = w6)
    case first =>
      by_cases hl : 0 < lm
      · have hlI : (0 : Int) < lm := by omega
        obtain ⟨bM, oM, rfl, _, cM1⟩ := (MK.out _ (HBW.out _ (below_below B5 B6))) 0 (by omega) (by rw [LM.out]; exact hlI)
        have cM2 : w6.cell? ⟨bM, oM, none⟩ = some (.int .i64 (rd hs 0)) := cM1
        obtain ⟨h0, hh0⟩ : ∃ h0, rd hs 0 = h0 := ⟨_, rfl⟩
        rw [hh0] at cM2
        clear cM1 hh0
        have WI := fun W => within11_any h0 4 (by omega) (by omega) W
        have d1 : decide ((lm : Int) > 0) = true := decide_eq_true hlI
        have d2 : decide (0 < lm) = true := decide_eq_true hl
        have d3 : decide ((0 : Int) < lm) = true := decide_eq_true hlI
        obtain ⟨v, hv⟩ : ∃ v, wi h0 4 = v := ⟨_, rfl⟩
        rw [hv] at WI
        clear hv
        go_wp2_with (go_at_call 25; (with_reducible refine (WI _).mono ?_); rintro e W1 ⟨rfl, rfl⟩)
        go_meet
        case rel => exact ⟨⟨_, rfl⟩, rfl⟩
      · have hlI : ¬ (0 : Int) < lm := by omega
        have d1 : decide ((lm : Int) > 0) = false := decide_eq_false hlI
        have d2 : decide (0 < lm) = false := decide_eq_false hl
        have d3 : decide ((0 : Int) < lm) = false := decide_eq_false hlI
        go_wp2
        go_meet
        case rel => exact ⟨⟨_, rfl⟩, rfl⟩
    case rest =>
      obtain ⟨⟨c, rfl⟩, hwc⟩ := hcut
      subst hwc
      go_upto_if 68 with fail
      go_cut [14] from 69 (fun s14 wx => ∃ (gf : Nat) (f : List Int), s14 = .slice (some ⟨gf, 0, none⟩) n n ∧ OwnN wx w5.heap.size gf n n f ∧ Bx (FlowOk m n T C s t f) ∧ Below w5.heap.size w5 wx)
      case first =>
        cases c with
        | false =>
          go_wp2
          go_meet
          case rel => exact ⟨gf, f, rfl, of_, KB, B6⟩
        | true =>
          obtain ⟨k0, k1, k2, k3⟩ := HK.out _ (below_below B5 B6)
          have hmk : ∀ w : World, (Instr.makeSlice 22 (.int .i64 n) (.int .i64 n)).run Try.prog w = .ok (.slice (some ⟨w.heap.size, 0, none⟩) n n) (w.alloc (.cells (madeCells #[.int .i64 0] n) 3)) :=
            run_make_row' (P := Try.prog) 22 3 (.int .i64 0) 8 Try.underlying22 info3 rfl .i64 .i64 n (by omega) (by omega)
          have o1 := own_made wc w5.heap.size n B6.size (by omega)
          have B7 := below_alloc B6 (.cells (madeCells #[.int .i64 0] n) 3)
          go_wp2
          go_meet
          case rel => exact ⟨wc.heap.size, _, rfl, o1, Z0, B7⟩
      case rest =>
        clear KB of_ B6 Z0
        obtain ⟨g1, f1, rfl, oF2, KB, B7⟩ := hcut
        have rf := oF2.at'
        have hg1b : b2 < g1 := by have := oF2.rng.1; have := B5.size; omega
        have rH7 := rH.keep B7
        have rG7 := rG5.keep B7
        have BW7 := below_below B5 B7
        clear oF2 rH rG5 B5 B7
        generalize wc = w7 at rf rH7 rG7 BW7 ⊢
        have HKW := Bx.mk (fun W (h : Below w7.heap.size w7 W) => (⟨h, HK.out W (below_below BW7 h)⟩ : Below w7.heap.size w7 W ∧ W.cell? ⟨b, 0, none⟩ = some (.int .i64 m) ∧ W.cell? ⟨b, 1, none⟩ = some (.slice (some ⟨bT, oT, none⟩) n kT) ∧ W.cell? ⟨b, 2, none⟩ = some (.slice (some ⟨bX, oX, none⟩) n kX) ∧ W.cell? ⟨b, 3, none⟩ = some (.slice (some ⟨bC, oC, none⟩) n kC)))
        have OE := fun (W0 : World) (h : w7.heap.size ≤ W0.heap.size) => (show Own (W0.alloc (.cells #[] 3)) w7.heap.size (.slice (some ⟨W0.heap.size, 0, none⟩) 0 0) [] from (own_lit W0 w7.heap.size [] h (by simp)).own)
        have RC := fun W (h : Below w7.heap.size w7 W) => (RR.out.keep (HBW.out _ (below_below BW7 h))).C.row
        have lC := GG.out.lC
        go_upto_region 10 with fail
        go_cut [17] from 73 (fun s17 wx => ∃ z gC pC : Nat, s17 = .pointer (some ⟨z, 0, none⟩) ∧ BoxN wx z #[.int .i64 m, .slice (some ⟨bT, oT, none⟩) n kT, .slice (some ⟨bX, oX, none⟩) n kX, .slice (some ⟨gC, 0, none⟩) n pC] 25 ∧ OwnN wx w7.heap.size gC pC n C ∧ w7.heap.size ≤ z ∧ z ≠ gC ∧ Below w7.heap.size w7 wx)
        case first =>
          have dr := fun (W : World) (h : Below w7.heap.size w7 W) => below_below h (Below.drew (Below.refl W.heap.size W))
          have D1 := dr _ (below_alloc (Below.refl w7.heap.size w7) (.cells #[] 3))
          have D2 := dr _ (below_alloc (below_alloc (Below.refl w7.heap.size w7) (.cells #[.int .i64 0, .slice none 0 0, .slice none 0 0, .slice none 0 0] 25)) (.cells #[] 3))
          have D3 := dr _ (below_alloc (below_alloc (Below.refl w7.heap.size w7) (.cells #[] 3)) (.cells #[.int .i64 0, .slice none 0 0, .slice none 0 0, .slice none 0 0] 25))
          have O1 : Own (w7.alloc (.cells #[] 3)).drew w7.heap.size (.slice (some ⟨w7.heap.size, 0, none⟩) 0 0) [] := (OE w7 (Nat.le_refl _)).keep (Below.drew (Below.refl _ _))
          have O2 : Own ((w7.alloc (.cells #[.int .i64 0, .slice none 0 0, .slice none 0 0, .slice none 0 0] 25)).alloc (.cells #[] 3)).drew w7.heap.size (.slice (some ⟨w7.heap.size + 1, 0, none⟩) 0 0) [] := by
            have := (OE (w7.alloc (.cells #[.int .i64 0, .slice none 0 0, .slice none 0 0, .slice none 0 0] 25)) (by rw [World.size_alloc]; omega)).keep (Below.drew (Below.refl _ _))
            rwa [World.size_alloc] at this
          have O3 : Own ((w7.alloc (.cells #[] 3)).alloc (.cells #[.int .i64 0, .slice none 0 0, .slice none 0 0, .slice none 0 0] 25)).drew w7.heap.size (.slice (some ⟨w7.heap.size, 0, none⟩) 0 0) [] := ((OE w7 (Nat.le_refl _)).keep (below_alloc (Below.refl _ _) (.cells #[.int .i64 0, .slice none 0 0, .slice none 0 0, .slice none 0 0] 25))).keep (Below.drew (Below.refl _ _))
          have H2 : BoxN ((w7.alloc (.cells #[.int .i64 0, .slice none 0 0, .slice none 0 0, .slice none 0 0] 25)).alloc (.cells #[] 3)).drew w7.heap.size #[.int .i64 0, .slice none 0 0, .slice none 0 0, .slice none 0 0] 25 := ((box_new w7 #[.int .i64 0, .slice none 0 0, .slice none 0 0, .slice none 0 0] 25).keep (below_alloc (Below.refl _ _) (.cells #[] 3))).keep (Below.drew (Below.refl _ _))
          have H3 : BoxN ((w7.alloc (.cells #[] 3)).alloc (.cells #[.int .i64 0, .slice none 0 0, .slice none 0 0, .slice none 0 0] 25)).drew (w7.heap.size + 1) #[.int .i64 0, .slice none 0 0, .slice none 0 0, .slice none 0 0] 25 := by
            have := (box_new (w7.alloc (.cells #[] 3)) #[.int .i64 0, .slice none 0 0, .slice none 0 0, .slice none 0 0] 25).keep (Below.drew (Below.refl _ _))
            rwa [World.size_alloc] at this
          have z2 : w7.heap.size ≤ w7.heap.size := Nat.le_refl _
          have z3 : w7.heap.size ≤ w7.heap.size + 1 := Nat.le_succ _
          go_region_held_law (fun W => Below w7.heap.size w7 W ∧ W.cell? ⟨b, 0, none⟩ = some (.int .i64 m) ∧ W.cell? ⟨b, 1, none⟩ = some (.slice (some ⟨bT, oT, none⟩) n kT) ∧ W.cell? ⟨b, 2, none⟩ = some (.slice (some ⟨bX, oX, none⟩) n kX) ∧ W.cell? ⟨b, 3, none⟩ = some (.slice (some ⟨bC, oC, none⟩) n kC))
            (first | assumption | exact HKW.out _ (Below.drew (Below.refl _ _)) | exact HKW.out _ B9 | exact HKW.out _ (below_alloc B9 _) | exact HKW.out _ (below_set (below_set (below_set (below_set B9 hz1 _) hz1 _) hz1 _) hz1 _) | exact HKW.out _ (below_alloc (And.left ‹_ ∧ _›) _))
            (first
              | (refine istep_app rfl (.tmp 79) (.tmp 81) rfl w7.heap.size _ [] C rfl O1 _ kC n lC rfl (RC _ D1) (by omega) (by show 0 + n ≤ 1000; omega) D1.size n (by simp) ?_; intro g4 p4 w9 q9 gr9 at9; have B9 := below_grown D1 gr9 (fun k hk => by first | (injection hk with hk; omega) | (simp [Value.ownBlock, Act.eval] at hk; omega)))
              | (refine istep_app rfl (.tmp 79) (.tmp 81) rfl w7.heap.size _ [] C rfl O2 _ kC n lC rfl (RC _ D2) (by omega) (by show 0 + n ≤ 1000; omega) D2.size n (by simp) ?_; intro g4 p4 w9 q9 gr9 at9; have B9 := below_grown D2 gr9 (fun k hk => by first | (injection hk with hk; omega) | (simp [Value.ownBlock, Act.eval] at hk; omega)); have hz9 := H2.grown gr9 (by first | (intro hk; injection hk with hk; omega) | (simp [Value.ownBlock, Act.eval])); have hz1 := z2; obtain ⟨d0, d1, d2, d3, f0, f1, f2, f3⟩ := zero_cells hz9)
              | (refine istep_app rfl (.tmp 79) (.tmp 81) rfl w7.heap.size _ [] C rfl O3 _ kC n lC rfl (RC _ D3) (by omega) (by show 0 + n ≤ 1000; omega) D3.size n (by simp) ?_; intro g4 p4 w9 q9 gr9 at9; have B9 := below_grown D3 gr9 (fun k hk => by first | (injection hk with hk; omega) | (simp [Value.ownBlock, Act.eval] at hk; omega)); have hz9 := H3.grown gr9 (by first | (intro hk; injection hk with hk; omega) | (simp [Value.ownBlock, Act.eval])); have hz1 := z3; obtain ⟨d0, d1, d2, d3, f0, f1, f2, f3⟩ := zero_cells hz9))
          · have q9' : OwnN w9 w7.heap.size g4 p4 n C := q9
            have hz := box_new w9 #[.int .i64 m, .slice (some ⟨bT, oT, none⟩) n kT, .slice (some ⟨bX, oX, none⟩) n kX, .slice (some ⟨g4, 0, none⟩) n p4] 25
            have q10 := q9'.keep (below_alloc (Below.refl w9.heap.size w9) (.cells #[.int .i64 m, .slice (some ⟨bT, oT, none⟩) n kT, .slice (some ⟨bX, oX, none⟩) n kX, .slice (some ⟨g4, 0, none⟩) n p4] 25))
            have B10 := below_alloc B9 (.cells #[.int .i64 m, .slice (some ⟨bT, oT, none⟩) n kT, .slice (some ⟨bX, oX, none⟩) n kX, .slice (some ⟨g4, 0, none⟩) n p4] 25)
            have hz1 := B9.size
            have hzg : w9.heap.size ≠ g4 := by have := q9'.rng.2; omega
            go_wp2
            go_meet
            case rel => exact ⟨w9.heap.size, g4, p4, rfl, hz, q10, hz1, hzg, B10⟩
          · have q9' : OwnN w9 w7.heap.size g4 p4 n C := q9
            have hzg : w7.heap.size + 1 ≠ g4 := by
              rcases at9 with h | h
              · have h' : (some (w7.heap.size) : Option Nat) = some g4 := h
                injection h' with h'
                omega
              · simp only [World.size_drew, World.size_alloc] at h
                omega
            have hz := (((hz9.set0 (.int .i64 m)).set1 (.slice (some ⟨bT, oT, none⟩) n kT)).set2 (.slice (some ⟨bX, oX, none⟩) n kX)).set3 (.slice (some ⟨g4, 0, none⟩) n p4)
            have q10 := (((q9'.far (p := ⟨w7.heap.size + 1, 0, none⟩) hzg (.int .i64 m)).far (p := ⟨w7.heap.size + 1, 1, none⟩) hzg (.slice (some ⟨bT, oT, none⟩) n kT)).far (p := ⟨w7.heap.size + 1, 2, none⟩) hzg (.slice (some ⟨bX, oX, none⟩) n kX)).far (p := ⟨w7.heap.size + 1, 3, none⟩) hzg (.slice (some ⟨g4, 0, none⟩) n p4)
            have B10 := below_set (below_set (below_set (below_set B9 (p := ⟨w7.heap.size + 1, 0, none⟩) hz1 (.int .i64 m)) (p := ⟨w7.heap.size + 1, 1, none⟩) hz1 (.slice (some ⟨bT, oT, none⟩) n kT)) (p := ⟨w7.heap.size + 1, 2, none⟩) hz1 (.slice (some ⟨bX, oX, none⟩) n kX)) (p := ⟨w7.heap.size + 1, 3, none⟩) hz1 (.slice (some ⟨g4, 0, none⟩) n p4)
            go_wp2
            go_meet
            case rel => exact ⟨w7.heap.size + 1, g4, p4, rfl, hz, q10, hz1, hzg, B10⟩
          · have q9' : OwnN w9 w7.heap.size g4 p4 n C := q9
            have hzg : w7.heap.size ≠ g4 := by
              rcases at9 with h | h
              · have h' : (some (w7.heap.size + 1) : Option Nat) = some g4 := h
                injection h' with h'
                omega
              · simp only [World.size_drew, World.size_alloc] at h
                omega
            have hz := (((hz9.set0 (.int .i64 m)).set1 (.slice (some ⟨bT, oT, none⟩) n kT)).set2 (.slice (some ⟨bX, oX, none⟩) n kX)).set3 (.slice (some ⟨g4, 0, none⟩) n p4)
            have q10 := (((q9'.far (p := ⟨w7.heap.size, 0, none⟩) hzg (.int .i64 m)).far (p := ⟨w7.heap.size, 1, none⟩) hzg (.slice (some ⟨bT, oT, none⟩) n kT)).far (p := ⟨w7.heap.size, 2, none⟩) hzg (.slice (some ⟨bX, oX, none⟩) n kX)).far (p := ⟨w7.heap.size, 3, none⟩) hzg (.slice (some ⟨g4, 0, none⟩) n p4)
            have B10 := below_set (below_set (below_set (below_set B9 (p := ⟨w7.heap.size, 0, none⟩) hz1 (.int .i64 m)) (p := ⟨w7.heap.size, 1, none⟩) hz1 (.slice (some ⟨bT, oT, none⟩) n kT)) (p := ⟨w7.heap.size, 2, none⟩) hz1 (.slice (some ⟨bX, oX, none⟩) n kX)) (p := ⟨w7.heap.size, 3, none⟩) hz1 (.slice (some ⟨g4, 0, none⟩) n p4)
            go_wp2
            go_meet
            case rel => exact ⟨w7.heap.size, g4, p4, rfl, hz, q10, hz1, hzg, B10⟩
        case rest =>
          obtain ⟨z, gC, pC, rfl, hz, oC, zB, zg, B8⟩ := hcut
          have rf8 := rf.keep B8
          have rH8 := rH7.keep B8
          have rG8 := rG7.keep B8
          have BW8 := below_below BW7 B8
          clear OE RC HKW rf rH7 rG7
          generalize wc = w8 at hz oC B8 rf8 rH8 rG8 BW8 ⊢
          have hmk : ∀ w : World, (Instr.makeSlice 22 (.int .i64 n) (.int .i64 n)).run Try.prog w = .ok (.slice (some ⟨w.heap.size, 0, none⟩) n n) (w.alloc (.cells (madeCells #[.int .i64 0] n) 3)) :=
            run_make_row' (P := Try.prog) 22 3 (.int .i64 0) 8 Try.underlying22 info3 rfl .i64 .i64 n (by omega) (by omega)
          have o9 := own_made w8 w8.heap.size n (Nat.le_refl _) (by omega)
          have B9 := below_alloc (Below.refl w8.heap.size w8) (.cells (madeCells #[.int .i64 0] n) 3)
          obtain ⟨gG, hgG⟩ : ∃ gG, w8.heap.size = gG := ⟨_, rfl⟩
          have hgl : w8.heap.size ≤ gG := by omega
          rw [show OwnN (w8.alloc (.cells (madeCells #[.int .i64 0] n) 3)) w8.heap.size w8.heap.size n n (List.replicate n 0) = OwnN (w8.alloc (.cells (madeCells #[.int .i64 0] n) 3)) w8.heap.size gG n n (List.replicate n 0) from by rw [hgG]] at o9
          go_upto_region 12 with fail
          generalize w8.alloc _ = w9 at o9 B9 ⊢
          clear hmk hgG
          have MD := Bx.mk (KB.out.mid GG.out)
          go_wp2
          go_loopg [19] (n + 1) (fun q y wr => ∃ (d : Nat) (Gs : List Int), y = .int .i64 d ∧ q = n + 1 - d ∧ d ≤ n ∧ OwnN wr w8.heap.size gG n n Gs ∧ Bx (∀ i : Int, 0 ≤ i → i < d → rd Gs i = rd f1 i + rd H (rd F i) - rd H (rd F (ot i)) ∧ rd Gs i ≤ 2147483648) ∧ Below w8.heap.size w8 wr)
          case atStart => exact ⟨0, _, rfl, by omega, by omega, o9, ⟨fun i i0 i1 => by omega⟩, B9⟩
          case round =>
            clear o9 B9
            obtain ⟨d, Gs, rfl, hq, hd, oG2, GR, BW⟩ := hrel
            by_cases hdn : d < n
            · have hdI : (d : Int) < n := by omega
              have ho := ot_rng d n (by omega) hdI GG.out.ev
              have ho0 := ho.1
              have ho1 := ho.2
              have hxor := xor_one d (by omega) (by omega)
              have fa := FR.out d (by omega) hdI
              have fb := FR.out (ot d) ho0 ho1
              have md := MD.out d (by omega) hdI
              have ha := HR.out (rd F d) fa.1 fa.2
              have hb := HR.out (rd F (ot d)) fb.1 fb.2
              have hS := Bx.mk (fun W (h : Below w8.heap.size w8 W) => (⟨(rf8.keep h).get d (by omega) hdI, (rG8.keep h).get d (by omega) hdI, (rG8.keep h).get (ot d) ho0 ho1, (rH8.keep h).get (rd F d) fa.1 fa.2, (rH8.keep h).get (rd F (ot d)) fb.1 fb.2⟩ : W.cell? ⟨g1, 0 + (d : Int).toNat, none⟩ = some (.int .i64 (rd f1 d)) ∧ W.cell? ⟨gF, oG + (d : Int).toNat, none⟩ = some (.int .i64 (rd F d)) ∧ W.cell? ⟨gF, oG + (ot d).toNat, none⟩ = some (.int .i64 (rd F (ot d))) ∧ W.cell? ⟨gH, 0 + (rd F d).toNat, none⟩ = some (.int .i64 (rd H (rd F d))) ∧ W.cell? ⟨gH, 0 + (rd F (ot d)).toNat, none⟩ = some (.int .i64 (rd H (rd F (ot d))))))
              have GX := Bx.mk (fun v (hv : v = rd f1 d + rd H (rd F d) - rd H (rd F (ot d))) (hv2 : v ≤ 2147483648) => (fun i i0 i1 => by
                rw [rd_st _ _ _ _ (by omega) (by rw [oG2.1]; exact hdI) i0]
                by_cases e : i = d
                · rw [if_pos e, e]; exact ⟨hv, hv2⟩
                · rw [if_neg e]; exact GR.out i i0 (by omega) : ∀ i : Int, 0 ≤ i → i < ((d + 1 : Nat) : Int) → rd (st Gs d v) i = rd f1 i + rd H (rd F i) - rd H (rd F (ot i)) ∧ rd (st Gs d v) i ≤ 2147483648))
              obtain ⟨x, hx⟩ : ∃ x, rd f1 d = x := ⟨_, rfl⟩
              obtain ⟨a1, ha1⟩ : ∃ x, rd F d = x := ⟨_, rfl⟩
              obtain ⟨a2, ha2⟩ : ∃ x, rd F (ot d) = x := ⟨_, rfl⟩
              rw [ha1] at fa ha hS GX
              rw [ha2] at fb hb hS GX
              obtain ⟨h1, hh1⟩ : ∃ x, rd H a1 = x := ⟨_, rfl⟩
              obtain ⟨h2, hh2⟩ : ∃ x, rd H a2 = x := ⟨_, rfl⟩
              rw [hh1] at ha hS GX
              rw [hh2] at hb hS GX
              rw [hx] at md hS GX
              simp only [Nat.zero_add, Int.toNat_natCast] at hS
              clear hx ha1 ha2 hh1 hh2 ho
              obtain ⟨fa0, fa1⟩ := fa
              obtain ⟨fb0, fb1⟩ := fb
              have i1 : IntKind.i64.wrap (x + h1) = x + h1 := IntWalk.i64_in _ (by omega)
              have i2 : IntKind.i64.wrap (x + h1 - h2) = x + h1 - h2 := IntWalk.i64_in _ (by omega)
              have cg := oG2.cell d (by omega) hdI
              have fg := oG2.fz d
              rw [Int.toNat_natCast] at cg fg
              have bD := below_below BW (Below.drew (Below.refl wr.heap.size wr))
              have o3 := (oG2.set d (x + h1 - h2)).keep (Below.drew (Below.refl _ _))
              have B3 := below_below (below_set BW (p := ⟨gG, d, none⟩) hgl (.int .i64 (x + h1 - h2))) (Below.drew (Below.refl _ _))
              rw [Int.toNat_natCast] at o3
              go_upto_region 15 with fail
              go_region_held_law (fun W => W.cell? ⟨g1, d, none⟩ = some (.int .i64 x) ∧ W.cell? ⟨gF, oG + d, none⟩ = some (.int .i64 a1) ∧ W.cell? ⟨gF, oG + (ot d).toNat, none⟩ = some (.int .i64 a2) ∧ W.cell? ⟨gH, a1.toNat, none⟩ = some (.int .i64 h1) ∧ W.cell? ⟨gH, a2.toNat, none⟩ = some (.int .i64 h2))
                (first | assumption | exact hS.out _ bD | exact hS.out _ B3)
                (fail)
              all_goals
                have GX2 := Bx.mk (fun hv2 => GX.out (x + h1 - h2) rfl hv2)
                have sv : rd (st Gs d (x + h1 - h2)) d = x + h1 - h2 := by rw [rd_st _ _ _ _ (by omega) (by rw [oG2.1]; exact hdI) (by omega), if_pos rfl]
                obtain ⟨v, hv⟩ : ∃ v, x + h1 - h2 = v := ⟨_, rfl⟩
                rw [hv] at o3 B3 GX2 sv
                try rw [hv]
                obtain ⟨G2, hG2⟩ : ∃ G2, st Gs d v = G2 := ⟨_, rfl⟩
                rw [hG2] at o3 sv GX2
                generalize (wr.setCell _ _).drew = w10 at o3 B3 ⊢
                have c0 := o3.cell d (by omega) hdI
                rw [sv, Int.toNat_natCast] at c0
                clear hv hG2 sv cg fg bD i1 i2 hxor GX hS oG2
                by_cases big : v > 2147483648
                · have e1 : decide (v > 2147483648) = true := decide_eq_true big
                  have hzr := hz.keep B3
                  have rz := HRS.out _ (below_below BW8 B3)
                  have oCr := oC.keep B3
                  have rfr := rf8.keep B3
                  have z0 : w10.cell? ⟨z, 0, none⟩ = some (.int .i64 m) := hzr.cell 0
                  have z1 : w10.cell? ⟨z, 1, none⟩ = some (.slice (some ⟨bT, oT, none⟩) n kT) := hzr.cell 1
                  have z2 : w10.cell? ⟨z, 2, none⟩ = some (.slice (some ⟨bX, oX, none⟩) n kX) := hzr.cell 2
                  have z3 : w10.cell? ⟨z, 3, none⟩ = some (.slice (some ⟨gC, 0, none⟩) n pC) := hzr.cell 3
                  go_upto_region 17 with fail
                  go_step
                  go_step
                  go_step
                  go_step
                  go_step
                  go_step
                  go_step
                  refine store4 (by rfl) (by rfl) (.tmp 8) (.tmp 122) (by rfl) b2 (by rfl) m (some ⟨bT, oT, none⟩) (some ⟨bX, oX, none⟩) (some ⟨gC, 0, none⟩) n kT n kX n pC (by rfl) _ _ _ _ 25 rz ?_
                  intro w11 hb1 hg1
                  clear z0 z1 z2 z3
                  (repeat (first | go_values | go_skip | go_step | go_upon))
                  have d0 : w11.cell? ⟨b2, 0, none⟩ = some (.int .i64 m) := hb1.cell 0
                  have d1 : w11.cell? ⟨b2, 1, none⟩ = some (.slice (some ⟨bT, oT, none⟩) n kT) := hb1.cell 1
                  have d2 : w11.cell? ⟨b2, 2, none⟩ = some (.slice (some ⟨bX, oX, none⟩) n kX) := hb1.cell 2
                  have d3 : w11.cell? ⟨b2, 3, none⟩ = some (.slice (some ⟨gC, 0, none⟩) n pC) := hb1.cell 3
                  try simp only [Exit.inBlock, Exit.then]
                  refine bodyPost_ret (v := .tuple #[.agg #[.int .i64 m, .slice (some ⟨bT, oT, none⟩) n kT, .slice (some ⟨bX, oX, none⟩) n kX, .slice (some ⟨gC, 0, none⟩) n pC], .slice (some ⟨g1, 0, none⟩) n n]) (by simp [results, Try.results9, go_sem, d0, d1, d2, d3]) rfl ?_
                  have n1 := oCr.rng.1
                  have n2' := BW7.size
                  exact ⟨gC, pC, g1, C, f1, rfl, GG.out, (oCr.grown hg1 (by simp; omega)).at', rfr.grown hg1 (by simp; omega), KB.out, by first | exact below_grown (HBW.out _ (below_below BW8 B3)) hg1 (fun k hk => by injection hk with hk; omega) | (rw [← hb0]; exact below_grown (HBW.out _ (below_below BW8 B3)) hg1 (fun k hk => by injection hk with hk; omega))⟩
                · have e1 : decide (v > 2147483648) = false := decide_eq_false big
                  have GR2 := Bx.mk (GX2.out (by omega))
                  go_wp2
                  go_roundg (n + 1 - (d + 1))
                  case rel => exact ⟨d + 1, _, rfl, rfl, by omega, o3, GR2, B3⟩
                  case measure => omega
            · have hdI : ¬ (d : Int) < n := by omega
              obtain rfl : n = d := by omega
              have rGs := oG2.at'
              have oCr := oC.keep BW
              have hzr := hz.keep BW
              have Br := below_below B8 BW
              have g1n : gG ≠ gC := by have := oC.rng.2; omega
              have g2n : gG ≠ z := by have := hz.lt; omega
              have hgC := oC.rng.1
              have lG := oG2.1
              clear oG2 BW oC hz
              go_wp2
              go_loopg [20] (n + 1) (fun q y wr => ∃ (d : Nat) (Cs : List Int), y = .int .i64 d ∧ q = n + 1 - d ∧ d ≤ n ∧ OwnN wr w7.heap.size gC pC n Cs ∧ Bx (∀ i : Int, 0 ≤ i → i < n → rd Cs i = if i < d then max (rd C i) (rd Gs i) else rd C i) ∧ BoxN wr z #[.int .i64 m, .slice (some ⟨bT, oT, none⟩) n kT, .slice (some ⟨bX, oX, none⟩) n kX, .slice (some ⟨gC, 0, none⟩) n pC] 25 ∧ RowAt wr gG 0 n Gs ∧ Below w7.heap.size w7 wr)
              case atStart => exact ⟨0, C, rfl, by omega, by omega, oCr, ⟨fun i i0 i1 => by rw [if_neg (by omega)]⟩, hzr, rGs, Br⟩
              case round =>
                clear oCr hzr rGs Br
                obtain ⟨d, Cs, rfl, hq, hd, oCr, CR, hzr, rGs, Br⟩ := hrel
                by_cases hdn : d < n
                · have hdI : (d : Int) < n := by omega
                  have c1 := oCr.cell d (by omega) hdI
                  have c2 := rGs.get d (by omega) hdI
                  have fc := oCr.fz d
                  rw [Int.toNat_natCast] at c1 c2 fc
                  rw [Nat.zero_add] at c2
                  have cz : wr.cell? ⟨z, 3, none⟩ = some (.slice (some ⟨gC, 0, none⟩) n pC) := hzr.cell 3
                  have CX := Bx.mk (show ∀ i : Int, 0 ≤ i → i < n → rd (st Cs d (max (rd Cs d) (rd Gs d))) i = if i < ((d + 1 : Nat) : Int) then max (rd C i) (rd Gs i) else rd C i from fun i i0 i1 => by
                    rw [rd_st _ _ _ _ (by omega) (by rw [oCr.1]; exact hdI) i0]
                    by_cases e : i = d
                    · rw [if_pos e, if_pos (by omega), e, CR.out d (by omega) hdI, if_neg (by omega)]
                    · rw [if_neg e, CR.out i i0 i1]
                      by_cases e2 : i < (d : Int)
                      · rw [if_pos e2, if_pos (by omega)]
                      · rw [if_neg e2, if_neg (by omega)])
                  obtain ⟨x, hx⟩ : ∃ x, rd Cs d = x := ⟨_, rfl⟩
                  obtain ⟨y, hy⟩ : ∃ y, rd Gs d = y := ⟨_, rfl⟩
                  rw [hx] at c1 CX
                  rw [hy] at c2 CX
                  have HC := Bx.mk (fun W (h : Below wr.heap.size wr W) => (⟨h, (hzr.keep h).cell 3, by have := (oCr.keep h).cell d (by omega) hdI; rw [hx, Int.toNat_natCast] at this; exact this, by have := (rGs.keep h).get d (by omega) hdI; rw [hy, Int.toNat_natCast, Nat.zero_add] at this; exact this, by have := (oCr.keep h).fz d; rw [Int.toNat_natCast] at this; exact this⟩ : Below wr.heap.size wr W ∧ W.cell? ⟨z, 3, none⟩ = some (.slice (some ⟨gC, 0, none⟩) n pC) ∧ W.cell? ⟨gC, d, none⟩ = some (.int .i64 x) ∧ W.cell? ⟨gG, d, none⟩ = some (.int .i64 y) ∧ W.frozen? ⟨gC, d, none⟩ = false))
                  clear c1 c2 fc cz hx hy
                  rcases Int.lt_or_le x y with hmin | hmin
                  all_goals
                    go_upto_region 21 with fail
                    refine wp_region_L (C := fun W => Below wr.heap.size wr W ∧ W.cell? ⟨z, 3, none⟩ = some (.slice (some ⟨gC, 0, none⟩) n pC) ∧ W.cell? ⟨gC, d, none⟩ = some (.int .i64 x) ∧ W.cell? ⟨gG, d, none⟩ = some (.int .i64 y) ∧ W.frozen? ⟨gC, d, none⟩ = false) (s := 14) (by kernel_rfl) (HC.out _ (Below.drew (Below.refl _ _))) (fun hHeld => ?_)
                    refine L_take' (i := 0) (v := ?_) rfl (by kernel_rfl) (by kernel_rfl) (by kernel_rfl) (by kernel_rfl) (fun _ _ _ h => h) (Or.inl ⟨by rfl, ?_⟩) (fun _ => hHeld) ?_
                    rotate_left
                    · intro w hSw
                      (try dsimp only at hSw)
                      go_simp
                      all_goals with_reducible rfl
                    try simp only [Act.put, List.setIfInBounds_toArray, List.set_cons_zero, List.set_cons_succ]
                    refine L_take (i := 1) (v := ?_) rfl (by kernel_rfl) (by kernel_rfl) (by kernel_rfl) (by kernel_rfl) (by kernel_rfl) (by kernel_rfl) (fun _ _ _ h => h) (Or.inl ⟨by rfl, ?_⟩) hHeld ?_
                    rotate_left
                    · intro w hSw
                      (try dsimp only at hSw)
                      go_simp
                      all_goals with_reducible rfl
                    try simp only [Act.put, List.setIfInBounds_toArray, List.set_cons_zero, List.set_cons_succ]
                    refine L_take' (i := 2) (v := ?_) rfl (by kernel_rfl) (by kernel_rfl) (by kernel_rfl) (by kernel_rfl) (fun _ _ _ h => h) (Or.inl ⟨by rfl, ?_⟩) (fun _ => hHeld) ?_
                    rotate_left
                    · intro w hSw
                      (try dsimp only at hSw)
                      go_simp
                      all_goals with_reducible rfl
                    try simp only [Act.put, List.setIfInBounds_toArray, List.set_cons_zero, List.set_cons_succ]
                    refine L_take' (i := 3) (v := ?_) rfl (by kernel_rfl) (by kernel_rfl) (by kernel_rfl) (by kernel_rfl) (fun _ _ _ h => h) (Or.inl ⟨by rfl, ?_⟩) (fun _ => hHeld) ?_
                    rotate_left
                    · intro w hSw
                      (try dsimp only at hSw)
                      go_simp
                      all_goals with_reducible rfl
                    try simp only [Act.put, List.setIfInBounds_toArray, List.set_cons_zero, List.set_cons_succ]
                    refine L_take (i := 4) (v := ?_) rfl (by kernel_rfl) (by kernel_rfl) (by kernel_rfl) (by kernel_rfl) (by kernel_rfl) (by kernel_rfl) (fun _ _ _ h => h) (Or.inl ⟨by rfl, ?_⟩) hHeld ?_
                    rotate_left
                    · intro w hSw
                      (try dsimp only at hSw)
                      go_simp
                      all_goals with_reducible rfl
                    try simp only [Act.put, List.setIfInBounds_toArray, List.set_cons_zero, List.set_cons_succ]
                    refine L_take' (i := 5) (v := ?_) rfl (by kernel_rfl) (by kernel_rfl) (by kernel_rfl) (by kernel_rfl) (fun _ _ _ h => h) (Or.inl ⟨by rfl, ?_⟩) (fun _ => hHeld) ?_
                    rotate_left
                    · intro w hSw
                      (try dsimp only at hSw)
                      go_simp
                      all_goals with_reducible rfl
                    try simp only [Act.put, List.setIfInBounds_toArray, List.set_cons_zero, List.set_cons_succ]
                    refine L_take' (i := 6) (v := ?_) rfl (by kernel_rfl) (by kernel_rfl) (by kernel_rfl) (by kernel_rfl) (fun _ _ _ h => h) (Or.inl ⟨by rfl, ?_⟩) (fun _ => hHeld) ?_
                    rotate_left
                    · intro w hSw
                      (try dsimp only at hSw)
                      go_simp
                      all_goals with_reducible rfl
                    try simp only [Act.put, List.setIfInBounds_toArray, List.set_cons_zero, List.set_cons_succ]
                    refine L_take (i := 7) (v := ?_) rfl (by kernel_rfl) (by kernel_rfl) (by kernel_rfl) (by kernel_rfl) (by kernel_rfl) (by kernel_rfl) (fun _ _ _ h => h) (Or.inl ⟨by rfl, ?_⟩) hHeld ?_
                    rotate_left
                    · intro w hSw
                      (try dsimp only at hSw)
                      go_simp
                      all_goals with_reducible rfl
                    try simp only [Act.put, List.setIfInBounds_toArray, List.set_cons_zero, List.set_cons_succ]
                    refine L_take' (i := 8) (v := ?_) rfl (by kernel_rfl) (by kernel_rfl) (by kernel_rfl) (by kernel_rfl) (fun _ _ _ h => h) (Or.inl ⟨by rfl, ?_⟩) (fun _ => hHeld) ?_
                    rotate_left
                    · intro w hSw
                      (try dsimp only at hSw)
                      go_simp
                      all_goals with_reducible rfl
                    try simp only [Act.put, List.setIfInBounds_toArray, List.set_cons_zero, List.set_cons_succ]
                    refine L_take' (i := 9) (v := ?_) rfl (by kernel_rfl) (by kernel_rfl) (by kernel_rfl) (by kernel_rfl) (fun _ _ _ h => h) (Or.inl ⟨by rfl, ?_⟩) (fun _ => hHeld) ?_
                    rotate_left
                    · intro w hSw
                      (try dsimp only at hSw)
                      go_simp
                      all_goals with_reducible rfl
                    try simp only [Act.put, List.setIfInBounds_toArray, List.set_cons_zero, List.set_cons_succ]
                    refine L_take' (i := 10) (v := ?_) rfl (by kernel_rfl) (by kernel_rfl) (by kernel_rfl) (by kernel_rfl) (fun _ _ _ h => h) (Or.inl ⟨by rfl, ?_⟩) (fun _ => hHeld) ?_
                    rotate_left
                    · intro w hSw
                      (try dsimp only at hSw)
                      go_simp
                      all_goals with_reducible rfl
                    try simp only [Act.put, List.setIfInBounds_toArray, List.set_cons_zero, List.set_cons_succ]
                    refine L_take (i := 11) (v := ?_) rfl (by kernel_rfl) (by kernel_rfl) (by kernel_rfl) (by kernel_rfl) (by kernel_rfl) (by kernel_rfl) (fun _ _ _ h => h) (Or.inl ⟨by rfl, ?_⟩) hHeld ?_
                    rotate_left
                    · intro w hSw
                      (try dsimp only at hSw)
                      go_simp
                      all_goals with_reducible rfl
                    try simp only [Act.put, List.setIfInBounds_toArray, List.set_cons_zero, List.set_cons_succ]
                    refine L_take' (i := 12) (v := ?_) rfl (by kernel_rfl) (by kernel_rfl) (by kernel_rfl) (by kernel_rfl) (fun _ _ _ h => h) (Or.inl ⟨by rfl, ?_⟩) (fun _ => hHeld) ?_
                    rotate_left
                    · intro w hSw
                      (try dsimp only at hSw)
                      go_simp
                      all_goals with_reducible rfl
                    try simp only [Act.put, List.setIfInBounds_toArray, List.set_cons_zero, List.set_cons_succ]
                    refine L_take' (i := 13) (v := ?_) rfl (by kernel_rfl) (by kernel_rfl) (by kernel_rfl) (by kernel_rfl) (fun _ _ _ h => h) (Or.inl ⟨by rfl, ?_⟩) (fun _ => hHeld) ?_
                    rotate_left
                    · intro w hSw
                      (try dsimp only at hSw)
                      go_simp
                      all_goals with_reducible rfl
                    try simp only [Act.put, List.setIfInBounds_toArray, List.set_cons_zero, List.set_cons_succ]
                    have BH := hHeld.1
                    obtain ⟨_, _, cD, _, fD⟩ := hHeld
                    refine L_ready (rs := [14]) (by kernel_rfl) (by simp) ?_
                    refine ReadyL.cons' rfl (by kernel_rfl) (fun K hK => ?_) ReadyL.nil
                    go_simp
                    refine hK.out _ _ ?_
                    clear hK K
                    try simp only [Act.put, List.setIfInBounds_toArray, List.set_cons_zero, List.set_cons_succ]
                    refine L_done (by kernel_rfl) ?_ _
                    clear cD fD
                    go_wp2_with fail
                    go_roundg (n + 1 - (d + 1))
                    case rel => first
                      | exact ⟨d + 1, _, rfl, rfl, by omega, (oCr.keep BH).set d y, ⟨by have e := CX.out; rw [show max x y = y from by omega] at e; exact e⟩, (hzr.keep BH).far (p := ⟨gC, (d : Int).toNat, none⟩) (by show gC ≠ z; omega) (.int .i64 y), (rGs.keep BH).far (p := ⟨gC, (d : Int).toNat, none⟩) (by show gC ≠ gG; omega) (.int .i64 y), below_set (below_below Br BH) (p := ⟨gC, (d : Int).toNat, none⟩) hgC (.int .i64 y)⟩
                      | exact ⟨d + 1, _, rfl, rfl, by omega, (oCr.keep BH).set d x, ⟨by have e := CX.out; rw [show max x y = x from by omega] at e; exact e⟩, (hzr.keep BH).far (p := ⟨gC, (d : Int).toNat, none⟩) (by show gC ≠ z; omega) (.int .i64 x), (rGs.keep BH).far (p := ⟨gC, (d : Int).toNat, none⟩) (by show gC ≠ gG; omega) (.int .i64 x), below_set (below_below Br BH) (p := ⟨gC, (d : Int).toNat, none⟩) hgC (.int .i64 x)⟩
                    case measure => omega
                · have hdI : ¬ (d : Int) < n := by omega
                  obtain rfl : n = d := by omega
                  have rz := HRS.out _ (below_below BW7 Br)
                  obtain ⟨P1, P2⟩ := fall_flow (H := H) GG.out KB.out lG (fun i i0 i1 => by rw [FB.out]; exact GR.out i i0 i1) oCr.1 (fun i i0 i1 => by rw [CR.out i i0 i1, if_pos i1])
                  have P1 := Bx.mk P1
                  have P2 := Bx.mk P2
                  have z0 : wr.cell? ⟨z, 0, none⟩ = some (.int .i64 m) := hzr.cell 0
                  have z1 : wr.cell? ⟨z, 1, none⟩ = some (.slice (some ⟨bT, oT, none⟩) n kT) := hzr.cell 1
                  have z2 : wr.cell? ⟨z, 2, none⟩ = some (.slice (some ⟨bX, oX, none⟩) n kX) := hzr.cell 2
                  have z3 : wr.cell? ⟨z, 3, none⟩ = some (.slice (some ⟨gC, 0, none⟩) n pC) := hzr.cell 3
                  go_upto_region 22 with fail
                  go_step
                  go_step
                  go_step
                  go_step
                  go_step
                  go_step
                  go_step
                  refine store4 (by rfl) (by rfl) (.tmp 8) (.tmp 144) (by rfl) b2 (by rfl) m (some ⟨bT, oT, none⟩) (some ⟨bX, oX, none⟩) (some ⟨gC, 0, none⟩) n kT n kX n pC (by rfl) _ _ _ _ 25 rz ?_
                  intro w11 hb1 hg1
                  clear z0 z1 z2 z3
                  (repeat (first | go_values | go_skip | go_step | go_upon))
                  have d0 : w11.cell? ⟨b2, 0, none⟩ = some (.int .i64 m) := hb1.cell 0
                  have d1 : w11.cell? ⟨b2, 1, none⟩ = some (.slice (some ⟨bT, oT, none⟩) n kT) := hb1.cell 1
                  have d2 : w11.cell? ⟨b2, 2, none⟩ = some (.slice (some ⟨bX, oX, none⟩) n kX) := hb1.cell 2
                  have d3 : w11.cell? ⟨b2, 3, none⟩ = some (.slice (some ⟨gC, 0, none⟩) n pC) := hb1.cell 3
                  try simp only [Exit.inBlock, Exit.then]
                  refine bodyPost_ret (v := .tuple #[.agg #[.int .i64 m, .slice (some ⟨bT, oT, none⟩) n kT, .slice (some ⟨bX, oX, none⟩) n kX, .slice (some ⟨gC, 0, none⟩) n pC], .slice (some ⟨gG, 0, none⟩) n n]) (by simp [results, Try.results9, go_sem, d0, d1, d2, d3]) rfl ?_
                  have n2' := BW7.size
                  have n3 := B8.size
                  exact ⟨gC, pC, gG, Cs, Gs, rfl, P1.out, (oCr.grown hg1 (by simp; omega)).at', rGs.grown hg1 (by simp; omega), P2.out, by first | exact below_grown (HBW.out _ (below_below BW7 Br)) hg1 (fun k hk => by injection hk with hk; omega) | (rw [← hb0]; exact below_grown (HBW.out _ (below_below BW7 Br)) hg1 (fun k hk => by injection hk with hk; omega))⟩
end

theorem plane_net8 (a : Option Addr) (cap : Nat) (zs : List Int) (w : World) (hz : RowOf w a zs) :
    Calls Try.prog 7 #[.slice a zs.length cap] w fun r w' => ∃ (m : Nat) (aT aX aC : Option Addr) (cT cX cC : Nat), (planeOf zs).N = m ∧ r = .returned (.agg #[.int .i64 m, .slice aT (planeOf zs).T.length cT, .slice aX (planeOf zs).X.length cX, .slice aC (planeOf zs).C.length cC]) ∧ RowOf w' aT (planeOf zs).T ∧ RowOf w' aX (planeOf zs).X ∧ RowOf w' aC (planeOf zs).C ∧ Below w.heap.size w w' := by
  refine (plane_any a cap zs w hz).mono ?_
  rintro e w' ⟨vT, vX, vC, rfl, hT, hX, hC, hB⟩
  obtain ⟨aT, cT, rfl, rT⟩ := hT.row
  obtain ⟨aX, cX, rfl, rX⟩ := hX.row
  obtain ⟨aC, cC, rfl, rC⟩ := hC.row
  obtain ⟨F, l48, n25, CN⟩ := plane_facts zs
  have h0 : (0 : Int) ≤ (planeOf zs).N := by have := F.n1; omega
  exact ⟨(planeOf zs).N.toNat, aT, aX, aC, cT, cX, cC, by omega, by rw [Int.toNat_of_nonneg h0], rT, rX, rC, hB⟩

set_option maxHeartbeats 6400000 in
set_option maxRecDepth 100000 in
theorem cuts_walk (a : Option Addr) (cap : Nat) (zs : List Int) (s t : Int) (aM : Option Addr) (lm cM : Nat) (ms : List Int) (aH : Option Addr) (lh cH : Nat) (hs : List Int) (w : World) (hz : RowOf w a zs) (hM : RowOf w aM ms) (lM : ms.length = lm) (hH : RowOf w aH hs) (lH : hs.length = lh) :
    Calls Try.prog 3 #[.slice a zs.length cap, .int .i64 s, .int .i64 t, .slice aM lm cM, .slice aH lh cH] w fun e w' => e = .returned (.bool true) ∧ Below w.heap.size w w' := by
  go_enter Try.func3, Try.ntmps3
  go_wp2_with fail
  refine (known_any _).mono ?_
  rintro e w1 ⟨rfl, hB1⟩
  go_wp2_with fail
  refine (plane_net8 a cap zs w1 (hz.keep hB1)).mono ?_
  rintro e w2 ⟨m, aT, aX, aC, cT, cX, cC, hm, rfl, rT, rX, rC, hB2⟩
  have hB12 := below_below hB1 hB2
  have GP := Bx.mk (fun h2 : 2 ≤ m => good_plane zs hm h2)
  obtain ⟨P, hP⟩ : ∃ P, P = planeOf zs := ⟨_, rfl⟩
  rw [← hP] at rT rX rC GP ⊢
  have rM2 := hM.keep hB12
  have rH2 := hH.keep hB12
  have ML := Bx.mk (And.intro lM lH)
  clear hP hm hB1 hB2 hz hM hH lM lH
  obtain ⟨lT, hT⟩ : ∃ l, P.T.length = l := ⟨_, rfl⟩
  obtain ⟨lX, hX⟩ : ∃ l, P.X.length = l := ⟨_, rfl⟩
  obtain ⟨lC, hC⟩ : ∃ l, P.C.length = l := ⟨_, rfl⟩
  have HL := Bx.mk (And.intro hT (And.intro hX hC))
  rw [hT, hX, hC]
  clear hT hX hC
  have hb := box_new w2 #[.int .i64 m, .slice aT lT cT, .slice aX lX cX, .slice aC lC cC] 25
  have hB3 := below_alloc hB12 (.cells #[.int .i64 m, .slice aT lT cT, .slice aX lX cX, .slice aC lC cC] 25)
  have hk := below_alloc (Below.refl w2.heap.size w2) (.cells #[.int .i64 m, .slice aT lT cT, .slice aX lX cX, .slice aC lC cC] 25)
  have rT3 := rT.keep hk
  have rX3 := rX.keep hk
  have rC3 := rC.keep hk
  have rM3 := rM2.keep hk
  have rH3 := rH2.keep hk
  go_upto_region 4 with fail
  generalize w2.alloc _ = wa at hb hB3 rT3 rX3 rC3 rM3 rH3 ⊢
  generalize w2.heap.size = b at hb ⊢
  clear rT rX rC hk hB12 rM2 rH2
  by_cases h2 : (m : Int) < 2
  · have k0 := hb.cell 0
    have k1 := hb.cell 1
    have k2 := hb.cell 2
    have k3 := hb.cell 3
    simp only [List.getElem?_toArray, List.getElem?_cons_zero, List.getElem?_cons_succ] at k0 k1 k2 k3
    have S1 := fun W => two_no (w := W) (aT := aT) (aX := aX) (aC := aC) (lT := lT) (lX := lX) (lC := lC) (kT := cT) (kX := cX) (kC := cC) (m : Int) s t h2
    go_wp2_with fail
    refine (S1 _).mono ?_
    rintro e w4 ⟨rfl, B4⟩
    clear k0 k1 k2 k3
    go_wp2
    go_ret
    exact ⟨rfl, below_below hB3 B4⟩
  obtain ⟨G, l48, m25⟩ := GP.out (by omega)
  obtain ⟨q1, q2, q3⟩ := HL.out
  obtain rfl : lX = lT := by have := G.lX; omega
  obtain rfl : lC = lX := by have := G.lC; omega
  rw [q1] at G l48
  have n2 := G.n2
  obtain ⟨bT, oT, rfl, RT⟩ := rT3.at' q1 (by omega)
  obtain ⟨bX, oX, rfl, RX⟩ := rX3.at' q2 (by omega)
  obtain ⟨bC, oC, rfl, RC⟩ := rC3.at' q3 (by omega)
  have HR := Bx.mk (fun W (h : Below wa.heap.size wa W) => (⟨RT.keep h, RX.keep h, RC.keep h⟩ : Rows3 W lC bT oT bX oX bC oC P.T P.X P.C))
  have HB := Bx.mk hB3
  have HK := Bx.mk (fun W (h : Below wa.heap.size wa W) => (⟨(hb.keep h).cell 0, (hb.keep h).cell 1, (hb.keep h).cell 2, (hb.keep h).cell 3⟩ : W.cell? ⟨b, 0, none⟩ = some (.int .i64 m) ∧ W.cell? ⟨b, 1, none⟩ = some (.slice (some ⟨bT, oT, none⟩) lC cT) ∧ W.cell? ⟨b, 2, none⟩ = some (.slice (some ⟨bX, oX, none⟩) lC cX) ∧ W.cell? ⟨b, 3, none⟩ = some (.slice (some ⟨bC, oC, none⟩) lC cC)))
  have GG := Bx.mk G
  clear HL GP rT3 rX3 rC3 RT RX RC hb hB3 q1 q2 q3 G
  generalize P.T = T at HR GG
  generalize P.X = X at HR GG
  generalize P.C = C at HR GG
  clear P
  generalize lC = n at HR HK GG n2 l48 ⊢
  obtain ⟨x0, x1, y0, y1, hxy⟩ := two_rng (N := (m : Int)) (s := s) (t := t) (by omega)
  have S1 := fun W => two_yes (w := W) (aT := some ⟨bT, oT, none⟩) (aX := some ⟨bX, oX, none⟩) (aC := some ⟨bC, oC, none⟩) (lT := n) (lX := n) (lC := n) (kT := cT) (kX := cX) (kC := cC) (m : Int) s t (by omega) (by omega)
  obtain ⟨x, hx⟩ : ∃ x, wi s (m : Int) = x := ⟨_, rfl⟩
  obtain ⟨y, hy⟩ : ∃ y, twoB (m : Int) s t = y := ⟨_, rfl⟩
  rw [hx] at S1 x0 x1 hxy
  rw [hy] at S1 y0 y1 hxy
  clear hx hy
  obtain ⟨k0, k1, k2, k3⟩ := HK.out _ (Below.refl _ _)
  go_wp2_with fail
  refine (S1 _).mono ?_
  rintro e w4 ⟨rfl, B4⟩
  clear k0 k1 k2 k3 S1
  obtain ⟨k0, k1, k2, k3⟩ := HK.out _ B4
  have m60 := GG.out.m60
  have m1 := GG.out.m1
  have S1 := lflow_any (kT := cT) (kX := cX) (kC := cC) (cM := cH) GG.out (HR.out _ B4) x y x0 x1 y0 y1 hxy (rH3.keep B4) ML.out.2
  go_wp2_with fail
  refine S1.mono ?_
  rintro e w5 ⟨gC, pC, gG, C', g, rfl, G2, rC5, rg5, K2, B5⟩
  clear S1 k0 k1 k2 k3 rH3
  have BW := below_below B4 B5
  have kk := below_alloc (Below.refl w5.heap.size w5) (.cells #[.int .i64 m, .slice (some ⟨bT, oT, none⟩) n cT, .slice (some ⟨bX, oX, none⟩) n cX, .slice (some ⟨gC, 0, none⟩) n pC] 25)
  have B6 := below_alloc BW (.cells #[.int .i64 m, .slice (some ⟨bT, oT, none⟩) n cT, .slice (some ⟨bX, oX, none⟩) n cX, .slice (some ⟨gC, 0, none⟩) n pC] 25)
  have hz := box_new w5 #[.int .i64 m, .slice (some ⟨bT, oT, none⟩) n cT, .slice (some ⟨bX, oX, none⟩) n cX, .slice (some ⟨gC, 0, none⟩) n pC] 25
  have rC6 := rC5.keep kk
  have rg6 := rg5.keep kk
  have KB := Bx.mk K2
  have GB := Bx.mk G2
  clear B4 B5 BW rC5 rg5 kk K2 G2
  go_upto_region 8 with fail
  go_simp
  go_upto_region 8 with fail
  generalize w5.alloc _ = w6 at B6 hz rC6 rg6 ⊢
  generalize w5.heap.size = z at hz ⊢
  have HZ := Bx.mk (fun W (h : Below w6.heap.size w6 W) => (⟨(hz.keep h).cell 0, (hz.keep h).cell 1, (hz.keep h).cell 2, (hz.keep h).cell 3⟩ : W.cell? ⟨z, 0, none⟩ = some (.int .i64 m) ∧ W.cell? ⟨z, 1, none⟩ = some (.slice (some ⟨bT, oT, none⟩) n cT) ∧ W.cell? ⟨z, 2, none⟩ = some (.slice (some ⟨bX, oX, none⟩) n cX) ∧ W.cell? ⟨z, 3, none⟩ = some (.slice (some ⟨gC, 0, none⟩) n pC)))
  have R2 := Bx.mk (fun W (h : Below w6.heap.size w6 W) => (⟨(HR.out _ (below_below B6 h)).T, (HR.out _ (below_below B6 h)).X, rC6.keep h⟩ : Rows3 W n bT oT bX oX gC 0 T X C'))
  have HG := Bx.mk (fun W (h : Below w6.heap.size w6 W) => rg6.keep h)
  have HF := Bx.mk (below_below HB.out B6)
  obtain ⟨k0, k1, k2, k3⟩ := HK.out _ B6
  have S1 := side_any (n := n) (bT := bT) (oT := oT) (bX := bX) (oX := oX) (bC := bC) (oC := oC) (kT := cT) (kX := cX) (kC := cC) (m := m) (cM := cM) m1 m60 (rM3.keep B6) ML.out.1
  clear hz rC6 rg6
  go_wp2_with fail
  refine S1.mono ?_
  rintro e w7 ⟨gI, I, rfl, oI, B7⟩
  clear S1 k0 k1 k2 k3 rM3
  have gIb := oI.rng.1
  have c1 := oI.cell x x0 x1
  have f1 := oI.fz x
  have o2 := oI.set x true
  have c2 := o2.cell y y0 y1
  have f2 := o2.fz y
  have o3 := o2.set y false
  have IX : rb (sb (sb I x true) y false) x = true := by
    rw [rb_sb _ _ _ _ y0 (by rw [sb_length, oI.1]; exact y1) x0, if_neg hxy, rb_sb _ _ _ _ x0 (by rw [oI.1]; exact x1) x0, if_pos rfl]
  have IY : rb (sb (sb I x true) y false) y = false := by
    rw [rb_sb _ _ _ _ y0 (by rw [sb_length, oI.1]; exact y1) y0, if_pos rfl]
  have B8 := below_set (below_set B7 (p := ⟨gI, x.toNat, none⟩) gIb (.bool true)) (p := ⟨gI, y.toNat, none⟩) gIb (.bool false)
  go_upto_region 10 with fail
  obtain ⟨J, hJ⟩ : ∃ J, sb (sb I x true) y false = J := ⟨_, rfl⟩
  rw [hJ] at o3 IX IY
  generalize (w7.setCell _ _).setCell _ _ = w8 at o3 B8 ⊢
  clear hJ c1 f1 c2 f2 o2 oI B7
  have rJ := o3.at'
  have WK := Bx.mk (KB.out.weak (inb := J) GB.out x0 x1 IX IY)
  have VA := fun W (h : Below w8.heap.size w8 W) => value_any (kT := cT) (kX := cX) (kC := pC) (kF := n) GB.out (R2.out W (below_below B8 h)) (HG.out W (below_below B8 h)) (KB.out.mid GB.out) x
  have SU := fun W (h : Below w8.heap.size w8 W) => sum_any (kT := cT) (kX := cX) (kC := pC) (kF := m) GB.out (R2.out W (below_below B8 h)) (rJ.keep h)
  have BO := fun W (h : Below w8.heap.size w8 W) => both_any (kT := cT) (kX := cX) (kC := pC) (kF := n) (kI := m) GB.out (R2.out W (below_below B8 h)) (HG.out W (below_below B8 h)) (rJ.keep h) x y x0 x1 y0 y1 hxy KB.out IX IY
  have FC := fun W (h : Below w8.heap.size w8 W) => flow_check (kT := cT) (kX := cX) (kC := pC) (kF := n) GB.out (R2.out W (below_below B8 h)) (HG.out W (below_below B8 h)) x y x0 x1 y0 y1 hxy KB.out
  obtain ⟨v, hv⟩ : ∃ v, valF T g x n = v := ⟨_, rfl⟩
  obtain ⟨c, hc⟩ : ∃ c, cutSum T C' J n = c := ⟨_, rfl⟩
  rw [hv] at VA BO WK
  rw [hc] at SU BO WK
  clear hv hc
  have HKW := Bx.mk (fun W (h : Below w8.heap.size w8 W) => (⟨h, HZ.out W (below_below B8 h)⟩ : Below w8.heap.size w8 W ∧ W.cell? ⟨z, 0, none⟩ = some (.int .i64 m) ∧ W.cell? ⟨z, 1, none⟩ = some (.slice (some ⟨bT, oT, none⟩) n cT) ∧ W.cell? ⟨z, 2, none⟩ = some (.slice (some ⟨bX, oX, none⟩) n cX) ∧ W.cell? ⟨z, 3, none⟩ = some (.slice (some ⟨gC, 0, none⟩) n pC)))
  go_region_held_law (fun W => Below w8.heap.size w8 W ∧ W.cell? ⟨z, 0, none⟩ = some (.int .i64 m) ∧ W.cell? ⟨z, 1, none⟩ = some (.slice (some ⟨bT, oT, none⟩) n cT) ∧ W.cell? ⟨z, 2, none⟩ = some (.slice (some ⟨bX, oX, none⟩) n cX) ∧ W.cell? ⟨z, 3, none⟩ = some (.slice (some ⟨gC, 0, none⟩) n pC))
    (first | assumption | exact HKW.out _ (Below.drew (Below.refl _ _)) | exact HKW.out _ D1 | exact HKW.out _ D2)
    (first
      | (go_at_call 11; (with_reducible refine (VA _ (And.left ‹_ ∧ _›)).mono ?_); rintro e W1 ⟨rfl, D1'⟩; have D1 := below_below (And.left ‹_ ∧ _›) D1')
      | (go_at_call 12; (with_reducible refine (SU _ (And.left ‹_ ∧ _›)).mono ?_); rintro e W2 ⟨rfl, D2'⟩; have D2 := below_below (And.left ‹_ ∧ _›) D2'))
  all_goals
    have D3 := D2
    clear D1' D2' D1 D2 VA SU
    obtain ⟨k0, k1, k2, k3⟩ := (HKW.out _ D3).2
    have S1 := BO _ D3
    clear BO
    go_wp2_with fail
    refine S1.mono ?_
    rintro e W5 ⟨rfl, B9⟩
    clear S1 k0 k1 k2 k3
    have D4 := below_below D3 B9
    clear D3 B9
    obtain ⟨k0, k1, k2, k3⟩ := (HKW.out _ D4).2
    have S1 := FC _ D4
    clear FC
    have lw : decide (v ≤ c) = true := decide_eq_true WK.out
    have BF := Bx.mk (fun W (h : Below w8.heap.size w8 W) => below_below HF.out (below_below B8 h))
    by_cases hvc : v = c
    · rw [if_pos hvc]
      have e1 : (v == c) = true := by simpa using hvc
      clear hvc
      go_wp2_with fail
      refine S1.mono ?_
      rintro e W6 ⟨rfl, B10⟩
      clear S1 k0 k1 k2 k3
      have BB := BF.out _ (below_below D4 B10)
      go_wp2
      go_ret
      exact ⟨rfl, BB⟩
    · rw [if_neg hvc]
      have e1 : (v == c) = false := by simpa using hvc
      clear hvc
      go_wp2_with fail
      refine S1.mono ?_
      rintro e W6 ⟨rfl, B10⟩
      clear S1 k0 k1 k2 k3
      have BB := BF.out _ (below_below D4 B10)
      go_wp2
      go_ret
      exact ⟨rfl, BB⟩
end Go.Proofs.Ytidcofjadlfahaa
