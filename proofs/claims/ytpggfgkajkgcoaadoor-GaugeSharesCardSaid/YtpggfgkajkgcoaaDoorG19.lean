/- What a grown net's darts hold; the walk of Some. -/
import Derived.Test.YtpggfgkajkgcoaaDoorG18
import Derived.Test.YtpggfgkajkgcoaaDoorPl
import Derived.Deep.RegionHeldLaw
set_option linter.unusedVariables false
set_option linter.unusedSimpArgs false
namespace Go.Proofs.YtpggfgkajkgcoaaDoor
open Go.RowKit

theorem OwnN.low {w : World} {B B' g cap n : Nat} {xs : List Int} (h : OwnN w B g cap n xs) (hB : B' ≤ B) : OwnN w B' g cap n xs := by
  refine ⟨h.1, ?_⟩
  have h2 := h.2
  rcases h2 with ⟨a, b | ⟨g', cap', cur, hv, hg, r⟩⟩
  · exact ⟨a, Or.inl b⟩
  · exact ⟨a, Or.inr ⟨g', cap', cur, hv, Nat.le_trans hB hg, r⟩⟩
/-- What a dart holds. -/
def Caps (n : PNet) : Prop := ∀ c, c ∈ n.C → 0 ≤ c ∧ c ≤ 2147483648
theorem capOf_rng (k : Int) : 0 ≤ capOf k ∧ capOf k ≤ 2147483648 := by
  have h := wi_rng k 1099511627776 (by omega)
  have ht := tdiv_rng (wi k 1099511627776) 7 h.1 (by omega)
  unfold capOf
  generalize wi k 1099511627776 = z at h ht
  generalize z.tdiv 7 = y at ht
  split
  · omega
  · split
    · omega
    · split <;> omega
theorem caps_grow {n : PNet} (h : n.T.length = 0 ∨ Caps n) (k : Int) : Caps (growK n k) := by
  have c1 := capOf_rng (k.tdiv 30)
  have c2 := capOf_rng (k.tdiv 7000)
  unfold growK
  by_cases h0 : n.T.length = 0
  · rw [if_pos h0]
    have key : ∀ c, c ∈ [capOf (k.tdiv 30), capOf (k.tdiv 7000)] → 0 ≤ c ∧ c ≤ 2147483648 := fun c hc => by
      simp at hc
      rcases hc with rfl | rfl
      · exact c1
      · exact c2
    split
    · exact key
    · exact key
  · rw [if_neg h0]
    have h := h.resolve_left h0
    have key : ∀ c, c ∈ n.C ++ [capOf (k.tdiv 30), capOf (k.tdiv 7000)] → 0 ≤ c ∧ c ≤ 2147483648 := fun c hc => by
      simp at hc
      rcases hc with hc | rfl | rfl
      · exact h c hc
      · exact c1
      · exact c2
    split
    · exact key
    · exact key
theorem caps_to (zs : List Int) : ∀ j, (planeTo zs j).T.length = 0 ∨ Caps (planeTo zs j)
  | 0 => .inl (by simp [planeTo])
  | j + 1 => by
    have c := caps_to zs j
    rcases Nat.lt_or_ge j zs.length with h | h
    · rw [planeTo_next zs j h]
      exact .inr (caps_grow c _)
    · have e : planeTo zs (j + 1) = planeTo zs j := by
        unfold planeTo
        rw [List.take_of_length_le (by omega), List.take_of_length_le h]
      rw [e]
      exact c
/-- What is known of a grown net's rows. -/
theorem plane_rows (zs : List Int) : (planeOf zs).X.length = (planeOf zs).T.length ∧ (planeOf zs).C.length = (planeOf zs).T.length ∧ (planeOf zs).T.length ≤ 48 ∧ ∀ d : Int, 0 ≤ d → d < (planeOf zs).T.length → 0 ≤ rd (planeOf zs).C d ∧ rd (planeOf zs).C d ≤ 2147483648 := by
  have e24 : planeTo zs 24 = planeOf zs := planeTo_all zs 24 (.inl rfl)
  obtain ⟨F, l, _⟩ := planeTo_fine zs 24
  have c := caps_to zs 24
  rw [e24] at F l c
  refine ⟨F.lx, F.lc, l, fun d d0 d1 => ?_⟩
  rcases c with c | c
  · omega
  · exact c _ (rd_mem d0 (by rw [F.lc]; exact d1))
/-- The less of two ints, in a region that draws its order. -/
theorem istep_min {ops : Array Oper} {o : Oper} {a : Act} {W : World} {K : Act → World → Prop} {Q : Exit → Act → World → Prop} {E : Prop} (hgd : o.guard = none) (x y : Operand) (tys : Array TypeId)
    (ho : o.op = .call { callee := .builtin .min, args := #[x, y], argTypes := tys }) (u v : Int) (hx : a.eval x = .int .i64 u) (hy : a.eval y = .int .i64 v)
    (h : K (a.put o.dst (.int .i64 (min u v))) W) :
    if Region.wanted o (yielded ops a.tmps) = true then Oper.wp Tryd.prog o a W K Q else E := by
  have HM : ∀ tys ty w, (Builtin.min_ tys ty #[.int .i64 u, .int .i64 v]).run Tryd.prog w = .ok (.int .i64 (min u v)) w := fun tys ty w => by
    have e : min u v = if v < u then v else u := by split <;> omega
    rw [e]
    rfl
  have hw : Region.wanted o (yielded ops a.tmps) = true := by simp [Region.wanted, hgd]
  rw [if_pos hw]
  unfold Oper.wp
  simp [execOp, ho, resolve, invoke, builtin, hx, hy, HM, Result.andThen]
  exact h
set_option maxHeartbeats 3200000 in
theorem some_any {w : World} {m n : Nat} {aT aX aC aM : Option Addr} {cT lX cX cC cM : Nat} {C ms : List Int} (hC : RowOf w aC C) (lC : C.length = n) (hcap : ∀ d : Int, 0 ≤ d → d < n → 0 ≤ rd C d ∧ rd C d ≤ 2147483648) (hM : RowOf w aM ms) (hn : n ≤ 48) :
    Calls Tryd.prog 30 #[.agg #[.int .i64 m, .slice aT n cT, .slice aX lX cX, .slice aC n cC], .slice aM ms.length cM] w fun e w' => ∃ g fs, e = .returned (.slice (some ⟨g, 0, none⟩) n n) ∧ OwnN w' w.heap.size g n n fs ∧ Below w.heap.size w w' := by
  have hmk : ∀ w : World, (Instr.makeSlice 28 (.int .i64 n) (.int .i64 n)).run Tryd.prog w = .ok (.slice (some ⟨w.heap.size, 0, none⟩) n n) (w.alloc (.cells (madeCells #[.int .i64 0] n) 3)) :=
    run_make_row' (P := Tryd.prog) 28 3 (.int .i64 0) 8 Tryd.underlying28 info3 rfl .i64 .i64 n (by omega) (by omega)
  have hB := below_alloc (Below.refl w.heap.size w) (.cells #[.int .i64 m, .slice aT n cT, .slice aX lX cX, .slice aC n cC] 47)
  have hbox := box_new w #[.int .i64 m, .slice aT n cT, .slice aX lX cX, .slice aC n cC] 47
  have CK := Bx.mk (fun W (h : Below w.heap.size w W) => hC.keep h)
  have MK := Bx.mk (fun W (h : Below w.heap.size w W) => hM.keep h)
  have LL := Bx.mk lC
  have HC := Bx.mk hcap
  clear hC hM lC hcap
  obtain ⟨lm, hlm⟩ : ∃ l, ms.length = l := ⟨_, rfl⟩
  rw [hlm]
  have LM := Bx.mk hlm
  clear hlm
  go_enter Tryd.func30, Tryd.ntmps30
  go_upto_region 1 with fail
  generalize w.alloc _ = wa at hB hbox ⊢
  generalize hb0 : w.heap.size = b at hbox ⊢
  have HK := Bx.mk (fun W (h : Below wa.heap.size wa W) => (⟨(hbox.keep h).cell 1, (hbox.keep h).cell 3⟩ : W.cell? ⟨b, 1, none⟩ = some (.slice aT n cT) ∧ W.cell? ⟨b, 3, none⟩ = some (.slice aC n cC)))
  have hbl := hbox.lt
  clear hbox
  obtain ⟨k1, k3⟩ := HK.out _ (Below.refl _ _)
  have o0 := own_made wa wa.heap.size n (Nat.le_refl _) (by omega)
  have B1 := below_alloc (Below.refl wa.heap.size wa) (.cells (madeCells #[.int .i64 0] n) 3)
  obtain ⟨g, hg⟩ : ∃ g, wa.heap.size = g := ⟨_, rfl⟩
  have hgB : wa.heap.size ≤ g := by omega
  rw [show OwnN (wa.alloc (.cells (madeCells #[.int .i64 0] n) 3)) wa.heap.size wa.heap.size n n (List.replicate n 0) = OwnN (wa.alloc (.cells (madeCells #[.int .i64 0] n) 3)) wa.heap.size g n n (List.replicate n 0) from by rw [hg]] at o0
  go_upto_region 2 with fail
  generalize wa.alloc _ = w1 at o0 B1 ⊢
  have hg' := hg
  try rw [hg]
  clear hmk k1 k3 hg'
  go_wp2
  go_loopg [6] (n + 2) (fun q y wr => ∃ (d : Nat) (fs : List Int), y = .int .i64 d ∧ q = n + 2 - d ∧ d ≤ n + 1 ∧ OwnN wr wa.heap.size g n n fs ∧ Below wa.heap.size wa wr)
  case atStart => exact ⟨0, _, rfl, by omega, by omega, o0, B1⟩
  case round =>
    clear o0 B1
    obtain ⟨d, fs, rfl, hq, hd, hO, BW⟩ := hrel
    obtain ⟨k1, k3⟩ := HK.out _ BW
    have LF := hO.1
    by_cases hdn : d + 1 < n
    · have hdI : (d : Int) + 1 < n := by omega
      have hdJ : (d : Int) < n := by omega
      have BWW := below_below hB BW
      obtain ⟨bC, oC, rfl, _, x0⟩ := (CK.out _ BWW) d (by omega) (by rw [LL.out]; omega)
      obtain ⟨bC', oC', ez, _, x1⟩ := (CK.out _ BWW) ((d : Int) + 1) (by omega) (by rw [LL.out]; exact hdI)
      obtain ⟨rfl, rfl⟩ : bC = bC' ∧ oC = oC' := by simpa using ez
      rw [Int.toNat_natCast] at x0
      rw [show ((d : Int) + 1).toNat = d + 1 from by omega] at x1
      have b0 := HC.out d (by omega) (by omega)
      have b1 := HC.out ((d : Int) + 1) (by omega) hdI
      obtain ⟨c0, hc0⟩ : ∃ c, rd C d = c := ⟨_, rfl⟩
      obtain ⟨c1, hc1⟩ : ∃ c, rd C ((d : Int) + 1) = c := ⟨_, rfl⟩
      rw [hc0] at x0 b0
      rw [hc1] at x1 b1
      have hSb := Bx.mk (fun W (h : Below wa.heap.size wa W) => (⟨(HK.out W h).2, by
        obtain ⟨b', o', e, _, c⟩ := (CK.out W (below_below hB h)) d (by omega) (by rw [LL.out]; omega)
        cases e
        rw [hc0, Int.toNat_natCast] at c
        exact c, by
        obtain ⟨b', o', e, _, c⟩ := (CK.out W (below_below hB h)) ((d : Int) + 1) (by omega) (by rw [LL.out]; exact hdI)
        cases e
        rw [hc1, show ((d : Int) + 1).toNat = d + 1 from by omega] at c
        exact c⟩ : W.cell? ⟨b, 3, none⟩ = some (.slice (some ⟨bC, oC, none⟩) n cC) ∧ W.cell? ⟨bC, oC + d, none⟩ = some (.int .i64 c0) ∧ W.cell? ⟨bC, oC + (d + 1), none⟩ = some (.int .i64 c1)))
      clear hc0 hc1 ez
      have hi2 : (d : Int).tdiv 2 = ((d / 2 : Nat) : Int) := by rw [Int.tdiv_eq_ediv_of_nonneg (by omega)]; omega
      obtain ⟨i, hi⟩ : ∃ i, d / 2 = i := ⟨_, rfl⟩
      rw [hi] at hi2
      have hi3 : i ≤ 48 := by omega
      clear hi
      go_upto_if 24 with fail
      go_cut [7] from 12 to 73 (fun s7 wx => (∃ kk : Int, s7 = .int .i64 kk ∧ 0 ≤ kk ∧ kk < 1099511627776) ∧ wx = wr)
      case first =>
        by_cases him : i < lm
        · have hiI : (i : Int) < lm := by omega
          obtain ⟨bM, oM, rfl, _, y0⟩ := (MK.out _ BWW) i (by omega) (by rw [LM.out]; exact hiI)
          rw [Int.toNat_natCast] at y0
          have WI := fun W => within9_any (rd ms i) 1099511627776 (by omega) (by omega) W
          have k0 := wi_rng (rd ms i) 1099511627776 (by omega)
          obtain ⟨kk, hkk⟩ : ∃ k, wi (rd ms i) 1099511627776 = k := ⟨_, rfl⟩
          rw [hkk] at WI k0
          clear hkk
          obtain ⟨k0, kB⟩ := k0
          go_wp2_with (go_at_call 49; refine (WI _).mono ?_; rintro e w' ⟨rfl, rfl⟩)
          go_meet
          case rel => exact ⟨⟨kk, rfl, k0, kB⟩, rfl⟩
        · have hiI : ¬ (i : Int) < lm := by omega
          go_wp2_with fail
          go_meet
          case rel => exact ⟨⟨_, rfl, by omega, by omega⟩, rfl⟩
      case rest =>
        obtain ⟨⟨kk, rfl, k0, kB⟩, rfl⟩ := hcut
        have a1 := emod_rng kk 20 k0 (by omega)
        have q1 := tdiv_rng kk 20 k0 (by omega)
        have a2 := emod_rng (kk.tdiv 20) 20 q1.1 (by omega)
        have q2 := tdiv_rng kk 400 k0 (by omega)
        have m1 : kk.tmod 20 = kk % 20 := Int.tmod_eq_emod_of_nonneg k0
        have m2 : (kk.tdiv 20).tmod 20 = kk.tdiv 20 % 20 := Int.tmod_eq_emod_of_nonneg q1.1
        obtain ⟨z0, hz0⟩ : ∃ z, kk % 20 = z := ⟨_, rfl⟩
        obtain ⟨z1, hz1⟩ : ∃ z, kk.tdiv 20 % 20 = z := ⟨_, rfl⟩
        rw [hz0] at a1 m1
        rw [hz1] at a2 m2
        clear hz0 hz1
        have MB : -2147483648 ≤ min z0 c0 - min z1 c1 ∧ min z0 c0 - min z1 c1 ≤ 2147483648 := by omega
        have y1 : IntKind.i64.wrap (min z0 c0 - min z1 c1) = min z0 c0 - min z1 c1 := IntWalk.i64_in _ (by omega)
        have wd : IntKind.i64.wrap ((d : Int) + 1) = (d : Int) + 1 := IntWalk.i64_in _ (by omega)
        have wq : IntKind.i64.wrap (kk.tdiv 20) = kk.tdiv 20 := IntWalk.i64_in _ (by omega)
        have hd0 : 0 ≤ (d : Int) + 1 := by omega
        have f0 := hO.cell d (by omega) (by omega)
        have z0f := hO.fz d
        rw [Int.toNat_natCast] at f0 z0f
        go_upto_region 8 with fail
        have bDW := below_below BW (Below.drew (Below.refl wc.heap.size wc))
        go_region_held_law (fun W => W.cell? ⟨b, 3, none⟩ = some (.slice (some ⟨bC, oC, none⟩) n cC) ∧ W.cell? ⟨bC, oC + d, none⟩ = some (.int .i64 c0) ∧ W.cell? ⟨bC, oC + (d + 1), none⟩ = some (.int .i64 c1))
          (first | assumption | exact hSb.out _ bDW | exact hSb.out _ (below_set bDW hgB _) | exact hSb.out _ (below_below (below_set BW (p := ⟨g, d, none⟩) hgB _) (Below.drew (Below.refl _ _))))
          (first
            | (refine istep_min rfl (.tmp 34) (.tmp 39) #[3, 3] rfl z0 c0 rfl rfl ?_)
            | (refine istep_min rfl (.tmp 43) (.tmp 49) #[3, 3] rfl z1 c1 rfl rfl ?_))
        all_goals
          have hO5 := (hO.set d (min z0 c0 - min z1 c1)).keep (Below.drew (Below.refl _ _))
          have BW5 := below_below (below_set BW (p := ⟨g, d, none⟩) hgB (.int .i64 (min z0 c0 - min z1 c1))) (Below.drew (Below.refl _ _))
          rw [Int.toNat_natCast] at hO5
          have hv5 : rd (st fs d (min z0 c0 - min z1 c1)) d = min z0 c0 - min z1 c1 := by rw [rd_st _ _ _ _ (by omega) (by rw [LF]; omega) (by omega), if_pos rfl]
          generalize (wc.setCell _ _).drew = w5 at *
          obtain ⟨v, hv⟩ : ∃ v, min z0 c0 - min z1 c1 = v := ⟨_, rfl⟩
          rw [hv] at hO5 hv5 MB
          try rw [hv]
          clear hv y1 f0 z0f m1 m2 a1 a2 q1 hO BW k1 k3 x0 x1 wd wq bDW
          try clear hreg
          obtain ⟨k1, _⟩ := HK.out _ BW5
          obtain ⟨k3, x0, _⟩ := hSb.out _ BW5
          obtain ⟨fs5, hfs⟩ : ∃ fs5, st fs d v = fs5 := ⟨_, rfl⟩
          rw [hfs] at hO5 hv5
          clear hfs
          have LF5 := hO5.1
          have f0 := hO5.cell d (by omega) (by omega)
          have f1 := hO5.cell ((d : Int) + 1) (by omega) hdI
          have z0f := hO5.fz d
          have z1f := hO5.fz ((d : Int) + 1)
          rw [Int.toNat_natCast] at f0 z0f
          rw [show ((d : Int) + 1).toNat = d + 1 from by omega] at f1 z1f
          rw [hv5] at f0
          by_cases t5 : kk.tdiv 400 % 5 = 0
          · have e5 : (kk.tdiv 400 % 5 == 0) = true := by simpa using t5
            have ne : ¬ d = d + 1 := by omega
            clear t5
            have h8 := (hO5.set d c0).set ((d : Int) + 1) (-c0)
            have B8 := below_set (below_set BW5 (p := ⟨g, d, none⟩) hgB (.int .i64 c0)) (p := ⟨g, d + 1, none⟩) hgB (.int .i64 (-c0))
            rw [Int.toNat_natCast, show ((d : Int) + 1).toNat = d + 1 from by omega] at h8
            go_wp2
            go_roundg (n + 2 - (d + 2))
            case rel => exact ⟨d + 2, _, rfl, rfl, by omega, h8, B8⟩
            case measure => omega
          · have e5 : (kk.tdiv 400 % 5 == 0) = false := by simpa using t5
            clear t5
            have h8 := hO5.set ((d : Int) + 1) (-v)
            have B8 := below_set BW5 (p := ⟨g, d + 1, none⟩) hgB (.int .i64 (-v))
            rw [show ((d : Int) + 1).toNat = d + 1 from by omega] at h8
            go_wp2
            go_roundg (n + 2 - (d + 2))
            case rel => exact ⟨d + 2, _, rfl, rfl, by omega, h8, B8⟩
            case measure => omega
    · have hdI : ¬ (d : Int) + 1 < n := by omega
      have BX := below_below hB BW
      have hO2 := Bx.mk (hO.low (B' := b) (by have := hB.size; omega))
      go_wp2
      go_ret
      exact ⟨g, rfl, ⟨fs, hO2.out⟩, by rw [← hb0]; exact BX⟩
end Go.Proofs.YtpggfgkajkgcoaaDoor
