/- The document's Sort. -/
import Derived.Test.YtpggfgkajkgcoaaDoorG14
import Derived.Deep.RegionLawGrows
set_option linter.unusedVariables false
set_option linter.unusedSimpArgs false
namespace Go.Proofs.YtpggfgkajkgcoaaDoor
open Go.RowKit

theorem rless_at {a b : Nat} {c : Bool} (ha : a < 18446744073709551616) (hb : b < 18446744073709551616) (h : fless a b = c) (w : World) : Calls Tryd.prog 17 #[.float .f64 a, .float .f64 b] w fun e w' => e = .returned (.bool c) ∧ w = w' := by
  have := rless_any a b ha hb w
  rwa [h] at this
theorem FRow.take {w : World} {a : Option Addr} {xs : List Nat} (h : FRow w a xs) (k : Nat) : FRow w a (xs.take k) := by
  intro i h0 h1
  rw [List.length_take] at h1
  obtain ⟨b, o, e, hb, c⟩ := h i h0 (by omega)
  refine ⟨b, o, e, hb, ?_⟩
  rw [c]
  unfold fd
  simp only [List.getD_eq_getElem?_getD, List.getElem?_take]
  rw [if_pos (by omega)]
theorem FRow.drop {w : World} {b o : Nat} {xs : List Nat} (h : FRow w (some ⟨b, o, none⟩) xs) (k : Nat) : FRow w (some ⟨b, o + k, none⟩) (xs.drop k) := by
  intro i h0 h1
  rw [List.length_drop] at h1
  obtain ⟨b', o', e, hb, c⟩ := h (i + k) (by omega) (by omega)
  obtain ⟨rfl, rfl⟩ : b = b' ∧ o = o' := by simpa using e
  refine ⟨b, o + k, rfl, hb, ?_⟩
  rw [show o + k + i.toNat = o + (i + (k : Int)).toNat from by omega, c]
  unfold fd
  simp only [List.getD_eq_getElem?_getD, List.getElem?_drop]
  rw [show (i + (k : Int)).toNat = k + i.toNat from by omega]
theorem FRow.grown {w w' : World} {b o g : Nat} {xs : List Nat} (h : FRow w (some ⟨b, o, none⟩) xs) (hg : w.grownBy w' (some g)) (hne : b ≠ g) : FRow w' (some ⟨b, o, none⟩) xs := by
  intro i h0 h1
  obtain ⟨b', o', e, hb, c⟩ := h i h0 h1
  obtain ⟨rfl, rfl⟩ : b = b' ∧ o = o' := by simpa using e
  exact ⟨b, o, rfl, Nat.lt_of_lt_of_le hb hg.size, by rw [World.cell?_of_block (w := w) (hg.block b hb (by simpa using hne))]; exact c⟩
section
variable {aX : Option Addr} {cX : Nat} {xs : List Nat} {w : World}
set_option maxHeartbeats 6400000 in
theorem rsort_any (hX : FRow w aX xs) (hw : FW xs) (hl : xs.length ≤ 21) :
    Calls Tryd.prog 21 #[.slice aX xs.length cX] w fun e w' => ∃ v' ys, e = .returned v' ∧ FOwnK w' w.heap.size v' ys ∧ Below w.heap.size w w' ∧ SortOf xs ys := by
  have HW := Bx.mk hw
  clear hw
  go_enter Tryd.func21, Tryd.ntmps21
  go_wp2
  go_loopg [3, 4] (xs.length + 1) (fun q z y wr => ∃ D : List Nat, y = .int .i64 D.length ∧ q = xs.length + 1 - D.length ∧ D.length ≤ xs.length ∧ Below w.heap.size w wr ∧ FOwn wr w.heap.size z D ∧ Bx (D = [] → z = .slice none 0 0) ∧ Bx (D.Perm (xs.take D.length)) ∧ Bx (Srt D 0 D.length) ∧ Bx (FW D))
  case atStart => exact ⟨[], rfl, by simp, by simp, Below.refl _ _, FOwn.nil _ _, ⟨fun _ => rfl⟩, ⟨by simp⟩, ⟨fun z h0 h1 => by simp at h1; omega⟩, ⟨FW_nil⟩⟩
  case round =>
    obtain ⟨D, rfl, hq, hD, BW, hO, HN, HP, HS, HF⟩ := hrel
    by_cases hin : D.length < xs.length
    · have hI : (D.length : Int) < xs.length := by omega
      obtain ⟨bX, oX, rfl, lbX, cX1⟩ := (hX.keep BW) D.length (by omega) hI
      rw [Int.toNat_natCast] at cX1
      have lx := HW.out D.length
      have PX := Bx.mk (show xs.take (D.length + 1) = xs.take D.length ++ [fd xs D.length] from by
        rw [List.take_add_one, List.getElem?_eq_getElem hin]
        simp [fd, List.getD_eq_getElem?_getD, List.getElem?_eq_getElem hin])
      generalize fd xs D.length = x at cX1 lx PX
      rcases hO.cases with ⟨rfl, rfl⟩ | ⟨g, cD, rfl, hcD, _, kD⟩
      · clear hO
        go_wp2
        go_loopg [5] 1 (fun q y wi => y = .int .i64 0 ∧ q = 1 ∧ Below wr.heap.size wr wi)
        case atStart => exact ⟨rfl, rfl, Below.refl _ _⟩
        case round =>
          obtain ⟨rfl, hqk, BI⟩ := hrel
          have hKd : decide ((0 : Int) > 0) = false := by decide
          have bq := BI
          go_upto_region 6 with fail
          go_quiet (fail)
          have BJ := below_drewN bq nq
          obtain ⟨c0, lb0⟩ := cell_keep cX1 lbX BJ
          clear BI bq cX1
          generalize (World.drewN _ nq) = wj at BJ c0 lb0 ⊢
          have c0 : wj.cell? ⟨bX, oX, none⟩ = some (.float .f64 x) := c0
          go_upto_region 8 with fail
          have T1 := fun (W : World) (h : Below wj.heap.size wj W) => FRow.nil W none
          have T3 := fun (W : World) (h : Below wj.heap.size wj W) => FRow.nil W none
          have TL : (([] : List Nat).take 0).length = 0 := rfl
          have DL : (([] : List Nat).drop 0).length = 0 := rfl
          have H1 : 0 < 0 → fk [] (((0 : Nat) : Int) - 1) ≤ fkey x := fun h => by omega
          have H2 : 0 < ([] : List Nat).length → fkey x ≤ fk [] ((0 : Nat) : Int) := fun h => by simp at h
          have HG := H2
          have e0 : ([] : List Nat).length = 0 := rfl
          have BWJ := below_below BW BJ
          have bs := BWJ.size
          obtain ⟨IL, IP, IS, IF, IN⟩ := ins_rel (k := 0) (by omega) HP.out PX.out HS.out H1 H2 HF.out lx
          have RLX := Bx.mk (And.intro IL (And.intro IP (And.intro IS (And.intro IF IN))))
          have CX := fun (W : World) (h : Below wj.heap.size wj W) => (cell_keep c0 lb0 h).1
          have c0a := fun (o : Obj) => CX _ (below_alloc (Below.refl _ _) o)
          have o1 : FOwnN ((wj.alloc (.cells #[] 22)).drew) wj.heap.size wj.heap.size 0 0 [] := (fown_lit wj wj.heap.size [] (Nat.le_refl _) (by simp)).keep (Below.drew (Below.refl _ _))
          have b1 : Below wj.heap.size wj ((wj.alloc (.cells #[] 22)).drew) := Below.drew (below_alloc (Below.refl _ _) _)
          have o2 : FOwnN (((wj.alloc (.cells #[] 22)).alloc (.cells (flts [x]).toArray 22)).drew) wj.heap.size wj.heap.size 0 0 [] := (fown_lit wj wj.heap.size [] (Nat.le_refl _) (by simp)).keep (Below.drew (below_alloc (Below.refl _ _) _))
          have b2 : Below wj.heap.size wj (((wj.alloc (.cells #[] 22)).alloc (.cells (flts [x]).toArray 22)).drew) := Below.drew (below_alloc (below_alloc (Below.refl _ _) _) _)
          have x2 : FRow (((wj.alloc (.cells #[] 22)).alloc (.cells (flts [x]).toArray 22)).drew) (some ⟨wj.heap.size + 1, 0, none⟩) [x] := by
            have := (frow_new (wj.alloc (.cells #[] 22)) [x]).keep (Below.drew (Below.refl _ _))
            rwa [World.size_alloc] at this
          have o3 : FOwnN (((wj.alloc (.cells (flts [x]).toArray 22)).alloc (.cells #[] 22)).drew) wj.heap.size (wj.heap.size + 1) 0 0 [] := by
            have := (fown_lit (wj.alloc (.cells (flts [x]).toArray 22)) wj.heap.size [] (by rw [World.size_alloc]; omega) (by simp)).keep (Below.drew (Below.refl _ _))
            rwa [World.size_alloc] at this
          have b3 : Below wj.heap.size wj (((wj.alloc (.cells (flts [x]).toArray 22)).alloc (.cells #[] 22)).drew) := Below.drew (below_alloc (below_alloc (Below.refl _ _) _) _)
          have x3 : FRow (((wj.alloc (.cells (flts [x]).toArray 22)).alloc (.cells #[] 22)).drew) (some ⟨wj.heap.size, 0, none⟩) [x] := (frow_new wj [x]).keep (Below.drew (below_alloc (Below.refl _ _) _))
          clear IL IP IS IF IN BW BJ H1 H2 HG
          go_region_law (first
            | (refine fstep_all rfl (.tmp 30) (.tmp 33) rfl wj.heap.size wj.heap.size 0 0 [] (([] : List Nat).take 0) rfl o1 none 0 0 TL rfl (T1 _ b1) (by omega) b1.size (0) (Nat.zero_add _) ?_; intro g1 cap1 w4 q4 gr4; have B4 := fbelow_all b1 o1 (Nat.le_refl _) gr4; have c4 := CX w4 B4)
            | (refine fstep_all rfl (.tmp 30) (.tmp 33) rfl wj.heap.size wj.heap.size 0 0 [] (([] : List Nat).take 0) rfl o2 none 0 0 TL rfl (T1 _ b2) (by omega) b2.size (0) (Nat.zero_add _) ?_; intro g1 cap1 w4 q4 gr4; have B4 := fbelow_all b2 o2 (Nat.le_refl _) gr4; have xr := x2.grown gr4 (by omega))
            | (refine fstep_all rfl (.tmp 30) (.tmp 33) rfl wj.heap.size (wj.heap.size + 1) 0 0 [] (([] : List Nat).take 0) rfl o3 none 0 0 TL rfl (T1 _ b3) (by omega) b3.size (0) (Nat.zero_add _) ?_; intro g1 cap1 w4 q4 gr4; have B4 := fbelow_all b3 o3 (Nat.le_refl _) gr4; have xr := x3.grown gr4 (by omega))
            | (refine fstep_all rfl (.tmp 34) (.tmp 39) rfl wj.heap.size g1 cap1 (0) ([] ++ ([] : List Nat).take 0) [x] rfl (q4.keep (below_alloc (Below.refl _ _) (.cells (flts [x]).toArray 22))) (some ⟨w4.heap.size, 0, none⟩) 1 1 rfl rfl (frow_new w4 [x]) (by omega) (below_alloc B4 (.cells (flts [x]).toArray 22)).size (0 + 1) rfl ?_; intro g2 cap2 w5 q5 gr5; have B5 := fbelow_all (below_alloc B4 (.cells (flts [x]).toArray 22)) (q4.keep (below_alloc (Below.refl _ _) (.cells (flts [x]).toArray 22))) (Nat.le_refl _) gr5)
            | (refine fstep_all rfl (.tmp 34) (.tmp 39) rfl wj.heap.size g1 cap1 (0) ([] ++ ([] : List Nat).take 0) [x] rfl q4 _ 1 1 rfl rfl xr (by omega) B4.size (0 + 1) rfl ?_; intro g2 cap2 w5 q5 gr5; have B5 := fbelow_all B4 q4 (Nat.le_refl _) gr5)
            | (refine fstep_all rfl (.tmp 40) (.tmp 43) rfl wj.heap.size g2 cap2 (0 + 1) ([] ++ ([] : List Nat).take 0 ++ [x]) (([] : List Nat).drop 0) rfl q5 none 0 0 DL rfl (T3 _ B5) (by omega) B5.size (([] : List Nat).length + 1) (by omega) ?_; intro g3 cap3 w6 q6 gr6; have B6 := fbelow_all B5 q5 (Nat.le_refl _) gr6))
          all_goals
            go_wp2
            obtain ⟨IL, IP, IS, IF, IN⟩ := RLX.out
            go_roundg (xs.length + 1 - (([] : List Nat).length + 1))
            case rel => exact ⟨ins ([] : List Nat) (0) x, congrArg (Value.int .i64) (by rw [IL]; omega), by rw [IL], by rw [IL]; omega, below_below BWJ B6, (FOwnN.low q6 bs).own, ⟨fun h => absurd h IN⟩, ⟨by rw [IL]; exact IP⟩, ⟨by rw [IL]; exact IS⟩, ⟨IF⟩⟩
            case measure => omega
      · have rD := kD.row
        have HO := Bx.mk kD
        have dl := kD.rng.2
        clear hO kD
        go_wp2
        go_loopg [5] (D.length + 1) (fun q y wi => ∃ k : Nat, y = .int .i64 k ∧ q = k + 1 ∧ k ≤ D.length ∧ Below wr.heap.size wr wi ∧ Bx (k < D.length → fkey x ≤ fk D k))
        case atStart => exact ⟨D.length, rfl, by omega, by omega, Below.refl _ _, ⟨fun h => by omega⟩⟩
        case round =>
          obtain ⟨k, rfl, hqk, hk, BI, HG⟩ := hrel
          by_cases hk0 : 0 < k
          · have hK : (k : Int) > 0 := by omega
            have hKd : decide ((k : Int) > 0) = true := decide_eq_true hK
            obtain ⟨b2, o2, e2, _, c2⟩ := (rD.keep BI) ((k : Int) - 1) (by omega) (by omega)
            obtain ⟨rfl, rfl⟩ : g = b2 ∧ 0 = o2 := by simpa using e2
            have c1 := (cell_keep cX1 lbX BI).1
            obtain ⟨k1, rfl⟩ : ∃ k1, k = k1 + 1 := ⟨k - 1, by omega⟩
            rw [show (0 : Nat) + (((k1 + 1 : Nat) : Int) - 1).toNat = k1 from by omega, show ((k1 + 1 : Nat) : Int) - 1 = k1 from by omega] at c2
            have ly := HF.out k1
            have KY := Bx.mk (show fk D k1 = fkey (fd D k1) from rfl)
            have W1 : IntKind.i64.wrap (((k1 + 1 : Nat) : Int) - 1) = k1 := by rw [show ((k1 + 1 : Nat) : Int) - 1 = k1 from by omega]; exact IntWalk.i64_in _ (by omega)
            generalize fd D k1 = y at c2 ly KY
            cases he : fless x y
            · have RL := fun W => rless_at lx ly he W
              have KN := Bx.mk (show fk D k1 ≤ fkey x from by rw [KY.out]; exact Int.not_lt.1 (of_decide_eq_false he))
              have bq := BI
              clear he
              go_upto_region 6 with fail
              go_quiet ((go_at_call 17; refine (RL _).mono ?_; rintro e w' ⟨rfl, rfl⟩; exact ⟨rfl, _, rfl⟩))
              have BJ := below_drewN bq nq
              have rDJ := rD.keep BJ
              obtain ⟨c0, lb0⟩ := cell_keep cX1 lbX BJ
              clear BI bq cX1 c1 c2 RL
              generalize (World.drewN _ nq) = wj at BJ rDJ c0 lb0 ⊢
              go_upto_region 8 with fail
              generalize hk1 : k1 + 1 = k at hk HG ⊢
              have T1 := fun (W : World) (h : Below wj.heap.size wj W) => (rDJ.take k).keep h
              have TL : (D.take k).length = k := by rw [List.length_take]; omega
              have DL : (D.drop k).length = D.length - k := List.length_drop
              have H1 : 0 < k → fk D ((k : Int) - 1) ≤ fkey x := fun _ => by rw [show (k : Int) - 1 = k1 from by omega]; exact KN.out
              have H2 : k < D.length → fkey x ≤ fk D k := HG.out
              have W2 : (0 : Int) ≤ (k : Int) := by omega
              have W3 : (k : Int) ≤ D.length := by omega
              have W4 : (k : Int) ≤ cD := by omega
              by_cases hck : cD = k
              · have hdn : D.length - k = 0 := by omega
                have T3 := fun (W : World) (h : Below wj.heap.size wj W) => (show FRow W (some ⟨g, 0, none⟩) (D.drop k) from fun i h0 h1 => by rw [DL] at h1; omega)
                rw [hdn] at DL
                have BWJ := below_below BW BJ
                have bs := BWJ.size
                obtain ⟨IL, IP, IS, IF, IN⟩ := ins_rel (k := k) (by omega) HP.out PX.out HS.out H1 H2 HF.out lx
                have RLX := Bx.mk (And.intro IL (And.intro IP (And.intro IS (And.intro IF IN))))
                have CX := fun (W : World) (h : Below wj.heap.size wj W) => (cell_keep c0 lb0 h).1
                have c0a := fun (o : Obj) => CX _ (below_alloc (Below.refl _ _) o)
                have o1 : FOwnN ((wj.alloc (.cells #[] 22)).drew) wj.heap.size wj.heap.size 0 0 [] := (fown_lit wj wj.heap.size [] (Nat.le_refl _) (by simp)).keep (Below.drew (Below.refl _ _))
                have b1 : Below wj.heap.size wj ((wj.alloc (.cells #[] 22)).drew) := Below.drew (below_alloc (Below.refl _ _) _)
                have o2 : FOwnN (((wj.alloc (.cells #[] 22)).alloc (.cells (flts [x]).toArray 22)).drew) wj.heap.size wj.heap.size 0 0 [] := (fown_lit wj wj.heap.size [] (Nat.le_refl _) (by simp)).keep (Below.drew (below_alloc (Below.refl _ _) _))
                have b2 : Below wj.heap.size wj (((wj.alloc (.cells #[] 22)).alloc (.cells (flts [x]).toArray 22)).drew) := Below.drew (below_alloc (below_alloc (Below.refl _ _) _) _)
                have x2 : FRow (((wj.alloc (.cells #[] 22)).alloc (.cells (flts [x]).toArray 22)).drew) (some ⟨wj.heap.size + 1, 0, none⟩) [x] := by
                  have := (frow_new (wj.alloc (.cells #[] 22)) [x]).keep (Below.drew (Below.refl _ _))
                  rwa [World.size_alloc] at this
                have o3 : FOwnN (((wj.alloc (.cells (flts [x]).toArray 22)).alloc (.cells #[] 22)).drew) wj.heap.size (wj.heap.size + 1) 0 0 [] := by
                  have := (fown_lit (wj.alloc (.cells (flts [x]).toArray 22)) wj.heap.size [] (by rw [World.size_alloc]; omega) (by simp)).keep (Below.drew (Below.refl _ _))
                  rwa [World.size_alloc] at this
                have b3 : Below wj.heap.size wj (((wj.alloc (.cells (flts [x]).toArray 22)).alloc (.cells #[] 22)).drew) := Below.drew (below_alloc (below_alloc (Below.refl _ _) _) _)
                have x3 : FRow (((wj.alloc (.cells (flts [x]).toArray 22)).alloc (.cells #[] 22)).drew) (some ⟨wj.heap.size, 0, none⟩) [x] := (frow_new wj [x]).keep (Below.drew (below_alloc (Below.refl _ _) _))
                clear IL IP IS IF IN BW BJ H1 H2 HG
                go_region_law (first
                  | (refine fstep_all rfl (.tmp 30) (.tmp 33) rfl wj.heap.size wj.heap.size 0 0 [] (D.take (k)) rfl o1 (some ⟨g, 0, none⟩) (k) (k) TL rfl (T1 _ b1) (by omega) b1.size (k) (Nat.zero_add _) ?_; intro g1 cap1 w4 q4 gr4; have B4 := fbelow_all b1 o1 (Nat.le_refl _) gr4; have c4 := CX w4 B4)
                  | (refine fstep_all rfl (.tmp 30) (.tmp 33) rfl wj.heap.size wj.heap.size 0 0 [] (D.take (k)) rfl o2 (some ⟨g, 0, none⟩) (k) (k) TL rfl (T1 _ b2) (by omega) b2.size (k) (Nat.zero_add _) ?_; intro g1 cap1 w4 q4 gr4; have B4 := fbelow_all b2 o2 (Nat.le_refl _) gr4; have xr := x2.grown gr4 (by omega))
                  | (refine fstep_all rfl (.tmp 30) (.tmp 33) rfl wj.heap.size (wj.heap.size + 1) 0 0 [] (D.take (k)) rfl o3 (some ⟨g, 0, none⟩) (k) (k) TL rfl (T1 _ b3) (by omega) b3.size (k) (Nat.zero_add _) ?_; intro g1 cap1 w4 q4 gr4; have B4 := fbelow_all b3 o3 (Nat.le_refl _) gr4; have xr := x3.grown gr4 (by omega))
                  | (refine fstep_all rfl (.tmp 34) (.tmp 39) rfl wj.heap.size g1 cap1 (k) ([] ++ D.take (k)) [x] rfl (q4.keep (below_alloc (Below.refl _ _) (.cells (flts [x]).toArray 22))) (some ⟨w4.heap.size, 0, none⟩) 1 1 rfl rfl (frow_new w4 [x]) (by omega) (below_alloc B4 (.cells (flts [x]).toArray 22)).size (k + 1) rfl ?_; intro g2 cap2 w5 q5 gr5; have B5 := fbelow_all (below_alloc B4 (.cells (flts [x]).toArray 22)) (q4.keep (below_alloc (Below.refl _ _) (.cells (flts [x]).toArray 22))) (Nat.le_refl _) gr5)
                  | (refine fstep_all rfl (.tmp 34) (.tmp 39) rfl wj.heap.size g1 cap1 (k) ([] ++ D.take (k)) [x] rfl q4 _ 1 1 rfl rfl xr (by omega) B4.size (k + 1) rfl ?_; intro g2 cap2 w5 q5 gr5; have B5 := fbelow_all B4 q4 (Nat.le_refl _) gr5)
                  | (refine fstep_all rfl (.tmp 40) (.tmp 43) rfl wj.heap.size g2 cap2 (k + 1) ([] ++ D.take (k) ++ [x]) (D.drop (k)) rfl q5 (some ⟨g, 0, none⟩) (0) (0) DL rfl (T3 _ B5) (by omega) B5.size (D.length + 1) (by omega) ?_; intro g3 cap3 w6 q6 gr6; have B6 := fbelow_all B5 q5 (Nat.le_refl _) gr6))
                all_goals
                  go_wp2
                  obtain ⟨IL, IP, IS, IF, IN⟩ := RLX.out
                  go_roundg (xs.length + 1 - (D.length + 1))
                  case rel => exact ⟨ins D (k) x, congrArg (Value.int .i64) (by rw [IL]; omega), by rw [IL], by rw [IL]; omega, below_below BWJ B6, (FOwnN.low q6 bs).own, ⟨fun h => absurd h IN⟩, ⟨by rw [IL]; exact IP⟩, ⟨by rw [IL]; exact IS⟩, ⟨IF⟩⟩
                  case measure => omega
              · have hcf : ¬ (cD : Int) = k := by omega
                have T3 := fun (W : World) (h : Below wj.heap.size wj W) => (show FRow W (some ⟨g, k, none⟩) (D.drop k) from by have := (rDJ.drop k).keep h; rwa [Nat.zero_add] at this)
                have BWJ := below_below BW BJ
                have bs := BWJ.size
                obtain ⟨IL, IP, IS, IF, IN⟩ := ins_rel (k := k) (by omega) HP.out PX.out HS.out H1 H2 HF.out lx
                have RLX := Bx.mk (And.intro IL (And.intro IP (And.intro IS (And.intro IF IN))))
                have CX := fun (W : World) (h : Below wj.heap.size wj W) => (cell_keep c0 lb0 h).1
                have c0a := fun (o : Obj) => CX _ (below_alloc (Below.refl _ _) o)
                have o1 : FOwnN ((wj.alloc (.cells #[] 22)).drew) wj.heap.size wj.heap.size 0 0 [] := (fown_lit wj wj.heap.size [] (Nat.le_refl _) (by simp)).keep (Below.drew (Below.refl _ _))
                have b1 : Below wj.heap.size wj ((wj.alloc (.cells #[] 22)).drew) := Below.drew (below_alloc (Below.refl _ _) _)
                have o2 : FOwnN (((wj.alloc (.cells #[] 22)).alloc (.cells (flts [x]).toArray 22)).drew) wj.heap.size wj.heap.size 0 0 [] := (fown_lit wj wj.heap.size [] (Nat.le_refl _) (by simp)).keep (Below.drew (below_alloc (Below.refl _ _) _))
                have b2 : Below wj.heap.size wj (((wj.alloc (.cells #[] 22)).alloc (.cells (flts [x]).toArray 22)).drew) := Below.drew (below_alloc (below_alloc (Below.refl _ _) _) _)
                have x2 : FRow (((wj.alloc (.cells #[] 22)).alloc (.cells (flts [x]).toArray 22)).drew) (some ⟨wj.heap.size + 1, 0, none⟩) [x] := by
                  have := (frow_new (wj.alloc (.cells #[] 22)) [x]).keep (Below.drew (Below.refl _ _))
                  rwa [World.size_alloc] at this
                have o3 : FOwnN (((wj.alloc (.cells (flts [x]).toArray 22)).alloc (.cells #[] 22)).drew) wj.heap.size (wj.heap.size + 1) 0 0 [] := by
                  have := (fown_lit (wj.alloc (.cells (flts [x]).toArray 22)) wj.heap.size [] (by rw [World.size_alloc]; omega) (by simp)).keep (Below.drew (Below.refl _ _))
                  rwa [World.size_alloc] at this
                have b3 : Below wj.heap.size wj (((wj.alloc (.cells (flts [x]).toArray 22)).alloc (.cells #[] 22)).drew) := Below.drew (below_alloc (below_alloc (Below.refl _ _) _) _)
                have x3 : FRow (((wj.alloc (.cells (flts [x]).toArray 22)).alloc (.cells #[] 22)).drew) (some ⟨wj.heap.size, 0, none⟩) [x] := (frow_new wj [x]).keep (Below.drew (below_alloc (Below.refl _ _) _))
                clear IL IP IS IF IN BW BJ H1 H2 HG
                go_region_law (first
                  | (refine fstep_all rfl (.tmp 30) (.tmp 33) rfl wj.heap.size wj.heap.size 0 0 [] (D.take (k)) rfl o1 (some ⟨g, 0, none⟩) (cD) (k) TL rfl (T1 _ b1) (by omega) b1.size (k) (Nat.zero_add _) ?_; intro g1 cap1 w4 q4 gr4; have B4 := fbelow_all b1 o1 (Nat.le_refl _) gr4; have c4 := CX w4 B4)
                  | (refine fstep_all rfl (.tmp 30) (.tmp 33) rfl wj.heap.size wj.heap.size 0 0 [] (D.take (k)) rfl o2 (some ⟨g, 0, none⟩) (cD) (k) TL rfl (T1 _ b2) (by omega) b2.size (k) (Nat.zero_add _) ?_; intro g1 cap1 w4 q4 gr4; have B4 := fbelow_all b2 o2 (Nat.le_refl _) gr4; have xr := x2.grown gr4 (by omega))
                  | (refine fstep_all rfl (.tmp 30) (.tmp 33) rfl wj.heap.size (wj.heap.size + 1) 0 0 [] (D.take (k)) rfl o3 (some ⟨g, 0, none⟩) (cD) (k) TL rfl (T1 _ b3) (by omega) b3.size (k) (Nat.zero_add _) ?_; intro g1 cap1 w4 q4 gr4; have B4 := fbelow_all b3 o3 (Nat.le_refl _) gr4; have xr := x3.grown gr4 (by omega))
                  | (refine fstep_all rfl (.tmp 34) (.tmp 39) rfl wj.heap.size g1 cap1 (k) ([] ++ D.take (k)) [x] rfl (q4.keep (below_alloc (Below.refl _ _) (.cells (flts [x]).toArray 22))) (some ⟨w4.heap.size, 0, none⟩) 1 1 rfl rfl (frow_new w4 [x]) (by omega) (below_alloc B4 (.cells (flts [x]).toArray 22)).size (k + 1) rfl ?_; intro g2 cap2 w5 q5 gr5; have B5 := fbelow_all (below_alloc B4 (.cells (flts [x]).toArray 22)) (q4.keep (below_alloc (Below.refl _ _) (.cells (flts [x]).toArray 22))) (Nat.le_refl _) gr5)
                  | (refine fstep_all rfl (.tmp 34) (.tmp 39) rfl wj.heap.size g1 cap1 (k) ([] ++ D.take (k)) [x] rfl q4 _ 1 1 rfl rfl xr (by omega) B4.size (k + 1) rfl ?_; intro g2 cap2 w5 q5 gr5; have B5 := fbelow_all B4 q4 (Nat.le_refl _) gr5)
                  | (refine fstep_all rfl (.tmp 40) (.tmp 43) rfl wj.heap.size g2 cap2 (k + 1) ([] ++ D.take (k) ++ [x]) (D.drop (k)) rfl q5 (some ⟨g, k, none⟩) (cD - k) (D.length - k) DL rfl (T3 _ B5) (by omega) B5.size (D.length + 1) (by omega) ?_; intro g3 cap3 w6 q6 gr6; have B6 := fbelow_all B5 q5 (Nat.le_refl _) gr6))
                all_goals
                  go_wp2
                  obtain ⟨IL, IP, IS, IF, IN⟩ := RLX.out
                  go_roundg (xs.length + 1 - (D.length + 1))
                  case rel => exact ⟨ins D (k) x, congrArg (Value.int .i64) (by rw [IL]; omega), by rw [IL], by rw [IL]; omega, below_below BWJ B6, (FOwnN.low q6 bs).own, ⟨fun h => absurd h IN⟩, ⟨by rw [IL]; exact IP⟩, ⟨by rw [IL]; exact IS⟩, ⟨IF⟩⟩
                  case measure => omega
            · have RL := fun W => rless_at lx ly he W
              have KE := Bx.mk (show fkey x ≤ fk D k1 from by rw [KY.out]; exact Int.le_of_lt (of_decide_eq_true he))
              clear he
              go_upto_region 6 with fail
              go_quiet ((go_at_call 17; refine (RL _).mono ?_; rintro e w' ⟨rfl, rfl⟩; exact ⟨rfl, _, rfl⟩))
              go_wp2
              go_roundg (k1 + 1)
              case rel => exact ⟨k1, rfl, rfl, by omega, below_drewN BI _, ⟨fun _ => KE.out⟩⟩
              case measure => omega
          · obtain rfl : k = 0 := by omega
            have hKd : decide (((0 : Nat) : Int) > 0) = false := by decide
            have bq := BI
            go_upto_region 6 with fail
            go_quiet (fail)
            have BJ := below_drewN bq nq
            have rDJ := rD.keep BJ
            obtain ⟨c0, lb0⟩ := cell_keep cX1 lbX BJ
            clear BI bq cX1
            generalize (World.drewN _ nq) = wj at BJ rDJ c0 lb0 ⊢
            go_upto_region 8 with fail
            have T1 := fun (W : World) (h : Below wj.heap.size wj W) => (rDJ.take 0).keep h
            have T3 := fun (W : World) (h : Below wj.heap.size wj W) => (rDJ.drop 0).keep h
            have TL : (D.take 0).length = 0 := rfl
            have DL : (D.drop 0).length = D.length := rfl
            have H1 : 0 < 0 → fk D (((0 : Nat) : Int) - 1) ≤ fkey x := fun h => by omega
            have H2 := HG.out
            have BWJ := below_below BW BJ
            have bs := BWJ.size
            obtain ⟨IL, IP, IS, IF, IN⟩ := ins_rel (k := 0) (by omega) HP.out PX.out HS.out H1 H2 HF.out lx
            have RLX := Bx.mk (And.intro IL (And.intro IP (And.intro IS (And.intro IF IN))))
            have CX := fun (W : World) (h : Below wj.heap.size wj W) => (cell_keep c0 lb0 h).1
            have c0a := fun (o : Obj) => CX _ (below_alloc (Below.refl _ _) o)
            have o1 : FOwnN ((wj.alloc (.cells #[] 22)).drew) wj.heap.size wj.heap.size 0 0 [] := (fown_lit wj wj.heap.size [] (Nat.le_refl _) (by simp)).keep (Below.drew (Below.refl _ _))
            have b1 : Below wj.heap.size wj ((wj.alloc (.cells #[] 22)).drew) := Below.drew (below_alloc (Below.refl _ _) _)
            have o2 : FOwnN (((wj.alloc (.cells #[] 22)).alloc (.cells (flts [x]).toArray 22)).drew) wj.heap.size wj.heap.size 0 0 [] := (fown_lit wj wj.heap.size [] (Nat.le_refl _) (by simp)).keep (Below.drew (below_alloc (Below.refl _ _) _))
            have b2 : Below wj.heap.size wj (((wj.alloc (.cells #[] 22)).alloc (.cells (flts [x]).toArray 22)).drew) := Below.drew (below_alloc (below_alloc (Below.refl _ _) _) _)
            have x2 : FRow (((wj.alloc (.cells #[] 22)).alloc (.cells (flts [x]).toArray 22)).drew) (some ⟨wj.heap.size + 1, 0, none⟩) [x] := by
              have := (frow_new (wj.alloc (.cells #[] 22)) [x]).keep (Below.drew (Below.refl _ _))
              rwa [World.size_alloc] at this
            have o3 : FOwnN (((wj.alloc (.cells (flts [x]).toArray 22)).alloc (.cells #[] 22)).drew) wj.heap.size (wj.heap.size + 1) 0 0 [] := by
              have := (fown_lit (wj.alloc (.cells (flts [x]).toArray 22)) wj.heap.size [] (by rw [World.size_alloc]; omega) (by simp)).keep (Below.drew (Below.refl _ _))
              rwa [World.size_alloc] at this
            have b3 : Below wj.heap.size wj (((wj.alloc (.cells (flts [x]).toArray 22)).alloc (.cells #[] 22)).drew) := Below.drew (below_alloc (below_alloc (Below.refl _ _) _) _)
            have x3 : FRow (((wj.alloc (.cells (flts [x]).toArray 22)).alloc (.cells #[] 22)).drew) (some ⟨wj.heap.size, 0, none⟩) [x] := (frow_new wj [x]).keep (Below.drew (below_alloc (Below.refl _ _) _))
            clear IL IP IS IF IN BW BJ H1 H2 HG
            go_region_law (first
              | (refine fstep_all rfl (.tmp 30) (.tmp 33) rfl wj.heap.size wj.heap.size 0 0 [] (D.take 0) rfl o1 (some ⟨g, 0, none⟩) (cD) (0) TL rfl (T1 _ b1) (by omega) b1.size (0) (Nat.zero_add _) ?_; intro g1 cap1 w4 q4 gr4; have B4 := fbelow_all b1 o1 (Nat.le_refl _) gr4; have c4 := CX w4 B4)
              | (refine fstep_all rfl (.tmp 30) (.tmp 33) rfl wj.heap.size wj.heap.size 0 0 [] (D.take 0) rfl o2 (some ⟨g, 0, none⟩) (cD) (0) TL rfl (T1 _ b2) (by omega) b2.size (0) (Nat.zero_add _) ?_; intro g1 cap1 w4 q4 gr4; have B4 := fbelow_all b2 o2 (Nat.le_refl _) gr4; have xr := x2.grown gr4 (by omega))
              | (refine fstep_all rfl (.tmp 30) (.tmp 33) rfl wj.heap.size (wj.heap.size + 1) 0 0 [] (D.take 0) rfl o3 (some ⟨g, 0, none⟩) (cD) (0) TL rfl (T1 _ b3) (by omega) b3.size (0) (Nat.zero_add _) ?_; intro g1 cap1 w4 q4 gr4; have B4 := fbelow_all b3 o3 (Nat.le_refl _) gr4; have xr := x3.grown gr4 (by omega))
              | (refine fstep_all rfl (.tmp 34) (.tmp 39) rfl wj.heap.size g1 cap1 (0) ([] ++ D.take 0) [x] rfl (q4.keep (below_alloc (Below.refl _ _) (.cells (flts [x]).toArray 22))) (some ⟨w4.heap.size, 0, none⟩) 1 1 rfl rfl (frow_new w4 [x]) (by omega) (below_alloc B4 (.cells (flts [x]).toArray 22)).size (0 + 1) rfl ?_; intro g2 cap2 w5 q5 gr5; have B5 := fbelow_all (below_alloc B4 (.cells (flts [x]).toArray 22)) (q4.keep (below_alloc (Below.refl _ _) (.cells (flts [x]).toArray 22))) (Nat.le_refl _) gr5)
              | (refine fstep_all rfl (.tmp 34) (.tmp 39) rfl wj.heap.size g1 cap1 (0) ([] ++ D.take 0) [x] rfl q4 _ 1 1 rfl rfl xr (by omega) B4.size (0 + 1) rfl ?_; intro g2 cap2 w5 q5 gr5; have B5 := fbelow_all B4 q4 (Nat.le_refl _) gr5)
              | (refine fstep_all rfl (.tmp 40) (.tmp 43) rfl wj.heap.size g2 cap2 (0 + 1) ([] ++ D.take 0 ++ [x]) (D.drop 0) rfl q5 (some ⟨g, 0, none⟩) (cD) (D.length) DL rfl (T3 _ B5) (by omega) B5.size (D.length + 1) (by omega) ?_; intro g3 cap3 w6 q6 gr6; have B6 := fbelow_all B5 q5 (Nat.le_refl _) gr6))
            all_goals
              go_wp2
              obtain ⟨IL, IP, IS, IF, IN⟩ := RLX.out
              go_roundg (xs.length + 1 - (D.length + 1))
              case rel => exact ⟨ins D (0) x, congrArg (Value.int .i64) (by rw [IL]; omega), by rw [IL], by rw [IL]; omega, below_below BWJ B6, (FOwnN.low q6 bs).own, ⟨fun h => absurd h IN⟩, ⟨by rw [IL]; exact IP⟩, ⟨by rw [IL]; exact IS⟩, ⟨IF⟩⟩
              case measure => omega
    · have hI : ¬ (D.length : Int) < xs.length := by omega
      have hle : D.length = xs.length := by omega
      have hP := HP.out
      rw [hle, List.take_length] at hP
      have PS := Bx.mk (show SortOf xs D from ⟨hP, HS.out⟩)
      clear hP HP HS
      go_wp2
      go_ret
      first | exact ⟨_, rfl, D, hO.k, BW, PS.out⟩ | exact ⟨_, D, rfl, hO.k, BW, PS.out⟩
end
end Go.Proofs.YtpggfgkajkgcoaaDoor
