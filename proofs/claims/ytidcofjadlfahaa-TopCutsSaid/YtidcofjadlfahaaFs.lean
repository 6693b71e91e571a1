/- Which face each dart is of. -/
import Derived.Test.YtidcofjadlfahaaFc
set_option linter.unusedVariables false
namespace Go.Proofs.Ytidcofjadlfahaa
open Go.RowKit

theorem info4 : (Try.prog.info? 4).map (fun i => (i.zero, i.size, i.bytes)) = some (some (.bool false), 1, 1) := by kernel_rfl
theorem own_made (w : World) (B n : Nat) (hB : B ≤ w.heap.size) (hn : n ≤ 1000) : OwnN (w.alloc (.cells (madeCells #[.int .i64 0] n) 3)) B w.heap.size n n (List.replicate n 0) := by
  have := World.ownsRow_lit (base := B) (e := 3) (size := 1) w (madeCells #[.int .i64 0] n) n hB (by unfold maxLen; omega) (by rw [size_madeCells]; omega)
  rw [toList_madeCells_one] at this
  exact ⟨by simp, by rw [show nums (List.replicate n 0) = List.replicate n (.int .i64 0) from by simp [nums]]; exact this⟩
theorem bown_made (w : World) (B n : Nat) (hB : B ≤ w.heap.size) (hn : n ≤ 1000) : BOwnN (w.alloc (.cells (madeCells #[.bool false] n) 4)) B w.heap.size n n (List.replicate n false) := by
  have := World.ownsRow_lit (base := B) (e := 4) (size := 1) w (madeCells #[.bool false] n) n hB (by unfold maxLen; omega) (by rw [size_madeCells]; omega)
  rw [toList_madeCells_one] at this
  exact ⟨by simp, by rw [show bools (List.replicate n false) = List.replicate n (.bool false) from by simp [bools]]; exact this⟩

/-- The first i of n are x, the others y. -/
def part (n i : Nat) (x y : Int) : List Int := List.replicate i x ++ List.replicate (n - i) y
theorem part_length (n i : Nat) (x y : Int) (h : i ≤ n) : (part n i x y).length = n := by simp [part]; omega
theorem rd_part (n i : Nat) (x y j : Int) (h : i ≤ n) (h0 : 0 ≤ j) (h1 : j < n) : rd (part n i x y) j = if j < i then x else y := by
  unfold rd part
  simp only [List.getD_eq_getElem?_getD]
  by_cases k : j < i
  · rw [if_pos k, List.getElem?_append_left (by simp; omega), List.getElem?_replicate, if_pos (by omega)]
    rfl
  · rw [if_neg k, List.getElem?_append_right (by simp; omega), List.getElem?_replicate, if_pos (by simp; omega)]
    rfl
theorem st_part (n i : Nat) (x y : Int) (h : i < n) : st (part n i x y) i x = part n (i + 1) x y := by
  have l1 := part_length n i x y (by omega)
  have l2 := part_length n (i + 1) x y (by omega)
  apply rows_ext (by rw [st_length, l1, l2])
  intro j h0 h1
  rw [st_length, l1] at h1
  rw [rd_st _ _ _ _ (by omega) (by rw [l1]; omega) h0, rd_part _ _ _ _ _ (by omega) h0 h1, rd_part _ _ _ _ _ (by omega) h0 h1]
  by_cases e : j = i
  · rw [if_pos e, if_pos (by omega)]
  · rw [if_neg e]
    by_cases k : j < i
    · rw [if_pos k, if_pos (by omega)]
    · rw [if_neg k, if_neg (by omega)]

theorem Ch.det {f : Int → Int} {d : Int} : ∀ {l l' : List Int} {e : Int}, Ch f d e l → Ch f d e l' → l = l'
  | [], [], _, _, _ => rfl
  | [], x :: l', e, h, h' => absurd h h'.2.1
  | x :: l, [], e, h, h' => absurd h' h.2.1
  | x :: l, x' :: l', e, h, h' => by rw [h.1, h'.1, Ch.det h.2.2 h'.2.2]
/-- Each dart's face is a round. -/
def Rings (X : List Int) : Prop := ∀ d : Int, 0 ≤ d → d < X.length → ∃ l, Ch (phi X) d (phi X d) l ∧ (∀ e, e ∈ d :: l → 0 ≤ e ∧ e < X.length) ∧ l.length ≤ 240
/-- The darts of a dart's face, from it on. -/
noncomputable def ringOf (X : List Int) (d : Int) : List Int := by
  classical
  exact if h : ∃ l, Ch (phi X) d (phi X d) l then d :: h.choose else [d]
theorem ring_eq {X : List Int} {d : Int} {l : List Int} (h : Ch (phi X) d (phi X d) l) : ringOf X d = d :: l := by
  have hx : ∃ l, Ch (phi X) d (phi X d) l := ⟨l, h⟩
  unfold ringOf
  rw [dif_pos hx, hx.choose_spec.det h]
/-- Each place of a row of places turned to k. -/
def setAll (of ks : List Int) (k : Int) : List Int := ks.foldl (fun of x => st of x k) of
theorem setAll_length (of ks : List Int) (k : Int) : (setAll of ks k).length = of.length := by
  unfold setAll
  induction ks generalizing of with
  | nil => rfl
  | cons x l ih => rw [List.foldl_cons, ih, st_length]
theorem rd_mid (pre suf : List Int) (x : Int) : rd (pre ++ x :: suf) pre.length = x := by
  unfold rd
  simp [List.getD_eq_getElem?_getD]
theorem setAll_app (of l1 : List Int) (x k : Int) : setAll of (l1 ++ [x]) k = st (setAll of l1 k) x k := by simp [setAll]
noncomputable def fstep (X : List Int) (s : List Int × Int) (d : Int) : List Int × Int := if 0 ≤ rd s.1 d then s else (setAll s.1 (ringOf X d) s.2, s.2 + 1)
noncomputable def facesTo (X : List Int) : Nat → List Int × Int
  | 0 => (List.replicate X.length (-1), 0)
  | j + 1 => fstep X (facesTo X j) j
/-- Each dart's face; how many there are. -/
noncomputable def facesOf (X : List Int) : List Int := (facesTo X X.length).1
noncomputable def faceN (X : List Int) : Int := (facesTo X X.length).2
theorem facesTo_rng (X : List Int) : ∀ j, (facesTo X j).1.length = X.length ∧ 0 ≤ (facesTo X j).2 ∧ (facesTo X j).2 ≤ j
  | 0 => by simp [facesTo]
  | j + 1 => by
    have ih := facesTo_rng X j
    rw [facesTo, fstep]
    split
    · omega
    · refine ⟨by rw [setAll_length]; exact ih.1, by omega, by omega⟩

section
variable {N : Int} {aT aX aC : Option Addr} {cT cX cC : Nat} {T X C : List Int} {w : World}
set_option maxHeartbeats 3200000 in
theorem faces_any (hX : RowOf w aX X) (hT : T.length = X.length) (he : (X.length : Int) % 2 = 0) (hm : X.length ≤ 240) (hR : Rings X) :
    Calls Try.prog 22 #[(.agg #[.int .i64 N, .slice aT T.length cT, .slice aX X.length cX, .slice aC C.length cC])] w fun r w' => ∃ v, r = .returned (.tuple #[v, .int .i64 (max (faceN X) 1)]) ∧ Own w' w.heap.size v (facesOf X) ∧ Below w.heap.size w w' := by
  obtain ⟨m, hmX⟩ : ∃ m, X.length = m := ⟨_, rfl⟩
  have hmT : T.length = m := by omega
  have hmk : ∀ w : World, (Instr.makeSlice 22 (.int .i64 m) (.int .i64 m)).run Try.prog w = .ok (.slice (some ⟨w.heap.size, 0, none⟩) m m) (w.alloc (.cells (madeCells #[.int .i64 0] m) 3)) :=
    run_make_row' (P := Try.prog) 22 3 (.int .i64 0) 8 Try.underlying22 info3 rfl .i64 .i64 m (by omega) (by omega)
  have hB := below_alloc (below_alloc (Below.refl w.heap.size w) (.cells #[.int .i64 N, .slice aT T.length cT, .slice aX X.length cX, .slice aC C.length cC] 25)) (.cells (madeCells #[.int .i64 0] m) 3)
  have hbox := (box_new w #[.int .i64 N, .slice aT T.length cT, .slice aX X.length cX, .slice aC C.length cC] 25).keep (below_alloc (Below.refl _ _) (.cells (madeCells #[.int .i64 0] m) 3))
  have hown := own_made (w.alloc (.cells #[.int .i64 N, .slice aT T.length cT, .slice aX X.length cX, .slice aC C.length cC] 25)) (w.heap.size + 1) m (by simp) (by omega)
  have hs : (w.alloc (.cells #[.int .i64 N, .slice aT T.length cT, .slice aX X.length cX, .slice aC C.length cC] 25)).heap.size = w.heap.size + 1 := by simp
  rw [hs] at hown
  rw [hmT, hmX] at hB hbox hown
  go_enter Try.func22, Try.ntmps22
  rw [hmT, hmX]
  go_wp2
  generalize hwa : (w.alloc _).alloc _ = wa at hB hbox hown ⊢
  clear hwa
  go_loopg [5] (m + 1) (fun q y wr => ∃ j : Nat, y = .int .i64 j ∧ q = m + 1 - j ∧ j ≤ m ∧ OwnN wr (w.heap.size + 1) (w.heap.size + 1) m m (part m j (-1) 0) ∧ BoxN wr w.heap.size #[.int .i64 N, .slice aT m cT, .slice aX m cX, .slice aC C.length cC] 25 ∧ Below w.heap.size w wr)
  case atStart => exact ⟨0, rfl, by omega, by omega, hown, hbox, hB⟩
  case round =>
    clear hown hbox hB
    obtain ⟨j, rfl, hq, hj, hown, hbox, hB⟩ := hrel
    by_cases hjm : j < m
    · have hjI : (j : Int) < m := by omega
      have c1 := hown.cell j (by omega) hjI
      have f1 := hown.fz j
      rw [Int.toNat_natCast] at c1 f1
      have h2 := hown.set j (-1)
      rw [st_part m j (-1) 0 hjm, Int.toNat_natCast] at h2
      have hbox2 := hbox.far (p := ⟨w.heap.size + 1, j, none⟩) (by simp) (.int .i64 (-1))
      have hB2 := below_set hB (p := ⟨w.heap.size + 1, j, none⟩) (by simp) (.int .i64 (-1))
      go_wp2
      go_roundg (m + 1 - (j + 1))
      case rel => exact ⟨j + 1, rfl, rfl, by omega, h2, hbox2, hB2⟩
      case measure => omega
    · have hjI : ¬ (j : Int) < m := by omega
      obtain rfl : j = m := by omega
      have hown0 : OwnN wr (w.heap.size + 1) (w.heap.size + 1) j j (facesTo X 0).1 := by
        rw [show (facesTo X 0).1 = part j j (-1) 0 from by simp [facesTo, part, hmX]]
        exact hown
      clear hown
      go_wp2
      go_loopg [6, 7] (j + 1) (fun q y6 y7 wr => ∃ d : Nat, y6 = .int .i64 (facesTo X d).2 ∧ y7 = .int .i64 d ∧ q = j + 1 - d ∧ d ≤ j ∧ OwnN wr (w.heap.size + 1) (w.heap.size + 1) j j (facesTo X d).1 ∧ BoxN wr w.heap.size #[.int .i64 N, .slice aT j cT, .slice aX j cX, .slice aC C.length cC] 25 ∧ Below w.heap.size w wr)
      case atStart => exact ⟨0, rfl, rfl, by omega, by omega, hown0, hbox, hB⟩
      case round =>
        clear hown0 hbox hB
        obtain ⟨d, rfl, rfl, hq2, hd, hown, hbox, hB⟩ := hrel
        by_cases hdm : d < j
        · have hdI : (d : Int) < j := by omega
          have c1 := hown.cell d (by omega) hdI
          rw [Int.toNat_natCast] at c1
          have F := facesTo_rng X d
          have FB := Bx.mk F
          have hk0 := F.2.1
          have hk1 := F.2.2
          clear F
          obtain ⟨k, hk⟩ : ∃ k, (facesTo X d).2 = k := ⟨_, rfl⟩
          rw [hk] at hk0 hk1 ⊢
          obtain ⟨of, hof⟩ : ∃ of, (facesTo X d).1 = of := ⟨_, rfl⟩
          rw [hof] at hown c1
          obtain ⟨z, hz⟩ : ∃ z, rd of d = z := ⟨_, rfl⟩
          rw [hz] at c1
          by_cases hzp : 0 ≤ z
          · have hnext : facesTo X (d + 1) = (of, k) := by
              rw [facesTo, fstep, hof, hk, hz, if_pos hzp]
              rw [← hof, ← hk]
            have NB := Bx.mk hnext
            clear hnext hof hk
            go_wp2
            go_roundg (j + 1 - (d + 1))
            case rel => exact ⟨d + 1, by rw [NB.out], rfl, rfl, by omega, by rw [NB.out]; exact hown, hbox, hB⟩
            case measure => omega
          · have hzn : ¬ z ≥ 0 := hzp
            obtain ⟨L, hch, hin, hll⟩ := hR d (by omega) (by omega)
            have hnext : facesTo X (d + 1) = (setAll of (d :: L) k, k + 1) := by
              rw [facesTo, fstep, hof, hk, hz, if_neg hzp, ring_eq hch]
            have NB := Bx.mk hnext
            clear hnext hof hk
            have b0 := hbox.cell 0
            have b1 := hbox.cell 1
            have b2 := hbox.cell 2
            have b3 := hbox.cell 3
            have HX := hX.keep hB
            have FA := face_any (w := wr) (N := N) (aT := aT) (aC := aC) (cT := cT) (cX := cX) (cC := cC) (T := T) (C := C) d L HX he hm hch hin hll
            rw [hmT, hmX] at FA
            have hnz : 0 ≤ k + 1 := by omega
            go_wp2_with fail
            refine FA.mono ?_
            rintro r w1 ⟨v, rfl, hv, hB1⟩
            clear FA b0 b1 b2 b3 HX c1
            have hown1 := hown.keep hB1
            have hbox1 := hbox.keep hB1
            have hBw := below_below hB hB1
            have hsz := hown.rng.2
            clear hown hbox hB hB1 hch
            rcases hv.cases with ⟨_, hnil⟩ | ⟨g2, cap2, rfl, _, _, hv⟩
            · cases hnil
            · have hg2 := hv.rng.1
              obtain ⟨n, hn⟩ : ∃ n, ((d : Int) :: L).length = n := ⟨_, rfl⟩
              obtain ⟨LL, hLL⟩ : ∃ LL, (d : Int) :: L = LL := ⟨_, rfl⟩
              rw [hLL] at hn hv hin NB ⊢
              have hn2 : n ≤ 241 := by rw [← hn, ← hLL]; simp; omega
              rw [hn] at hv ⊢
              go_wp2
              go_loopg [9] (n + 1) (fun q y wx => ∃ pre suf, y = .int .i64 (pre.length : Nat) ∧ q = suf.length + 1 ∧ LL = pre ++ suf ∧ OwnN wx wr.heap.size g2 cap2 n LL ∧ OwnN wx (w.heap.size + 1) (w.heap.size + 1) j j (setAll of pre k) ∧ BoxN wx w.heap.size #[.int .i64 N, .slice aT j cT, .slice aX j cX, .slice aC C.length cC] 25 ∧ Below w.heap.size w wx)
              case atStart => exact ⟨[], LL, rfl, by rw [hn], rfl, hv, hown1, hbox1, hBw⟩
              case round =>
                clear hown1 hbox1 hBw hv
                obtain ⟨pre, suf, rfl, hq3, hls, hv, hown, hbox, hB⟩ := hrel
                cases suf with
                | nil =>
                  rw [List.append_nil] at hls
                  subst hls
                  have hpl : ¬ (LL.length : Int) < n := by omega
                  go_wp2
                  go_roundg (j + 1 - (d + 1))
                  case rel => exact ⟨d + 1, by rw [NB.out], rfl, rfl, by omega, by rw [NB.out]; exact hown, hbox, hB⟩
                  case measure => omega
                | cons x suf =>
                  have hpl : (pre.length : Int) < n := by rw [← hn, hls]; simp; omega
                  have hxr := hin x (by rw [hls]; simp)
                  have hrx : rd LL pre.length = x := by rw [hls, rd_mid]
                  have cx := hv.cell pre.length (by omega) hpl
                  rw [hrx, Int.toNat_natCast] at cx
                  have co := hown.cell x hxr.1 (by omega)
                  have fo := hown.fz x
                  have hxj : x < j := by omega
                  have hown2 := hown.set x k
                  rw [← setAll_app] at hown2
                  have hv2 := hv.far (p := ⟨w.heap.size + 1, x.toNat, none⟩) (by show w.heap.size + 1 ≠ g2; omega) (.int .i64 k)
                  have hbox2 := hbox.far (p := ⟨w.heap.size + 1, x.toNat, none⟩) (by simp) (.int .i64 k)
                  have hB2 := below_set hB (p := ⟨w.heap.size + 1, x.toNat, none⟩) (by simp) (.int .i64 k)
                  have LS := Bx.mk hls
                  clear hls hown hbox hB hv
                  go_wp2
                  go_roundg (suf.length + 1)
                  case rel => exact ⟨pre ++ [x], suf, by simp, rfl, by rw [LS.out]; simp, hv2, hown2, hbox2, hB2⟩
                  case measure => simp at hq3; omega
        · have hdI : ¬ (d : Int) < j := by omega
          obtain rfl : d = j := by omega
          have F := facesTo_rng X d
          have e1 : faceN X = (facesTo X d).2 := by rw [faceN, hmX]
          have e2 : facesOf X = (facesTo X d).1 := by rw [facesOf, hmX]
          obtain ⟨k, hk⟩ : ∃ k, (facesTo X d).2 = k := ⟨_, rfl⟩
          have hk0 := F.2.1
          rw [hk] at hk0 ⊢
          have KB := Bx.mk (And.intro e1 (And.intro e2 hk))
          clear e1 e2 hk F
          rcases Int.lt_or_le k 1 with h1 | h1
          · have h2 : ¬ 1 ≤ k := by omega
            go_wp2
            all_goals go_ret2
            all_goals
              obtain ⟨e1, e2, e3⟩ := KB.out
              refine ⟨.slice (some ⟨w.heap.size + 1, 0, none⟩) d d, ?_, by rw [e2]; exact Own.low hown.own (by omega), hB⟩
              rw [e1, e3, show max k 1 = 1 from by omega]
              rfl
          · go_wp2
            all_goals go_ret2
            all_goals
              obtain ⟨e1, e2, e3⟩ := KB.out
              refine ⟨.slice (some ⟨w.heap.size + 1, 0, none⟩) d d, ?_, by rw [e2]; exact Own.low hown.own (by omega), hB⟩
              rw [e1, e3, show max k 1 = k from by omega]
              first
                | rfl
                | (rw [show k = 1 from by omega]; rfl)
end
end Go.Proofs.Ytidcofjadlfahaa
