/- The walk of Plane: a net, grown by numbers. -/
import Derived.Test.YtidcofjadlfahaaGr
import Derived.Test.YtidcofjadlfahaaHeld
import Derived.Test.YtidcofjadlfahaaAp
import Derived.Handy
set_option linter.unusedVariables false
set_option linter.unusedSimpArgs false
namespace Go.Proofs.Ytidcofjadlfahaa
open Go.RowKit

/-- The net so far: behind a struct, each row in a block of its own. -/
structure PSt (w0 w : World) (N : Int) (vT vX vC : Value) (n : PNet) : Prop where
  box : BoxN w (w0.heap.size + 1) #[.int .i64 N, vT, vX, vC] 25
  z : BoxN w w0.heap.size #[.int .i64 0, .slice none 0 0, .slice none 0 0, .slice none 0 0] 25
  T : Own w (w0.heap.size + 2) vT n.T
  X : Own w (w0.heap.size + 2) vX n.X
  C : Own w (w0.heap.size + 2) vC n.C
  B : Below w0.heap.size w0 w
theorem PSt.keep {w0 w w' : World} {N : Int} {vT vX vC : Value} {n : PNet} (h : PSt w0 w N vT vX vC n) (hb : Below w.heap.size w w') : PSt w0 w' N vT vX vC n :=
  ⟨h.box.keep hb, h.z.keep hb, h.T.keep hb, h.X.keep hb, h.C.keep hb, below_below h.B hb⟩
/-- Of the first x darts those whose corner is of e's face. -/
noncomputable def sameTo (n : PNet) (e : Int) (x : Nat) : List Int := ((List.range x).map Int.ofNat).filter fun y => rd (facesOf n.X) (rd n.X y) == rd (facesOf n.X) (rd n.X e)
theorem sameTo_next (n : PNet) (e : Int) (x : Nat) : sameTo n e (x + 1) = if rd (facesOf n.X) (rd n.X x) = rd (facesOf n.X) (rd n.X e) then sameTo n e x ++ [(x : Int)] else sameTo n e x := by
  unfold sameTo
  rw [List.range_succ, List.map_append, List.filter_append]
  by_cases h : rd (facesOf n.X) (rd n.X x) = rd (facesOf n.X) (rd n.X e)
  · rw [if_pos h]
    simp [h]
  · rw [if_neg h]
    simp [h]
theorem sameTo_le (n : PNet) (e : Int) (x : Nat) : (sameTo n e x).length ≤ x := by
  have := List.length_filter_le (fun y => rd (facesOf n.X) (rd n.X y) == rd (facesOf n.X) (rd n.X e)) ((List.range x).map Int.ofNat)
  simpa [sameTo] using this
noncomputable def planeTo (zs : List Int) (j : Nat) : PNet := (zs.take j).foldl (fun n z => growK n (wi z 1125899906842624)) ⟨1, [], [], []⟩
theorem planeTo_next (zs : List Int) (j : Nat) (h : j < zs.length) : planeTo zs (j + 1) = growK (planeTo zs j) (wi (rd zs j) 1125899906842624) := by
  unfold planeTo
  have e : rd zs j = zs[j] := by simp [rd, List.getD_eq_getElem?_getD, List.getElem?_eq_getElem h]
  rw [List.take_add_one, List.getElem?_eq_getElem h, List.foldl_append, e]
  rfl
theorem planeTo_fine (zs : List Int) : ∀ j, Fine (planeTo zs j) ∧ (planeTo zs j).T.length ≤ 2 * j ∧ (planeTo zs j).N ≤ j + 1
  | 0 => ⟨by simpa [planeTo] using nil_fine, by simp [planeTo], by simp [planeTo]⟩
  | j + 1 => by
    obtain ⟨a, b, c⟩ := planeTo_fine zs j
    rcases Nat.lt_or_ge j zs.length with h | h
    · rw [planeTo_next zs j h]
      obtain ⟨p, q, r⟩ := a.grow (wi_rng (rd zs j) 1125899906842624 (by omega)).1
      exact ⟨p, by omega, by omega⟩
    · have e : planeTo zs (j + 1) = planeTo zs j := by
        unfold planeTo
        rw [List.take_of_length_le (by omega), List.take_of_length_le h]
      rw [e]
      exact ⟨a, by omega, by omega⟩
theorem planeTo_all (zs : List Int) (j : Nat) (h : j = 24 ∨ (j = zs.length ∧ j ≤ 24)) : planeTo zs j = planeOf zs := by
  unfold planeTo planeOf
  rcases h with rfl | ⟨rfl, h⟩
  · rfl
  · rw [List.take_of_length_le (Nat.le_refl _), List.take_of_length_le h]
theorem own_two (w : World) (B : Nat) (x y : Int) (h : B ≤ w.heap.size) : Own (w.alloc (.cells #[.int .i64 x, .int .i64 y] 3)) B (.slice (some ⟨w.heap.size, 0, none⟩) 2 2) [x, y] := by
  have := World.ownsRow_lit (base := B) (e := 3) (size := 1) w #[.int .i64 x, .int .i64 y] 2 h (by unfold maxLen; omega) rfl
  unfold Own nums
  exact this

theorem BoxN.set0 {w : World} {b : Nat} {y0 y1 y2 y3 : Value} {t : TypeId} (h : BoxN w b #[y0, y1, y2, y3] t) (x : Value) : BoxN (w.setCell ⟨b, 0, none⟩ x) b #[x, y1, y2, y3] t := by
  unfold BoxN at *
  simp [World.setCell, Array.getElem?_modify, h]
theorem BoxN.set1 {w : World} {b : Nat} {y0 y1 y2 y3 : Value} {t : TypeId} (h : BoxN w b #[y0, y1, y2, y3] t) (x : Value) : BoxN (w.setCell ⟨b, 1, none⟩ x) b #[y0, x, y2, y3] t := by
  unfold BoxN at *
  simp [World.setCell, Array.getElem?_modify, h]
theorem BoxN.set2 {w : World} {b : Nat} {y0 y1 y2 y3 : Value} {t : TypeId} (h : BoxN w b #[y0, y1, y2, y3] t) (x : Value) : BoxN (w.setCell ⟨b, 2, none⟩ x) b #[y0, y1, x, y3] t := by
  unfold BoxN at *
  simp [World.setCell, Array.getElem?_modify, h]
theorem BoxN.set3 {w : World} {b : Nat} {y0 y1 y2 y3 : Value} {t : TypeId} (h : BoxN w b #[y0, y1, y2, y3] t) (x : Value) : BoxN (w.setCell ⟨b, 3, none⟩ x) b #[y0, y1, y2, x] t := by
  unfold BoxN at *
  simp [World.setCell, Array.getElem?_modify, h]
theorem store4 {ops : Array Oper} {rest : List Oper} {o : Oper} {a : Act} {Q : Exit → Act → World → Prop} {W : World} (hgd : o.guard = none) (hd : o.dst = none) (p v : Operand)
    (ho : o.op = .store 25 p v) (b : Nat) (hp : a.eval p = .pointer (some ⟨b, 0, none⟩)) (N : Int) (a1 a2 a3 : Option Addr) (l1 k1 l2 k2 l3 k3 : Nat) (hv : a.eval v = .agg #[.int .i64 N, .slice a1 l1 k1, .slice a2 l2 k2, .slice a3 l3 k3]) (y0 y1 y2 y3 : Value) (t' : TypeId)
    (hbox : BoxN W b #[y0, y1, y2, y3] t') (h : ∀ w1, BoxN w1 b #[.int .i64 N, .slice a1 l1 k1, .slice a2 l2 k2, .slice a3 l3 k3] t' → W.grownBy w1 (some b) → wpList Try.prog ops Q rest a w1) : wpList Try.prog ops Q (o :: rest) a W := by
  obtain ⟨x0, e0⟩ : ∃ x0, x0 = Value.int .i64 N := ⟨_, rfl⟩
  obtain ⟨x1, e1⟩ : ∃ x1, x1 = Value.slice a1 l1 k1 := ⟨_, rfl⟩
  obtain ⟨x2, e2⟩ : ∃ x2, x2 = Value.slice a2 l2 k2 := ⟨_, rfl⟩
  obtain ⟨x3, e3⟩ : ∃ x3, x3 = Value.slice a3 l3 k3 := ⟨_, rfl⟩
  rw [← e0, ← e1, ← e2, ← e3] at hv h
  have k0 : x0.cells = #[x0] := by rw [e0]; rfl
  have q1 : x1.cells = #[x1] := by rw [e1]; rfl
  have q2 : x2.cells = #[x2] := by rw [e2]; rfl
  have q3 : x3.cells = #[x3] := by rw [e3]; rfl
  have b1 := hbox.set0 x0
  have b2 := b1.set1 x1
  have b3 := b2.set2 x2
  have b4 := b3.set3 x3
  have g1 := (((grown_set W ⟨b, 0, none⟩ x0).trans (grown_set _ ⟨b, 1, none⟩ x1)).trans (grown_set _ ⟨b, 2, none⟩ x2)).trans (grown_set _ ⟨b, 3, none⟩ x3)
  refine wpList_plain hgd fun K hK => ?_
  have c0 : W.cell? ⟨b, 0, none⟩ = some y0 := hbox.cell 0
  have f0 := hbox.fz 0
  have c1 : (W.setCell ⟨b, 0, none⟩ x0).cell? ⟨b, 1, none⟩ = some y1 := b1.cell 1
  have f1 := b1.fz 1
  have c2 : ((W.setCell ⟨b, 0, none⟩ x0).setCell ⟨b, 1, none⟩ x1).cell? ⟨b, 2, none⟩ = some y2 := b2.cell 2
  have f2 := b2.fz 2
  have c3 : (((W.setCell ⟨b, 0, none⟩ x0).setCell ⟨b, 1, none⟩ x1).setCell ⟨b, 2, none⟩ x2).cell? ⟨b, 3, none⟩ = some y3 := b3.cell 3
  have f3 := b3.fz 3
  unfold Oper.wp execOp
  simp only [ho, hp, hv]
  clear hbox b1 b2 b3 k0 q1 q2 q3
  subst e0 e1 e2 e3
  go_simp
  exact hK _ _ (h _ b4 g1)
theorem pst_tail {w0 wc W : World} {N : Int} {vT vX vC : Value} {n : PNet} {x g cap : Nat} {te wv : Int} (hS : PSt w0 wc N vT vX vC n) (hB : Below wc.heap.size wc W) (hm : n.T.length = x)
    (hO : W.ownsRow wc.heap.size 3 1 (.slice (some ⟨g, 0, none⟩) (x + 2) cap) (x + 2) (nums n.T ++ [.int .i64 te, .int .i64 wv])) :
    PSt w0 (W.setCell ⟨w0.heap.size + 1, 1, none⟩ (.slice (some ⟨g, 0, none⟩) (x + 2) cap)) N (.slice (some ⟨g, 0, none⟩) (x + 2) cap) vX vC ⟨n.N, n.T ++ [te, wv], n.X, n.C⟩ := by
  have h := hS.keep hB
  have hl := hS.box.lt
  have hg0 := grown_set W ⟨w0.heap.size + 1, 1, none⟩ (.slice (some ⟨g, 0, none⟩) (x + 2) cap)
  have hO' : Own W wc.heap.size (.slice (some ⟨g, 0, none⟩) (x + 2) cap) (n.T ++ [te, wv]) := by
    unfold Own
    rw [show (n.T ++ [te, wv]).length = x + 2 from by simp [hm], show nums (n.T ++ [te, wv]) = nums n.T ++ [.int .i64 te, .int .i64 wv] from by simp [nums]]
    exact hO
  refine ⟨h.box.set1 _, h.z.far (by simp) _, ?_, World.ownsRow.kept h.X hg0 (.inr (Own.block h.X (by simp))), World.ownsRow.kept h.C hg0 (.inr (Own.block h.C (by simp))), below_grown h.B hg0 (fun q hq => by simp at hq; omega)⟩
  exact Own.low (World.ownsRow.kept hO' hg0 (.inr (Own.block hO' (by show w0.heap.size + 1 < wc.heap.size; omega)))) (by omega)
theorem news_box {W : World} {b : Nat} {x y : Value} {t : TypeId} (h : BoxN W b #[x, y] t) : ∀ j u, [x, y][j]? = some u → W.cell? ((⟨b, 0, none⟩ : Addr).add j) = some u := World.news_of_block (cs := #[x, y]) h
theorem pst_first {w0 W w2 : World} {N x y p q c d : Int} (hlt : w0.heap.size + 1 < W.heap.size) (z : BoxN W w0.heap.size #[.int .i64 0, .slice none 0 0, .slice none 0 0, .slice none 0 0] 25) (B : Below w0.heap.size w0 W)
    (hb : BoxN w2 (w0.heap.size + 1) #[.int .i64 N, .slice (some ⟨W.heap.size, 0, none⟩) 2 2, .slice (some ⟨W.heap.size + 1, 0, none⟩) 2 2, .slice (some ⟨W.heap.size + 1 + 1, 0, none⟩) 2 2] 25)
    (hg : (((W.alloc (.cells #[.int .i64 x, .int .i64 y] 3)).alloc (.cells #[.int .i64 p, .int .i64 q] 3)).alloc (.cells #[.int .i64 c, .int .i64 d] 3)).grownBy w2 (some (w0.heap.size + 1))) :
    PSt w0 w2 N (.slice (some ⟨W.heap.size, 0, none⟩) 2 2) (.slice (some ⟨W.heap.size + 1, 0, none⟩) 2 2) (.slice (some ⟨W.heap.size + 1 + 1, 0, none⟩) 2 2) ⟨N, [x, y], [p, q], [c, d]⟩ := by
  have s1 : ∀ (W : World) o, (W.alloc o).heap.size = W.heap.size + 1 := fun W o => by simp
  have r1 := (((own_two W (w0.heap.size + 2) x y (by omega)).keep (below_alloc (Below.refl _ _) (.cells #[.int .i64 p, .int .i64 q] 3))).keep (below_alloc (Below.refl _ _) (.cells #[.int .i64 c, .int .i64 d] 3)))
  have r2 := (own_two (W.alloc (.cells #[.int .i64 x, .int .i64 y] 3)) (w0.heap.size + 2) p q (by rw [s1]; omega)).keep (below_alloc (Below.refl _ _) (.cells #[.int .i64 c, .int .i64 d] 3))
  have r3 := own_two ((W.alloc (.cells #[.int .i64 x, .int .i64 y] 3)).alloc (.cells #[.int .i64 p, .int .i64 q] 3)) (w0.heap.size + 2) c d (by rw [s1, s1]; omega)
  rw [s1] at r2
  rw [s1, s1] at r3
  have hB := below_alloc (below_alloc (below_alloc B (.cells #[.int .i64 x, .int .i64 y] 3)) (.cells #[.int .i64 p, .int .i64 q] 3)) (.cells #[.int .i64 c, .int .i64 d] 3)
  have hz := ((z.keep (below_alloc (Below.refl _ _) (.cells #[.int .i64 x, .int .i64 y] 3))).keep (below_alloc (Below.refl _ _) (.cells #[.int .i64 p, .int .i64 q] 3))).keep (below_alloc (Below.refl _ _) (.cells #[.int .i64 c, .int .i64 d] 3))
  exact ⟨hb, hz.grown hg (by simp), World.ownsRow.kept r1 hg (.inr (by simp [Value.ownBlock]; omega)), World.ownsRow.kept r2 hg (.inr (by simp [Value.ownBlock]; omega)), World.ownsRow.kept r3 hg (.inr (by simp [Value.ownBlock]; omega)), below_grown hB hg (fun k hk => by injection hk with hk; omega)⟩

theorem pst_next {w0 wc W : World} {N : Int} {vT vX vC : Value} {n : PNet} {g cap k : Nat} {X : List Int} (hS : PSt w0 wc N vT vX vC n) (hB : Below wc.heap.size wc W) (hO : OwnN W wc.heap.size g cap k X) :
    PSt w0 (W.setCell ⟨w0.heap.size + 1, 2, none⟩ (.slice (some ⟨g, 0, none⟩) k cap)) N vT (.slice (some ⟨g, 0, none⟩) k cap) vC ⟨n.N, n.T, X, n.C⟩ := by
  have h := hS.keep hB
  have hl := hS.box.lt
  have hg0 := grown_set W ⟨w0.heap.size + 1, 2, none⟩ (.slice (some ⟨g, 0, none⟩) k cap)
  refine ⟨h.box.set2 _, h.z.far (by simp) _, World.ownsRow.kept h.T hg0 (.inr (Own.block h.T (by simp))), ?_, World.ownsRow.kept h.C hg0 (.inr (Own.block h.C (by simp))), below_grown h.B hg0 (fun q hq => by simp at hq; omega)⟩
  exact Own.low (World.ownsRow.kept hO.own hg0 (.inr (Own.block hO.own (by show w0.heap.size + 1 < wc.heap.size; omega)))) (by omega)
theorem pst_caps {w0 wc W : World} {N : Int} {vT vX vC : Value} {n : PNet} {g cap k : Nat} {X : List Int} (hS : PSt w0 wc N vT vX vC n) (hB : Below wc.heap.size wc W) (hO : OwnN W wc.heap.size g cap k X) :
    PSt w0 (W.setCell ⟨w0.heap.size + 1, 3, none⟩ (.slice (some ⟨g, 0, none⟩) k cap)) N vT vX (.slice (some ⟨g, 0, none⟩) k cap) ⟨n.N, n.T, n.X, X⟩ := by
  have h := hS.keep hB
  have hl := hS.box.lt
  have hg0 := grown_set W ⟨w0.heap.size + 1, 3, none⟩ (.slice (some ⟨g, 0, none⟩) k cap)
  refine ⟨h.box.set3 _, h.z.far (by simp) _, World.ownsRow.kept h.T hg0 (.inr (Own.block h.T (by simp))), World.ownsRow.kept h.X hg0 (.inr (Own.block h.X (by simp))), ?_, below_grown h.B hg0 (fun q hq => by simp at hq; omega)⟩
  exact Own.low (World.ownsRow.kept hO.own hg0 (.inr (Own.block hO.own (by show w0.heap.size + 1 < wc.heap.size; omega)))) (by omega)
theorem pst_lay {w0 W w' : World} {N : Int} {vT vC : Value} {n : PNet} {g cap k : Nat} {X : List Int} (h : PSt w0 W N vT (.slice (some ⟨g, 0, none⟩) k cap) vC n) (hT : vT.ownBlock ≠ some g) (hC : vC.ownBlock ≠ some g) (hg : w0.heap.size + 2 ≤ g)
    (hw : ∀ b, b ≠ g → w'.heap[b]? = W.heap[b]?) (e1 : w'.os = W.os) (e2 : w'.tape = W.tape) (e3 : w'.output = W.output) (e4 : w'.heap.size = W.heap.size) (hO : OwnN w' (w0.heap.size + 2) g cap k X) :
    PSt w0 w' N vT (.slice (some ⟨g, 0, none⟩) k cap) vC ⟨n.N, n.T, X, n.C⟩ := by
  have hgr : W.grownBy w' (some g) := ⟨e1, e2, e3, by omega, fun b _ hne => hw b (fun e => hne (by rw [e]))⟩
  exact ⟨h.box.grown hgr (by simp; omega), h.z.grown hgr (by simp; omega), World.ownsRow.kept h.T hgr (.inr hT), hO.own, World.ownsRow.kept h.C hgr (.inr hC), below_grown h.B hgr (fun q hq => by injection hq with hq; omega)⟩
theorem PSt.reN {w0 w : World} {N N' : Int} {vT vX vC : Value} {n : PNet} (h : PSt w0 w N vT vX vC n) : PSt w0 w N vT vX vC ⟨N', n.T, n.X, n.C⟩ := ⟨h.box, h.z, h.T, h.X, h.C, h.B⟩
theorem grow_eq {n : PNet} {k e g te wv N N' p1 p2 : Int} {x : Nat} {sl : List Int} (hm : n.T.length = x) (h0 : ¬ x = 0) (he : k.tdiv 5 % x = e) (hs : sameL n e = sl) (hg : rd sl (k.tdiv 1200 % sl.length) = g) (hte : rd n.T e = te)
    (hwv : wv = if k % 5 < 2 then N else rd n.T g) (hN' : N' = if k % 5 < 2 then N + 1 else N) (hN : N = n.N) (hp1 : capOf (k.tdiv 30) = p1) (hp2 : capOf (k.tdiv 7000) = p2) :
    growK n k = ⟨N', n.T ++ [te, wv], if k % 5 < 2 then layL ([] ++ n.X ++ [(x : Int), (x : Int) + 1]) e x else layL (layL ([] ++ n.X ++ [(x : Int), (x : Int) + 1]) e x) (if g = e then x else g) (x + 1), [] ++ n.C ++ [p1, p2]⟩ := by
  subst hwv hN' hp1 hp2 hN hte
  rw [growK, if_neg (by omega), hm]
  simp only [he, hs, hg]
  by_cases c : k % 5 < 2
  · simp [if_pos c]
  · simp [if_neg c]

set_option maxHeartbeats 6400000 in
set_option maxRecDepth 100000 in
theorem plane_any (a : Option Addr) (cap : Nat) (zs : List Int) (w : World) (hz : RowOf w a zs) :
    Calls Try.prog 7 #[.slice a zs.length cap] w fun r w' => ∃ vT vX vC, r = .returned (.agg #[.int .i64 (planeOf zs).N, vT, vX, vC]) ∧ Own w' w.heap.size vT (planeOf zs).T ∧ Own w' w.heap.size vX (planeOf zs).X ∧ Own w' w.heap.size vC (planeOf zs).C ∧ Below w.heap.size w w' := by
  obtain ⟨i0, hi, hz0, hz1, hz2⟩ := info_parts info3
  obtain ⟨len, hlen⟩ : ∃ len, zs.length = len := ⟨_, rfl⟩
  go_enter Try.func7, Try.ntmps7
  rw [hlen]
  have st0 : PSt w ((w.alloc (.cells #[.int .i64 0, .slice none 0 0, .slice none 0 0, .slice none 0 0] 25)).alloc (.cells #[.int .i64 1, .slice none 0 0, .slice none 0 0, .slice none 0 0] 25)) 1 (.slice none 0 0) (.slice none 0 0) (.slice none 0 0) ⟨1, [], [], []⟩ := by
    refine ⟨?_, (box_new w _ _).keep (below_alloc (Below.refl _ _) _), Own.nil _ _, Own.nil _ _, Own.nil _ _, below_alloc (below_alloc (Below.refl _ _) _) _⟩
    have := box_new (w.alloc (.cells #[.int .i64 0, .slice none 0 0, .slice none 0 0, .slice none 0 0] 25)) #[.int .i64 1, .slice none 0 0, .slice none 0 0, .slice none 0 0] 25
    rw [show (w.alloc (.cells #[.int .i64 0, .slice none 0 0, .slice none 0 0, .slice none 0 0] 25)).heap.size = w.heap.size + 1 from by simp] at this
    exact this
  go_wp2_with fail
  go_loopg [4] 25 (fun q y wr => ∃ (j : Nat) (N : Int) (vT vX vC : Value) (n : PNet), y = .int .i64 j ∧ j ≤ 24 ∧ j ≤ len ∧ q = 25 - j ∧ n = planeTo zs j ∧ N = n.N ∧ PSt w wr N vT vX vC n)
  case atStart => exact ⟨0, 1, _, _, _, _, rfl, by omega, by omega, by omega, rfl, rfl, st0⟩
  case round =>
    clear st0
    obtain ⟨j, N, vT, vX, vC, n, rfl, hj, hjl, hq, hn, hN, hS⟩ := hrel
    have hF := planeTo_fine zs j
    rw [← hn] at hF
    obtain ⟨hF, hF2, hF3⟩ := hF
    by_cases h24 : j < 24
    rotate_left
    · have h24I : ¬ (j : Int) < 24 := by omega
      have hall := planeTo_all zs j (.inl (by omega))
      by_cases hl : j < len
      · have hlI : (j : Int) < len := by omega
        obtain ⟨aT, cT, rfl, hT⟩ := hS.T.row
        obtain ⟨aX, cX, rfl, hX⟩ := hS.X.row
        obtain ⟨aC, cC, rfl, hC⟩ := hS.C.row
        have HS := Bx.mk hS
        have c0 : wr.cell? ⟨w.heap.size + 1, 0, none⟩ = some (.int .i64 N) := hS.box.cell 0
        have c1 : wr.cell? ⟨w.heap.size + 1, 1, none⟩ = some (.slice aT n.T.length cT) := hS.box.cell 1
        have c2 : wr.cell? ⟨w.heap.size + 1, 2, none⟩ = some (.slice aX n.X.length cX) := hS.box.cell 2
        have c3 : wr.cell? ⟨w.heap.size + 1, 3, none⟩ = some (.slice aC n.C.length cC) := hS.box.cell 3
        have NB := Bx.mk (And.intro hn (And.intro hN hall))
        clear hn hN hall hS
        go_wp2_with (refine store4 (by rfl) (by rfl) (.tmp 2) (.tmp 165) (by rfl) w.heap.size (by rfl) N aT aX aC n.T.length cT n.X.length cX n.C.length cC (by rfl) _ _ _ _ 25 HS.out.z ?_; intro w1 hb1 hg1)
        have d0 : w1.cell? ⟨w.heap.size, 0, none⟩ = some (.int .i64 N) := hb1.cell 0
        have d1 : w1.cell? ⟨w.heap.size, 1, none⟩ = some (.slice aT n.T.length cT) := hb1.cell 1
        have d2 : w1.cell? ⟨w.heap.size, 2, none⟩ = some (.slice aX n.X.length cX) := hb1.cell 2
        have d3 : w1.cell? ⟨w.heap.size, 3, none⟩ = some (.slice aC n.C.length cC) := hb1.cell 3
        try simp only [Exit.inBlock, Exit.then]
        refine bodyPost_ret (v := .agg #[.int .i64 N, .slice aT n.T.length cT, .slice aX n.X.length cX, .slice aC n.C.length cC]) (by simp [results, Try.results7, go_sem, d0, d1, d2, d3]) rfl ?_
        obtain ⟨rfl, rfl, e⟩ := NB.out
        rw [← e]
        have hS := HS.out
        exact ⟨_, _, _, rfl, Own.low (World.ownsRow.kept hS.T hg1 (.inr (Own.block hS.T (by omega)))) (by omega), Own.low (World.ownsRow.kept hS.X hg1 (.inr (Own.block hS.X (by omega)))) (by omega), Own.low (World.ownsRow.kept hS.C hg1 (.inr (Own.block hS.C (by omega)))) (by omega), below_grown hS.B hg1 (fun k hk => by injection hk with hk; omega)⟩
      · have hlI : ¬ (j : Int) < len := by omega
        obtain ⟨aT, cT, rfl, hT⟩ := hS.T.row
        obtain ⟨aX, cX, rfl, hX⟩ := hS.X.row
        obtain ⟨aC, cC, rfl, hC⟩ := hS.C.row
        have HS := Bx.mk hS
        have c0 : wr.cell? ⟨w.heap.size + 1, 0, none⟩ = some (.int .i64 N) := hS.box.cell 0
        have c1 : wr.cell? ⟨w.heap.size + 1, 1, none⟩ = some (.slice aT n.T.length cT) := hS.box.cell 1
        have c2 : wr.cell? ⟨w.heap.size + 1, 2, none⟩ = some (.slice aX n.X.length cX) := hS.box.cell 2
        have c3 : wr.cell? ⟨w.heap.size + 1, 3, none⟩ = some (.slice aC n.C.length cC) := hS.box.cell 3
        have NB := Bx.mk (And.intro hn (And.intro hN hall))
        clear hn hN hall hS
        go_wp2_with (refine store4 (by rfl) (by rfl) (.tmp 2) (.tmp 165) (by rfl) w.heap.size (by rfl) N aT aX aC n.T.length cT n.X.length cX n.C.length cC (by rfl) _ _ _ _ 25 HS.out.z ?_; intro w1 hb1 hg1)
        have d0 : w1.cell? ⟨w.heap.size, 0, none⟩ = some (.int .i64 N) := hb1.cell 0
        have d1 : w1.cell? ⟨w.heap.size, 1, none⟩ = some (.slice aT n.T.length cT) := hb1.cell 1
        have d2 : w1.cell? ⟨w.heap.size, 2, none⟩ = some (.slice aX n.X.length cX) := hb1.cell 2
        have d3 : w1.cell? ⟨w.heap.size, 3, none⟩ = some (.slice aC n.C.length cC) := hb1.cell 3
        try simp only [Exit.inBlock, Exit.then]
        refine bodyPost_ret (v := .agg #[.int .i64 N, .slice aT n.T.length cT, .slice aX n.X.length cX, .slice aC n.C.length cC]) (by simp [results, Try.results7, go_sem, d0, d1, d2, d3]) rfl ?_
        obtain ⟨rfl, rfl, e⟩ := NB.out
        rw [← e]
        have hS := HS.out
        exact ⟨_, _, _, rfl, Own.low (World.ownsRow.kept hS.T hg1 (.inr (Own.block hS.T (by omega)))) (by omega), Own.low (World.ownsRow.kept hS.X hg1 (.inr (Own.block hS.X (by omega)))) (by omega), Own.low (World.ownsRow.kept hS.C hg1 (.inr (Own.block hS.C (by omega)))) (by omega), below_grown hS.B hg1 (fun k hk => by injection hk with hk; omega)⟩
    · by_cases hl : j < len
      rotate_left
      · have hlI : ¬ (j : Int) < len := by omega
        have hall := planeTo_all zs j (.inr ⟨by omega, hj⟩)
        obtain ⟨aT, cT, rfl, hT⟩ := hS.T.row
        obtain ⟨aX, cX, rfl, hX⟩ := hS.X.row
        obtain ⟨aC, cC, rfl, hC⟩ := hS.C.row
        have HS := Bx.mk hS
        have c0 : wr.cell? ⟨w.heap.size + 1, 0, none⟩ = some (.int .i64 N) := hS.box.cell 0
        have c1 : wr.cell? ⟨w.heap.size + 1, 1, none⟩ = some (.slice aT n.T.length cT) := hS.box.cell 1
        have c2 : wr.cell? ⟨w.heap.size + 1, 2, none⟩ = some (.slice aX n.X.length cX) := hS.box.cell 2
        have c3 : wr.cell? ⟨w.heap.size + 1, 3, none⟩ = some (.slice aC n.C.length cC) := hS.box.cell 3
        have NB := Bx.mk (And.intro hn (And.intro hN hall))
        clear hn hN hall hS
        go_wp2_with (refine store4 (by rfl) (by rfl) (.tmp 2) (.tmp 165) (by rfl) w.heap.size (by rfl) N aT aX aC n.T.length cT n.X.length cX n.C.length cC (by rfl) _ _ _ _ 25 HS.out.z ?_; intro w1 hb1 hg1)
        have d0 : w1.cell? ⟨w.heap.size, 0, none⟩ = some (.int .i64 N) := hb1.cell 0
        have d1 : w1.cell? ⟨w.heap.size, 1, none⟩ = some (.slice aT n.T.length cT) := hb1.cell 1
        have d2 : w1.cell? ⟨w.heap.size, 2, none⟩ = some (.slice aX n.X.length cX) := hb1.cell 2
        have d3 : w1.cell? ⟨w.heap.size, 3, none⟩ = some (.slice aC n.C.length cC) := hb1.cell 3
        try simp only [Exit.inBlock, Exit.then]
        refine bodyPost_ret (v := .agg #[.int .i64 N, .slice aT n.T.length cT, .slice aX n.X.length cX, .slice aC n.C.length cC]) (by simp [results, Try.results7, go_sem, d0, d1, d2, d3]) rfl ?_
        obtain ⟨rfl, rfl, e⟩ := NB.out
        rw [← e]
        have hS := HS.out
        exact ⟨_, _, _, rfl, Own.low (World.ownsRow.kept hS.T hg1 (.inr (Own.block hS.T (by omega)))) (by omega), Own.low (World.ownsRow.kept hS.X hg1 (.inr (Own.block hS.X (by omega)))) (by omega), Own.low (World.ownsRow.kept hS.C hg1 (.inr (Own.block hS.C (by omega)))) (by omega), below_grown hS.B hg1 (fun k hk => by injection hk with hk; omega)⟩
      · have hlI : (j : Int) < len := by omega
        have h24I : (j : Int) < 24 := by omega
        obtain ⟨ab, ao, rfl, hc⟩ := hz.at hS.B j (by omega) (by omega)
        rw [Int.toNat_natCast] at hc
        have hnext := planeTo_next zs j (by omega)
        rw [← hn] at hnext
        obtain ⟨zj, hzj⟩ : ∃ zj, rd zs j = zj := ⟨_, rfl⟩
        rw [hzj] at hc hnext
        have hk := wi_rng zj 1125899906842624 (by omega)
        obtain ⟨k, hkk⟩ : ∃ k, wi zj 1125899906842624 = k := ⟨_, rfl⟩
        rw [hkk] at hk hnext
        have f0 := hS.box.fz 0
        have f1 := hS.box.fz 1
        have f2 := hS.box.fz 2
        have f3 := hS.box.fz 3
        have hlt := hS.box.lt
        obtain ⟨aT, cT, rfl, hT⟩ := hS.T.row
        obtain ⟨aX, cX, rfl, hX⟩ := hS.X.row
        obtain ⟨aC, cC, rfl, hC⟩ := hS.C.row
        obtain ⟨m, hm⟩ : ∃ m, n.T.length = m := ⟨_, rfl⟩
        have NB := Bx.mk (And.intro hn (And.intro hN hnext))
        clear hn hN hnext
        have hmX : n.X.length = m := by rw [hF.lx, hm]
        have hmC : n.C.length = m := by rw [hF.lc, hm]
        have c0 : wr.cell? ⟨w.heap.size + 1, 0, none⟩ = some (.int .i64 N) := hS.box.cell 0
        have c1 : wr.cell? ⟨w.heap.size + 1, 1, none⟩ = some (.slice aT m cT) := by rw [← hm]; exact hS.box.cell 1
        have c2 : wr.cell? ⟨w.heap.size + 1, 2, none⟩ = some (.slice aX m cX) := by rw [← hmX]; exact hS.box.cell 2
        have c3 : wr.cell? ⟨w.heap.size + 1, 3, none⟩ = some (.slice aC m cC) := by rw [← hmC]; exact hS.box.cell 3
        have hk30 := tdiv_rng k 30 hk.1 (by omega)
        have hk70 := tdiv_rng k 7000 hk.1 (by omega)
        go_wp2_with fail
        refine (within2_any zj 1125899906842624 (by omega) (by omega) _).mono ?_
        rintro e w' ⟨rfl, rfl⟩
        rw [hkk]
        go_wp2_with fail
        refine (cap_any (k.tdiv 30) _).mono ?_
        rintro e w' ⟨rfl, rfl⟩
        go_wp2_with fail
        refine (cap_any (k.tdiv 7000) _).mono ?_
        rintro e w' ⟨rfl, rfl⟩
        obtain ⟨p1, hp1⟩ : ∃ p1, capOf (k.tdiv 30) = p1 := ⟨_, rfl⟩
        obtain ⟨p2, hp2⟩ : ∃ p2, capOf (k.tdiv 7000) = p2 := ⟨_, rfl⟩
        rw [hp1, hp2]
        by_cases hm0 : m = 0
        · subst hm0
          have hmb : ((0 : Int) == 0) = true := by decide
          have hk5 := emod_rng k 5 hk.1 (by omega)
          have hb0 := hS.box
          have hz0' := hS.z
          have hB0 := hS.B
          have gr : growK n k = if k % 5 = 0 then ⟨1, [0, 0], [1, 0], [p1, p2]⟩ else ⟨2, [0, 1], [0, 1], [p1, p2]⟩ := by rw [growK, if_pos hm, hp1, hp2]
          by_cases hk0 : k % 5 = 0
          · have hb : (k % 5 == 0) = true := by simpa using hk0
            rw [if_pos hk0] at gr
            have GB := Bx.mk gr
            clear gr hk0
            go_wp2_with (first | (refine store4 (by rfl) (by rfl) (.tmp 3) (.tmp 48) (by rfl) (w.heap.size + 1) (by rfl) 2 (some ⟨wr.heap.size, 0, none⟩) (some ⟨wr.heap.size + 1, 0, none⟩) (some ⟨wr.heap.size + 1 + 1, 0, none⟩) 2 2 2 2 2 2 (by rfl) _ _ _ _ 25 (((hb0.keep (below_alloc (Below.refl _ _) _)).keep (below_alloc (Below.refl _ _) _)).keep (below_alloc (Below.refl _ _) _)) ?_; intro w1 hb1 hg1) | (refine store4 (by rfl) (by rfl) (.tmp 3) (.tmp 57) (by rfl) (w.heap.size + 1) (by rfl) 1 (some ⟨w1.heap.size, 0, none⟩) (some ⟨w1.heap.size + 1, 0, none⟩) (some ⟨w1.heap.size + 1 + 1, 0, none⟩) 2 2 2 2 2 2 (by rfl) _ _ _ _ 25 (((hb1.keep (below_alloc (Below.refl _ _) _)).keep (below_alloc (Below.refl _ _) _)).keep (below_alloc (Below.refl _ _) _)) ?_; intro w2 hb2 hg2))
            go_roundg (25 - (j + 1))
            case rel =>
              have q1 := pst_first hlt hz0' hB0 hb1 hg1
              have q2 := pst_first (W := w1) (by have := hb1.lt; omega) q1.z q1.B hb2 hg2
              exact ⟨j + 1, 1, _, _, _, _, rfl, by omega, by omega, rfl, (NB.out.2.2.trans GB.out).symm, rfl, q2⟩
            case measure => omega
          · have hb : (k % 5 == 0) = false := by simpa using hk0
            rw [if_neg hk0] at gr
            have GB := Bx.mk gr
            clear gr hk0
            go_wp2_with (refine store4 (by rfl) (by rfl) (.tmp 3) (.tmp 48) (by rfl) (w.heap.size + 1) (by rfl) 2 (some ⟨wr.heap.size, 0, none⟩) (some ⟨wr.heap.size + 1, 0, none⟩) (some ⟨wr.heap.size + 1 + 1, 0, none⟩) 2 2 2 2 2 2 (by rfl) _ _ _ _ 25 (((hb0.keep (below_alloc (Below.refl _ _) _)).keep (below_alloc (Below.refl _ _) _)).keep (below_alloc (Below.refl _ _) _)) ?_; intro w1 hb1 hg1)
            go_roundg (25 - (j + 1))
            case rel =>
              have q1 := pst_first hlt hz0' hB0 hb1 hg1
              exact ⟨j + 1, 2, _, _, _, _, rfl, by omega, by omega, rfl, (NB.out.2.2.trans GB.out).symm, rfl, q1⟩
            case measure => omega
        · have hmb : ((m : Int) == 0) = false := by simp; omega
          have hmI : 0 < (m : Int) := by omega
          have hmz : ¬ (m : Int) = 0 := by omega
          have hke := tdiv_rng k 5 hk.1 (by omega)
          have he := emod_rng (k.tdiv 5) m hke.1 (by omega)
          have hkg := tdiv_rng k 1200 hk.1 (by omega)
          have hk5 := emod_rng k 5 hk.1 (by omega)
          obtain ⟨e, hee⟩ : ∃ e, k.tdiv 5 % (m : Int) = e := ⟨_, rfl⟩
          have he' := he
          rw [hee] at he'
          have hev : (n.X.length : Int) % 2 = 0 := by rw [hF.lx]; exact hF.ev
          have FA := faces_any (w := wr) (N := N) (aT := aT) (aX := aX) (aC := aC) (cT := cT) (cX := cX) (cC := cC) (T := n.T) (X := n.X) (C := n.C) hX hF.lx.symm hev (by omega) (rings_of hF.px hev (by omega))
          rw [hm, hmX, hmC] at FA
          go_wp2_with fail
          refine FA.mono ?_
          rintro r w1 ⟨v10, rfl, hv10, hB1⟩
          clear FA
          have hS1 := hS.keep hB1
          have hfl : (facesOf n.X).length = m := by rw [facesOf, (facesTo_rng n.X n.X.length).1, hmX]
          have hfr := hv10
          obtain ⟨aF, cF, rfl, hFr⟩ := hv10.row
          rw [hfl, hee]
          have hX1 := hX.keep hB1
          have hxe := hF.px.rng e he'.1 (by omega)
          go_wp2_with fail
          go_loopg [12, 13] (m + 1) (fun q y12 y13 wx => ∃ x : Nat, y13 = .int .i64 x ∧ q = m + 1 - x ∧ x ≤ m ∧ Own wx w1.heap.size y12 (sameTo n e x) ∧ Below w1.heap.size w1 wx)
          case atStart => exact ⟨0, rfl, by omega, by omega, by first | exact Own.nil _ _ | (simp [sameTo]; exact Own.nil _ _), Below.refl _ _⟩
          case round =>
            obtain ⟨x, rfl, hq2, hx, hown, hB2⟩ := hrel
            have hS2 := hS1.keep hB2
            have c2 : wr.cell? ⟨w.heap.size + 1, 2, none⟩ = some (.slice aX m cX) := by rw [← hmX]; exact hS2.box.cell 2
            by_cases hxm : x < m
            · have hxI : (x : Int) < m := by omega
              have hxx := hF.px.rng x (by omega) (by omega)
              obtain ⟨bX, oX, rfl, _, cx⟩ := hX1.keep hB2 x (by omega) (by omega)
              obtain ⟨_, _, eX, _, ce⟩ := hX1.keep hB2 e he'.1 (by omega)
              obtain ⟨rfl, rfl⟩ : bX = _ ∧ oX = _ := by simpa using eX
              obtain ⟨bF, oF, rfl, _, fx⟩ := hFr.keep hB2 (rd n.X x) hxx.1 (by omega)
              obtain ⟨_, _, eF, _, fe⟩ := hFr.keep hB2 (rd n.X e) hxe.1 (by omega)
              obtain ⟨rfl, rfl⟩ : bF = _ ∧ oF = _ := by simpa using eF
              rw [Int.toNat_natCast] at cx
              have SN := Bx.mk (sameTo_next n e x)
              have hsl := sameTo_le n e x
              have hxx2 : rd n.X x < m := by omega
              have hxe2 : rd n.X e < m := by omega
              have hxx1 := hxx.1
              have hxe1 := hxe.1
              obtain ⟨u1, hu1⟩ : ∃ u1, rd n.X x = u1 := ⟨_, rfl⟩
              obtain ⟨u2, hu2⟩ : ∃ u2, rd n.X e = u2 := ⟨_, rfl⟩
              obtain ⟨z1, hz1'⟩ : ∃ z1, rd (facesOf n.X) u1 = z1 := ⟨_, rfl⟩
              obtain ⟨z2, hz2'⟩ : ∃ z2, rd (facesOf n.X) u2 = z2 := ⟨_, rfl⟩
              rw [hu1] at cx fx hxx1 hxx2
              rw [hu2] at ce fe hxe1 hxe2
              rw [hz1'] at fx
              rw [hz2'] at fe
              have UB := Bx.mk (And.intro hu1 (And.intro hu2 (And.intro hz1' hz2')))
              clear hu1 hu2 hz1' hz2' eX eF
              have he0 := he'.1
              have he1 := he'.2
              by_cases hzz : z1 = z2
              · have hzb : (z1 == z2) = true := by simpa using hzz
                go_wp2_with fail
                go_quiet (fail)
                have hown2 := hown.keep (below_drewN (w := wr) (Below.refl _ _) nq)
                have hB3 := below_drewN hB2 nq
                generalize wr.drewN nq = wq at hown2 hB3 ⊢
                clear hown hB2 c2 cx ce fx fe hS2
                go_wp2_with (at_builtin; refine wpList_append_own _ rfl _ _ 22 rfl w1.heap.size 3 i0 (.int .i64 0) 1 8 Try.underlying22 hi hz0 hz1 hz2 rfl (by decide) _ _ _ rfl (World.ownsRow.alloc hown2 _) ⟨wq.heap.size, 0, none⟩ 1 1 [.int .i64 x] rfl rfl ?c1 ?c2 ?c3 ?c4 ?c5 ?_)
                case c1 => exact cell_one_new _ _ _
                case c2 => intro u hu; simp at hu; subst hu; rfl
                case c3 => unfold maxLen; omega
                case c4 => omega
                case c5 => have := hB3.size; simp; omega
                · intro v' w2 hown' hgrow _
                  have hA := own_app hown'
                  have hB4 := below_grown (below_alloc hB3 (.cells #[.int .i64 x] 3)) hgrow (fun k hk => (World.ownsRow.lt hown2 k hk).1)
                  clear hown' hgrow
                  go_wp2_with fail
                  go_roundg (m + 1 - (x + 1))
                  case rel =>
                    obtain ⟨a1, a2, a3, a4⟩ := UB.out
                    exact ⟨x + 1, rfl, rfl, by omega, by rw [SN.out, a1, a2, a3, a4, if_pos hzz]; exact hA, hB4⟩
                  case measure => omega
              · have hzb : (z1 == z2) = false := by simpa using hzz
                go_wp2_with fail
                go_quiet (fail)
                go_wp2_with fail
                go_roundg (m + 1 - (x + 1))
                case rel =>
                  obtain ⟨a1, a2, a3, a4⟩ := UB.out
                  exact ⟨x + 1, rfl, rfl, by omega, by rw [SN.out, a1, a2, a3, a4, if_neg hzz]; exact hown.keep (below_drewN (Below.refl _ _) _), below_drewN hB2 _⟩
                case measure => omega
            · have hxI : ¬ (x : Int) < m := by omega
              obtain rfl : x = m := by omega
              have hsame : sameL n e = sameTo n e x := by rw [sameL, sameTo, hm]
              obtain ⟨sl, hsl⟩ : ∃ sl, sameTo n e x = sl := ⟨_, rfl⟩
              rw [hsl] at hown hsame
              have hsp := same_pos (n := n) he'.1 (by omega)
              rw [hsame] at hsp
              have hgi := emod_rng (k.tdiv 1200) sl.length hkg.1 (by omega)
              have hgm := rd_mem hgi.1 hgi.2
              rw [← hsame] at hgm
              have hgr := (same_mem.1 hgm).1
              rw [hsame] at hgr
              obtain ⟨aS, cS, rfl, hSr⟩ := hown.row
              obtain ⟨bS, oS, rfl, _, cs⟩ := hSr _ hgi.1 hgi.2
              obtain ⟨g, hg⟩ : ∃ g, rd sl (k.tdiv 1200 % (sl.length : Int)) = g := ⟨_, rfl⟩
              rw [hg] at cs hgr
              have hS3 := hS1.keep hB2
              have hTr := (hT.keep hB1).keep hB2
              obtain ⟨bT, oT, rfl, _, ct⟩ := hTr g hgr.1 hgr.2
              have c1 : wr.cell? ⟨w.heap.size + 1, 1, none⟩ = some (.slice (some ⟨bT, oT, none⟩) x cT) := by rw [← hm]; exact hS3.box.cell 1
              have GB := Bx.mk (And.intro hsame hg)
              have hslz : ¬ (sl.length : Int) = 0 := by omega
              have hslN : ¬ sl.length = 0 := by omega
              have hgr1 := hgr.1
              have hgr2 : g < x := by omega
              have hgi1 := hgi.1
              have hgi2 := hgi.2
              clear hsame hg hsl
              obtain ⟨wv, hwv⟩ : ∃ wv, wv = if k % 5 < 2 then N else rd n.T g := ⟨_, rfl⟩
              obtain ⟨N', hN'⟩ : ∃ N', N' = if k % 5 < 2 then N + 1 else N := ⟨_, rfl⟩
              have WB := Bx.mk (And.intro hwv hN')
              clear hwv hN'
              have hN1 := hF.n1
              have hNN : N = n.N := NB.out.2.1
              have hNb : 1 ≤ N ∧ N ≤ 25 := by omega
              clear hNN
              go_upto_if 108 with fail
              go_cut [15] from 106 to 114 (fun s15 wx => s15 = .int .i64 wv ∧ PSt w wx N' (.slice (some ⟨bT, oT, none⟩) n.T.length cT) (.slice aX n.X.length cX) (.slice aC n.C.length cC) n)
              case first =>
                by_cases hk2 : k % 5 < 2
                · have hw := WB.out
                  rw [if_pos hk2, if_pos hk2] at hw
                  obtain ⟨rfl, rfl⟩ := hw
                  have c0 : wr.cell? ⟨w.heap.size + 1, 0, none⟩ = some (.int .i64 wv) := hS3.box.cell 0
                  have f0 := hS3.box.fz 0
                  go_wp2_with fail
                  go_meet
                  case rel =>
                    have hg0 := grown_set wr ⟨w.heap.size + 1, 0, none⟩ (.int .i64 (wv + 1))
                    exact ⟨rfl, hS3.box.set0 _, hS3.z.far (by simp) _, World.ownsRow.kept hS3.T hg0 (.inr (Own.block hS3.T (by simp))), World.ownsRow.kept hS3.X hg0 (.inr (Own.block hS3.X (by simp))), World.ownsRow.kept hS3.C hg0 (.inr (Own.block hS3.C (by simp))), below_grown hS3.B hg0 (fun q hq => by simp at hq; omega)⟩
                · have hw := WB.out
                  rw [if_neg hk2, if_neg hk2] at hw
                  obtain ⟨rfl, rfl⟩ := hw
                  go_wp2_with fail
                  go_meet
                  case rel => exact ⟨rfl, hS3⟩
              case rest =>
                obtain ⟨rfl, hS4⟩ := hcut
                clear hS hS1 hS3 hX1 hTr hX hT hC hFr cs ct c1 hown hfr hv10 hB1 hB2
                rcases hS4.T.cases with ⟨h1, _⟩ | ⟨gT, capT, h1, _, _, hTN⟩
                · cases h1
                · obtain ⟨⟨rfl, rfl⟩, rfl⟩ : (bT = gT ∧ oT = 0) ∧ cT = capT := by simpa using h1
                  rw [hm] at hTN
                  obtain ⟨te, hte⟩ : ∃ te, rd n.T e = te := ⟨_, rfl⟩
                  have hbx := hS4.box
                  rw [hm] at hbx
                  have HC : Bx (∀ W : World, Below wc.heap.size wc W → W.cell? ⟨w.heap.size + 1, 1, none⟩ = some (.slice (some ⟨bT, 0, none⟩) x cT) ∧ W.cell? ⟨bT, e.toNat, none⟩ = some (.int .i64 te)) := ⟨fun W hW => ⟨(hbx.keep hW).cell 1, by rw [← hte]; exact (hTN.keep hW).cell e he'.1 he'.2⟩⟩
                  have HT : Bx (∀ W : World, Below wc.heap.size wc W → ∀ j u, (nums n.T)[j]? = some u → W.cell? ((⟨bT, 0, none⟩ : Addr).add j) = some u) := ⟨fun W hW => (hTN.keep hW).2.cells rfl⟩
                  have B0 : Bx (Below wc.heap.size wc wc.drew) := ⟨(Below.refl _ _).drew⟩
                  have HTL : (nums n.T).length = x * 1 := by rw [nums_length, hm, Nat.mul_one]
                  have he0 := he'.1
                  have he1 := he'.2
                  have hx96 : x ≤ 48 := by omega
                  go_upto_region 25 with fail
                  go_cut [] from 104 to 127 (fun wx => ∃ vT', PSt w wx N' vT' (.slice aX n.X.length cX) (.slice aC n.C.length cC) ⟨n.N, n.T ++ [te, wv], n.X, n.C⟩)
                  case first =>
                    refine wp_region_L (C := fun W => W.cell? ⟨w.heap.size + 1, 1, none⟩ = some (.slice (some ⟨bT, 0, none⟩) x cT) ∧ W.cell? ⟨bT, e.toNat, none⟩ = some (.int .i64 te)) (s := 13) (by kernel_rfl) (HC.out _ B0.out) (fun hHeld => ?_)
                    refine L_take' (i := 1) (v := ?_) rfl (by kernel_rfl) (by kernel_rfl) (by kernel_rfl) (by kernel_rfl) (fun _ _ _ h => h) (Or.inl ⟨by rfl, ?_⟩) (fun _ => hHeld) ?_
                    rotate_left
                    · intro w hSw
                      (try dsimp only at hSw)
                      go_simp
                      all_goals with_reducible rfl
                    try simp only [Act.put, List.setIfInBounds_toArray, List.set_cons_zero, List.set_cons_succ]
                    refine L_take (i := 2) (v := ?_) rfl (by kernel_rfl) (by kernel_rfl) (by kernel_rfl) (by kernel_rfl) (by kernel_rfl) (by kernel_rfl) (fun _ _ _ h => h) (Or.inl ⟨by rfl, ?_⟩) hHeld ?_
                    rotate_left
                    · intro w hSw
                      (try dsimp only at hSw)
                      go_simp
                      all_goals with_reducible rfl
                    try simp only [Act.put, List.setIfInBounds_toArray, List.set_cons_zero, List.set_cons_succ]
                    refine L_take' (i := 4) (v := ?_) rfl (by kernel_rfl) (by kernel_rfl) (by kernel_rfl) (by kernel_rfl) (fun _ _ _ h => h) (Or.inl ⟨by rfl, ?_⟩) (fun _ => hHeld) ?_
                    rotate_left
                    · intro w hSw
                      (try dsimp only at hSw)
                      go_simp
                      all_goals with_reducible rfl
                    try simp only [Act.put, List.setIfInBounds_toArray, List.set_cons_zero, List.set_cons_succ]
                    refine L_take (i := 5) (v := ?_) rfl (by kernel_rfl) (by kernel_rfl) (by kernel_rfl) (by kernel_rfl) (by kernel_rfl) (by kernel_rfl) (fun _ _ _ h => h) (Or.inl ⟨by rfl, ?_⟩) hHeld ?_
                    rotate_left
                    · intro w hSw
                      (try dsimp only at hSw)
                      go_simp
                      all_goals with_reducible rfl
                    try simp only [Act.put, List.setIfInBounds_toArray, List.set_cons_zero, List.set_cons_succ]
                    refine L_take' (i := 6) (v := ?_) rfl (by kernel_rfl) (by kernel_rfl) (by kernel_rfl) (by kernel_rfl) (fun _ _ _ h => h) (Or.inl ⟨by rfl, ?_⟩) (fun _ => hHeld) ?_
                    rotate_left
                    · intro w hSw
                      (try dsimp only at hSw)
                      go_simp
                      all_goals with_reducible rfl
                    try simp only [Act.put, List.setIfInBounds_toArray, List.set_cons_zero, List.set_cons_succ]
                    refine L_take' (i := 7) (v := ?_) rfl (by kernel_rfl) (by kernel_rfl) (by kernel_rfl) (by kernel_rfl) (fun _ _ _ h => h) (Or.inl ⟨by rfl, ?_⟩) (fun _ => hHeld) ?_
                    rotate_left
                    · intro w hSw
                      (try dsimp only at hSw)
                      go_simp
                      all_goals with_reducible rfl
                    try simp only [Act.put, List.setIfInBounds_toArray, List.set_cons_zero, List.set_cons_succ]
                    refine L_take (i := 8) (v := ?_) rfl (by kernel_rfl) (by kernel_rfl) (by kernel_rfl) (by kernel_rfl) (by kernel_rfl) (by kernel_rfl) (fun _ _ _ h => h) (Or.inl ⟨by rfl, ?_⟩) hHeld ?_
                    rotate_left
                    · intro w hSw
                      (try dsimp only at hSw)
                      go_simp
                      all_goals with_reducible rfl
                    try simp only [Act.put, List.setIfInBounds_toArray, List.set_cons_zero, List.set_cons_succ]
                    refine L_take' (i := 9) (v := ?_) rfl (by kernel_rfl) (by kernel_rfl) (by kernel_rfl) (by kernel_rfl) (fun _ _ _ h => h) (Or.inl ⟨by rfl, ?_⟩) (fun _ => hHeld) ?_
                    rotate_left
                    · intro w hSw
                      (try dsimp only at hSw)
                      go_simp
                      all_goals with_reducible rfl
                    try simp only [Act.put, List.setIfInBounds_toArray, List.set_cons_zero, List.set_cons_succ]
                    refine L_ready (rs := [0, 10]) (by kernel_rfl) (by simp) ?_
                    refine ReadyL.cons rfl (fun K hK => ?_) ?_
                    · go_simp
                      have Br0 := Bx.mk (below_alloc B0.out (.cells #[] 3))
                      have Or0 := Bx.mk (show World.ownsRow _ wc.heap.size 3 1 (.slice (some ⟨wc.heap.size, 0, none⟩) 0 0) 0 [] by have h := World.ownsRow_lit (base := wc.heap.size) (e := 3) (size := 1) wc.drew #[] 0 B0.out.size (Nat.zero_le _) rfl; simpa using h)
                      refine hK.out _ _ ?_ (fun hHeld => ?_)
                      · exact HC.out _ Br0.out
                      clear hK K
                      try simp only [Act.put, List.setIfInBounds_toArray, List.set_cons_zero, List.set_cons_succ]
                      refine L_ready (rs := [3, 10]) (by kernel_rfl) (by simp) ?_
                      refine ReadyL.cons rfl (fun K hK => ?_) ?_
                      · refine step_append_lies _ (by rfl) (.tmp 115) (.tmp 117) 22 (by rfl) wc.heap.size 3 i0 _ 1 8 Try.underlying22 hi hz0 hz1 hz2 rfl (by omega) (.slice (some ⟨wc.heap.size, 0, none⟩) 0 0) 0 ([]) (by rfl) Or0.out ⟨bT, 0, none⟩ x cT (nums n.T) (by rfl) HTL ?_ (by simp [nums, Value.oneCell']) (by omega) (by unfold maxLen; omega) (by omega) Br0.out.size _ rfl ?_
                        · exact HT.out _ Br0.out
                        intro ggr03 capr03 vr03 hown hgrow hat hlt
                        simp only [Nat.zero_add, List.nil_append] at hown
                        have Br03 := Bx.mk (below_grown Br0.out hgrow (fun q hq => (World.ownsRow.lt Or0.out q hq).1))
                        have Or03 := Bx.mk hown
                        clear hown hgrow hat hlt
                        refine hK.out _ _ ?_ (fun hHeld => ?_)
                        · exact HC.out _ Br03.out
                        clear hK K
                        try simp only [Act.put, List.setIfInBounds_toArray, List.set_cons_zero, List.set_cons_succ]
                        try simp only [Nat.zero_add]
                        refine L_ready (rs := [10]) (by kernel_rfl) (by simp) ?_
                        refine ReadyL.cons rfl (fun K hK => ?_) ?_
                        · go_simp
                          have Br0310 := Bx.mk (below_alloc Br03.out (.cells #[.int .i64 te, .int .i64 wv] 3))
                          have Or0310 := Bx.mk (World.ownsRow.alloc Or03.out (.cells #[.int .i64 te, .int .i64 wv] 3))
                          have Xr0310 := Bx.mk (show BoxN _ (vr03.heap.size) #[.int .i64 te, .int .i64 wv] 3 by have h := box_new vr03 #[.int .i64 te, .int .i64 wv] 3; simpa using h)
                          refine hK.out _ _ ?_ (fun hHeld => ?_)
                          · exact HC.out _ Br0310.out
                          clear hK K
                          try simp only [Act.put, List.setIfInBounds_toArray, List.set_cons_zero, List.set_cons_succ]
                          refine L_ready (rs := [11]) (by kernel_rfl) (by simp) ?_
                          refine ReadyL.cons rfl (fun K hK => ?_) ?_
                          · refine step_append_lies _ (by rfl) (.tmp 118) (.tmp 125) 22 (by rfl) wc.heap.size 3 i0 _ 1 8 Try.underlying22 hi hz0 hz1 hz2 rfl (by omega) (.slice (some ⟨ggr03, 0, none⟩) x capr03) x (nums n.T) (by rfl) Or0310.out ⟨vr03.heap.size, 0, none⟩ 2 2 [.int .i64 te, .int .i64 wv] (by rfl) (by rfl) ?_ (by simp [nums, Value.oneCell']) (by omega) (by unfold maxLen; omega) (by omega) Br0310.out.size _ rfl ?_
                            · exact news_box Xr0310.out
                            intro ggr031011 capr031011 vr031011 hown hgrow hat hlt
                            have Br031011 := Bx.mk (below_grown Br0310.out hgrow (fun q hq => (World.ownsRow.lt Or0310.out q hq).1))
                            have Or031011 := Bx.mk hown
                            clear hown hgrow hat hlt
                            refine hK.out _ _ ?_ (fun hHeld => ?_)
                            · exact HC.out _ Br031011.out
                            clear hK K
                            try simp only [Act.put, List.setIfInBounds_toArray, List.set_cons_zero, List.set_cons_succ]
                            refine L_take' (i := 12) (v := ?_) rfl (by kernel_rfl) (by kernel_rfl) (by kernel_rfl) (by kernel_rfl) (fun _ _ _ h => h) (Or.inl ⟨by rfl, ?_⟩) (fun _ => hHeld) ?_
                            rotate_left
                            · intro w hSw
                              (try dsimp only at hSw)
                              go_simp
                              all_goals with_reducible rfl
                            try simp only [Act.put, List.setIfInBounds_toArray, List.set_cons_zero, List.set_cons_succ]
                            have cF : vr031011.cell? ⟨w.heap.size + 1, 1, none⟩ = some (Value.slice (some ⟨bT, 0, none⟩) x cT) := (hbx.keep Br031011.out).cell 1
                            have fF := (hbx.keep Br031011.out).fz 1
                            have PF := Bx.mk (pst_tail hS4 Br031011.out hm (te := te) (wv := wv) Or031011.out)
                            refine L_ready (rs := [13]) (by kernel_rfl) (by simp) ?_
                            refine ReadyL.cons' rfl (by kernel_rfl) (fun K hK => ?_) ReadyL.nil
                            go_simp
                            refine hK.out _ _ ?_
                            clear hK K
                            try simp only [Act.put, List.setIfInBounds_toArray, List.set_cons_zero, List.set_cons_succ]
                            refine L_done (by kernel_rfl) ?_ _
                            clear cF fF hHeld
                            go_step
                            go_step
                            go_meet
                            case rel => exact ⟨_, PF.out⟩
                          exact ReadyL.nil
                        exact ReadyL.nil
                      refine ReadyL.cons rfl (fun K hK => ?_) ?_
                      · go_simp
                        have Br010 := Bx.mk (below_alloc Br0.out (.cells #[.int .i64 te, .int .i64 wv] 3))
                        have Or010 := Bx.mk (World.ownsRow.alloc Or0.out (.cells #[.int .i64 te, .int .i64 wv] 3))
                        have Xr010 := Bx.mk (show BoxN _ (wc.heap.size + 1) #[.int .i64 te, .int .i64 wv] 3 by have h := box_new (wc.drew.alloc (.cells #[] 3)) #[.int .i64 te, .int .i64 wv] 3; simpa using h)
                        refine hK.out _ _ ?_ (fun hHeld => ?_)
                        · exact HC.out _ Br010.out
                        clear hK K
                        try simp only [Act.put, List.setIfInBounds_toArray, List.set_cons_zero, List.set_cons_succ]
                        refine L_ready (rs := [3]) (by kernel_rfl) (by simp) ?_
                        refine ReadyL.cons rfl (fun K hK => ?_) ?_
                        · refine step_append_lies _ (by rfl) (.tmp 115) (.tmp 117) 22 (by rfl) wc.heap.size 3 i0 _ 1 8 Try.underlying22 hi hz0 hz1 hz2 rfl (by omega) (.slice (some ⟨wc.heap.size, 0, none⟩) 0 0) 0 ([]) (by rfl) Or010.out ⟨bT, 0, none⟩ x cT (nums n.T) (by rfl) HTL ?_ (by simp [nums, Value.oneCell']) (by omega) (by unfold maxLen; omega) (by omega) Br010.out.size _ rfl ?_
                          · exact HT.out _ Br010.out
                          intro ggr0103 capr0103 vr0103 hown hgrow hat hlt
                          simp only [Nat.zero_add, List.nil_append] at hown
                          have Br0103 := Bx.mk (below_grown Br010.out hgrow (fun q hq => (World.ownsRow.lt Or010.out q hq).1))
                          have Xr0103 := Bx.mk (BoxN.grown Xr010.out hgrow (by simp [Value.ownBlock] <;> omega))
                          have Or0103 := Bx.mk hown
                          clear hown hgrow hat hlt
                          refine hK.out _ _ ?_ (fun hHeld => ?_)
                          · exact HC.out _ Br0103.out
                          clear hK K
                          try simp only [Act.put, List.setIfInBounds_toArray, List.set_cons_zero, List.set_cons_succ]
                          try simp only [Nat.zero_add]
                          refine L_ready (rs := [11]) (by kernel_rfl) (by simp) ?_
                          refine ReadyL.cons rfl (fun K hK => ?_) ?_
                          · refine step_append_lies _ (by rfl) (.tmp 118) (.tmp 125) 22 (by rfl) wc.heap.size 3 i0 _ 1 8 Try.underlying22 hi hz0 hz1 hz2 rfl (by omega) (.slice (some ⟨ggr0103, 0, none⟩) x capr0103) x (nums n.T) (by rfl) Or0103.out ⟨wc.heap.size + 1, 0, none⟩ 2 2 [.int .i64 te, .int .i64 wv] (by rfl) (by rfl) ?_ (by simp [nums, Value.oneCell']) (by omega) (by unfold maxLen; omega) (by omega) Br0103.out.size _ rfl ?_
                            · exact news_box Xr0103.out
                            intro ggr010311 capr010311 vr010311 hown hgrow hat hlt
                            have Br010311 := Bx.mk (below_grown Br0103.out hgrow (fun q hq => (World.ownsRow.lt Or0103.out q hq).1))
                            have Or010311 := Bx.mk hown
                            clear hown hgrow hat hlt
                            refine hK.out _ _ ?_ (fun hHeld => ?_)
                            · exact HC.out _ Br010311.out
                            clear hK K
                            try simp only [Act.put, List.setIfInBounds_toArray, List.set_cons_zero, List.set_cons_succ]
                            refine L_take' (i := 12) (v := ?_) rfl (by kernel_rfl) (by kernel_rfl) (by kernel_rfl) (by kernel_rfl) (fun _ _ _ h => h) (Or.inl ⟨by rfl, ?_⟩) (fun _ => hHeld) ?_
                            rotate_left
                            · intro w hSw
                              (try dsimp only at hSw)
                              go_simp
                              all_goals with_reducible rfl
                            try simp only [Act.put, List.setIfInBounds_toArray, List.set_cons_zero, List.set_cons_succ]
                            have cF : vr010311.cell? ⟨w.heap.size + 1, 1, none⟩ = some (Value.slice (some ⟨bT, 0, none⟩) x cT) := (hbx.keep Br010311.out).cell 1
                            have fF := (hbx.keep Br010311.out).fz 1
                            have PF := Bx.mk (pst_tail hS4 Br010311.out hm (te := te) (wv := wv) Or010311.out)
                            refine L_ready (rs := [13]) (by kernel_rfl) (by simp) ?_
                            refine ReadyL.cons' rfl (by kernel_rfl) (fun K hK => ?_) ReadyL.nil
                            go_simp
                            refine hK.out _ _ ?_
                            clear hK K
                            try simp only [Act.put, List.setIfInBounds_toArray, List.set_cons_zero, List.set_cons_succ]
                            refine L_done (by kernel_rfl) ?_ _
                            clear cF fF hHeld
                            go_step
                            go_step
                            go_meet
                            case rel => exact ⟨_, PF.out⟩
                          exact ReadyL.nil
                        exact ReadyL.nil
                      exact ReadyL.nil
                    refine ReadyL.cons rfl (fun K hK => ?_) ?_
                    · go_simp
                      have Br10 := Bx.mk (below_alloc B0.out (.cells #[.int .i64 te, .int .i64 wv] 3))
                      have Xr10 := Bx.mk (show BoxN _ (wc.heap.size) #[.int .i64 te, .int .i64 wv] 3 by have h := box_new wc.drew #[.int .i64 te, .int .i64 wv] 3; simpa using h)
                      refine hK.out _ _ ?_ (fun hHeld => ?_)
                      · exact HC.out _ Br10.out
                      clear hK K
                      try simp only [Act.put, List.setIfInBounds_toArray, List.set_cons_zero, List.set_cons_succ]
                      refine L_ready (rs := [0]) (by kernel_rfl) (by simp) ?_
                      refine ReadyL.cons rfl (fun K hK => ?_) ?_
                      · go_simp
                        have Br100 := Bx.mk (below_alloc Br10.out (.cells #[] 3))
                        have Xr100 := Bx.mk (BoxN.keep Xr10.out (below_alloc (Below.refl _ _) (.cells #[] 3)))
                        have Or100 := Bx.mk (show World.ownsRow _ wc.heap.size 3 1 (.slice (some ⟨wc.heap.size + 1, 0, none⟩) 0 0) 0 [] by have h := World.ownsRow_lit (base := wc.heap.size) (e := 3) (size := 1) (wc.drew.alloc (.cells #[.int .i64 te, .int .i64 wv] 3)) #[] 0 Br10.out.size (Nat.zero_le _) rfl; simpa using h)
                        refine hK.out _ _ ?_ (fun hHeld => ?_)
                        · exact HC.out _ Br100.out
                        clear hK K
                        try simp only [Act.put, List.setIfInBounds_toArray, List.set_cons_zero, List.set_cons_succ]
                        refine L_ready (rs := [3]) (by kernel_rfl) (by simp) ?_
                        refine ReadyL.cons rfl (fun K hK => ?_) ?_
                        · refine step_append_lies _ (by rfl) (.tmp 115) (.tmp 117) 22 (by rfl) wc.heap.size 3 i0 _ 1 8 Try.underlying22 hi hz0 hz1 hz2 rfl (by omega) (.slice (some ⟨wc.heap.size + 1, 0, none⟩) 0 0) 0 ([]) (by rfl) Or100.out ⟨bT, 0, none⟩ x cT (nums n.T) (by rfl) HTL ?_ (by simp [nums, Value.oneCell']) (by omega) (by unfold maxLen; omega) (by omega) Br100.out.size _ rfl ?_
                          · exact HT.out _ Br100.out
                          intro ggr1003 capr1003 vr1003 hown hgrow hat hlt
                          simp only [Nat.zero_add, List.nil_append] at hown
                          have Br1003 := Bx.mk (below_grown Br100.out hgrow (fun q hq => (World.ownsRow.lt Or100.out q hq).1))
                          have Xr1003 := Bx.mk (BoxN.grown Xr100.out hgrow (by simp [Value.ownBlock] <;> omega))
                          have Or1003 := Bx.mk hown
                          clear hown hgrow hat hlt
                          refine hK.out _ _ ?_ (fun hHeld => ?_)
                          · exact HC.out _ Br1003.out
                          clear hK K
                          try simp only [Act.put, List.setIfInBounds_toArray, List.set_cons_zero, List.set_cons_succ]
                          try simp only [Nat.zero_add]
                          refine L_ready (rs := [11]) (by kernel_rfl) (by simp) ?_
                          refine ReadyL.cons rfl (fun K hK => ?_) ?_
                          · refine step_append_lies _ (by rfl) (.tmp 118) (.tmp 125) 22 (by rfl) wc.heap.size 3 i0 _ 1 8 Try.underlying22 hi hz0 hz1 hz2 rfl (by omega) (.slice (some ⟨ggr1003, 0, none⟩) x capr1003) x (nums n.T) (by rfl) Or1003.out ⟨wc.heap.size, 0, none⟩ 2 2 [.int .i64 te, .int .i64 wv] (by rfl) (by rfl) ?_ (by simp [nums, Value.oneCell']) (by omega) (by unfold maxLen; omega) (by omega) Br1003.out.size _ rfl ?_
                            · exact news_box Xr1003.out
                            intro ggr100311 capr100311 vr100311 hown hgrow hat hlt
                            have Br100311 := Bx.mk (below_grown Br1003.out hgrow (fun q hq => (World.ownsRow.lt Or1003.out q hq).1))
                            have Or100311 := Bx.mk hown
                            clear hown hgrow hat hlt
                            refine hK.out _ _ ?_ (fun hHeld => ?_)
                            · exact HC.out _ Br100311.out
                            clear hK K
                            try simp only [Act.put, List.setIfInBounds_toArray, List.set_cons_zero, List.set_cons_succ]
                            refine L_take' (i := 12) (v := ?_) rfl (by kernel_rfl) (by kernel_rfl) (by kernel_rfl) (by kernel_rfl) (fun _ _ _ h => h) (Or.inl ⟨by rfl, ?_⟩) (fun _ => hHeld) ?_
                            rotate_left
                            · intro w hSw
                              (try dsimp only at hSw)
                              go_simp
                              all_goals with_reducible rfl
                            try simp only [Act.put, List.setIfInBounds_toArray, List.set_cons_zero, List.set_cons_succ]
                            have cF : vr100311.cell? ⟨w.heap.size + 1, 1, none⟩ = some (Value.slice (some ⟨bT, 0, none⟩) x cT) := (hbx.keep Br100311.out).cell 1
                            have fF := (hbx.keep Br100311.out).fz 1
                            have PF := Bx.mk (pst_tail hS4 Br100311.out hm (te := te) (wv := wv) Or100311.out)
                            refine L_ready (rs := [13]) (by kernel_rfl) (by simp) ?_
                            refine ReadyL.cons' rfl (by kernel_rfl) (fun K hK => ?_) ReadyL.nil
                            go_simp
                            refine hK.out _ _ ?_
                            clear hK K
                            try simp only [Act.put, List.setIfInBounds_toArray, List.set_cons_zero, List.set_cons_succ]
                            refine L_done (by kernel_rfl) ?_ _
                            clear cF fF hHeld
                            go_step
                            go_step
                            go_meet
                            case rel => exact ⟨_, PF.out⟩
                          exact ReadyL.nil
                        exact ReadyL.nil
                      exact ReadyL.nil
                    exact ReadyL.nil
                  case rest =>
                    obtain ⟨vT', hS5⟩ := hcut
                    have TE := Bx.mk hte
                    clear hS4 HC HT B0 HTL hbx hTN hte c2 c3 c0
                    have hl5 := hS5.box.lt
                    obtain ⟨aX', cX', eX, hX5⟩ := hS5.X.row
                    obtain ⟨rfl, rfl⟩ : aX = aX' ∧ cX = cX' := by simpa using eX
                    clear eX
                    have c2 : (wc.alloc (.cells #[] 3)).cell? ⟨w.heap.size + 1, 2, none⟩ = some (.slice aX x cX) := by rw [← hmX]; exact (hS5.box.keep (below_alloc (Below.refl _ _) _)).cell 2
                    have k0 := below_alloc (Below.refl wc.heap.size wc) (.cells #[] 3)
                    have o0 := (own_lit wc wc.heap.size [] (Nat.le_refl _) (by simp)).own
                    have HX := hX5.keep k0
                    have HS5 := Bx.mk hS5
                    have HmX := Bx.mk hmX
                    have HmC := Bx.mk hmC
                    have DT := Bx.mk (fun k (hk : vT'.ownBlock = some k) => (World.ownsRow.lt hS5.T k hk).2)
                    clear hS5 hX5 hmX hmC
                    go_upto_region 27 with (first
                      | (at_builtin; refine app_any rfl (.tmp 128) (.tmp 130) rfl wc.heap.size _ [] n.X rfl o0 aX cX x HmX.out rfl HX (by omega) (by simp; omega) (by simp) x (by simp) ?_; intro g1 pc1 w1 q1 gr1 at1; have b1 := below_app k0 o0 (Nat.le_refl _) gr1; have r1 := q1.keep (below_alloc (Below.refl _ _) (.cells #[.int .i64 (x : Int), .int .i64 ((x : Int) + 1)] 3)); have k1 := below_alloc b1 (.cells #[.int .i64 (x : Int), .int .i64 ((x : Int) + 1)] 3); have n1 := row_new w1 [(x : Int), (x : Int) + 1]; clear q1 b1 o0 HX k0 c2)
                      | (at_builtin; refine app_any rfl (.tmp 131) (.tmp 135) rfl wc.heap.size _ ([] ++ n.X) [(x : Int), (x : Int) + 1] rfl r1.own (some ⟨w1.heap.size, 0, none⟩) 2 2 rfl rfl n1 (by omega) (by rw [List.nil_append, HmX.out]; omega) k1.size (x + 2) (by rw [List.nil_append, HmX.out]) ?_; intro g2 pc2 w2 q2 gr2 at2; have b2 := below_app k1 r1.own (Nat.le_refl _) gr2; have e2 := (HS5.out.box.keep b2).cell 2; have f2' := (HS5.out.box.keep b2).fz 2; have s2 := pst_next HS5.out b2 q2; have g2r := q2.rng; have sz2 := size_set w2 ⟨w.heap.size + 1, 2, none⟩ (.slice (some ⟨g2, 0, none⟩) (x + 2) pc2); clear r1 k1 n1 q2 b2 gr1 gr2 at1 at2))
                    generalize w2.setCell ⟨w.heap.size + 1, 2, none⟩ (.slice (some ⟨g2, 0, none⟩) (x + 2) pc2) = W5 at s2 sz2 ⊢
                    have g2l : wc.heap.size ≤ g2 := g2r.1
                    have g2h : g2 < W5.heap.size := by omega
                    clear e2 f2' g2r sz2 HS5
                    have hl6 := s2.box.lt
                    obtain ⟨aC', cC', eC, hC5⟩ := s2.C.row
                    obtain ⟨rfl, rfl⟩ : aC = aC' ∧ cC = cC' := by simpa using eC
                    clear eC
                    obtain ⟨X1, hX1⟩ : ∃ X1, X1 = [] ++ n.X ++ [(x : Int), (x : Int) + 1] := ⟨_, rfl⟩
                    rw [← hX1] at s2
                    have HX1 := Bx.mk hX1
                    have HX1l : X1.length = x + 2 := by rw [hX1]; simp [HmX.out]
                    clear hX1
                    have c3 : (W5.alloc (.cells #[] 3)).cell? ⟨w.heap.size + 1, 3, none⟩ = some (.slice aC x cC) := by rw [← HmC.out]; exact (s2.box.keep (below_alloc (Below.refl _ _) _)).cell 3
                    have k0 := below_alloc (Below.refl W5.heap.size W5) (.cells #[] 3)
                    have o0 := (own_lit W5 W5.heap.size [] (Nat.le_refl _) (by simp)).own
                    have HC := hC5.keep k0
                    have HS6 := Bx.mk s2
                    have HL := Bx.mk HX1l
                    clear s2 hC5 HX1l
                    go_upto_region 28 with (first
                      | (at_builtin; refine app_any rfl (.tmp 138) (.tmp 140) rfl W5.heap.size _ [] n.C rfl o0 aC cC x HmC.out rfl HC (by omega) (by simp; omega) (by simp) x (by simp) ?_; intro g3 pc3 w3 q3 gr3 at3; have b3 := below_app k0 o0 (Nat.le_refl _) gr3; have r3 := q3.keep (below_alloc (Below.refl _ _) (.cells #[.int .i64 p1, .int .i64 p2] 3)); have k3 := below_alloc b3 (.cells #[.int .i64 p1, .int .i64 p2] 3); have n3 := row_new w3 [p1, p2]; clear q3 b3 o0 HC k0 c3)
                      | (at_builtin; refine app_any rfl (.tmp 141) (.tmp 144) rfl W5.heap.size _ ([] ++ n.C) [p1, p2] rfl r3.own (some ⟨w3.heap.size, 0, none⟩) 2 2 rfl rfl n3 (by omega) (by rw [List.nil_append, HmC.out]; omega) k3.size (x + 2) (by rw [List.nil_append, HmC.out]) ?_; intro g4 pc4 w4 q4 gr4 at4; have b4 := below_app k3 r3.own (Nat.le_refl _) gr4; have e4 := (HS6.out.box.keep b4).cell 3; have f4' := (HS6.out.box.keep b4).fz 3; have s4 := pst_caps HS6.out b4 q4; have g4r := q4.rng.1; clear r3 k3 n3 q4 b4 gr3 gr4 at3 at4))
                    generalize w4.setCell ⟨w.heap.size + 1, 3, none⟩ (.slice (some ⟨g4, 0, none⟩) (x + 2) pc4) = W6 at s4 ⊢
                    clear e4 f4' HS6
                    have c2 : W6.cell? ⟨w.heap.size + 1, 2, none⟩ = some (.slice (some ⟨g2, 0, none⟩) (x + 2) pc2) := s4.box.cell 2
                    have hT6 : vT'.ownBlock ≠ some g2 := fun hk => by have := DT.out _ hk; omega
                    have hC6 : (Value.slice (some ⟨g4, 0, none⟩) (x + 2) pc4).ownBlock ≠ some g2 := by simp [Value.ownBlock]; omega
                    have hX6 : OwnN W6 (w.heap.size + 2) g2 pc2 X1.length X1 := ⟨rfl, by have h := s4.X; unfold Own at h; rwa [HL.out] at h ⊢⟩
                    have L1 := lay_any e x hX6 he'.1 (by rw [HL.out]; omega) (by omega) (by rw [HL.out]; omega)
                    rw [HL.out] at L1
                    have HT6 := Bx.mk hT6
                    have HC6 := Bx.mk hC6
                    have S4 := Bx.mk s4
                    clear hX6 hT6 hC6 s4
                    go_wp2_with fail
                    refine L1.mono ?_
                    rintro r1 w7 ⟨rfl, hO7, hw7, a1, a2, a3, a4⟩
                    have S7 := Bx.mk (pst_lay S4.out HT6.out HC6.out (by omega) hw7 a1 a2 a3 a4 hO7)
                    clear L1 S4 hw7 a1 a2 a3 c2
                    have c2 : w7.cell? ⟨w.heap.size + 1, 2, none⟩ = some (.slice (some ⟨g2, 0, none⟩) (x + 2) pc2) := S7.out.box.cell 2
                    by_cases hk2 : k % 5 < 2
                    · have hk2d : decide (k % 5 ≥ 2) = false := decide_eq_false (by omega)
                      go_wp2_with fail
                      go_roundg (25 - (j + 1))
                      case rel =>
                        have G := grow_eq hm hm0 hee GB.out.1 GB.out.2 TE.out WB.out.1 WB.out.2 NB.out.2.1 hp1 hp2
                        rw [if_pos hk2, ← HX1.out] at G
                        exact ⟨j + 1, _, _, _, _, _, rfl, by omega, by omega, rfl, (NB.out.2.2.trans G).symm, rfl, S7.out.reN⟩
                      case measure => omega
                    · have hk2d : decide (k % 5 ≥ 2) = true := decide_eq_true (by omega)
                      obtain ⟨X2, hX2⟩ : ∃ X2, X2 = st (st X1 x (rd X1 e)) e x := ⟨_, rfl⟩
                      rw [← hX2] at S7 hO7
                      have HX2 := Bx.mk hX2
                      have HL2 := Bx.mk (show X2.length = x + 2 by rw [hX2, st_length, st_length, HL.out])
                      clear hX2
                      obtain ⟨ge, hge⟩ : ∃ ge : Int, ge = if g = e then (x : Int) else g := ⟨_, rfl⟩
                      have hger : 0 ≤ ge ∧ ge < x + 1 := by rw [hge]; split <;> omega
                      have L2 := lay_any ge ((x : Int) + 1) (xs := X2) (by rw [HL2.out]; exact hO7) hger.1 (by rw [HL2.out]; omega) (by omega) (by rw [HL2.out]; omega)
                      rw [HL2.out] at L2
                      clear hO7
                      have hO7 := 0
                      by_cases hq : g = e
                      · have hb : (g == e) = true := by simpa using hq
                        rw [if_pos hq] at hge
                        have GQ := Bx.mk (show (if g = e then (x : Int) else g) = x from if_pos hq)
                        rw [hge] at L2
                        clear hq hge
                        go_wp2_with fail
                        refine L2.mono ?_
                        rintro r2 w8 ⟨rfl, hO8, hw8, a1, a2, a3, a4⟩
                        have S8 := Bx.mk (pst_lay S7.out HT6.out HC6.out (by omega) hw8 a1 a2 a3 a4 hO8)
                        clear L2 S7 hO7 hO8 hw8 a1 a2 a3 c2
                        go_wp2_with fail
                        go_roundg (25 - (j + 1))
                        case rel =>
                          have G := grow_eq hm hm0 hee GB.out.1 GB.out.2 TE.out WB.out.1 WB.out.2 NB.out.2.1 hp1 hp2
                          rw [if_neg (show ¬ k % 5 < 2 by omega), ← HX1.out, show layL X1 e x = X2 from HX2.out.symm, GQ.out] at G
                          exact ⟨j + 1, _, _, _, _, _, rfl, by omega, by omega, rfl, (NB.out.2.2.trans G).symm, rfl, S8.out.reN⟩
                        case measure => omega
                      · have hb : (g == e) = false := by simpa using hq
                        rw [if_neg hq] at hge
                        have GQ := Bx.mk (show (if g = e then (x : Int) else g) = g from if_neg hq)
                        rw [hge] at L2
                        clear hq hge
                        go_wp2_with fail
                        refine L2.mono ?_
                        rintro r2 w8 ⟨rfl, hO8, hw8, a1, a2, a3, a4⟩
                        have S8 := Bx.mk (pst_lay S7.out HT6.out HC6.out (by omega) hw8 a1 a2 a3 a4 hO8)
                        clear L2 S7 hO7 hO8 hw8 a1 a2 a3 c2
                        go_wp2_with fail
                        go_roundg (25 - (j + 1))
                        case rel =>
                          have G := grow_eq hm hm0 hee GB.out.1 GB.out.2 TE.out WB.out.1 WB.out.2 NB.out.2.1 hp1 hp2
                          rw [if_neg (show ¬ k % 5 < 2 by omega), ← HX1.out, show layL X1 e x = X2 from HX2.out.symm, GQ.out] at G
                          exact ⟨j + 1, _, _, _, _, _, rfl, by omega, by omega, rfl, (NB.out.2.2.trans G).symm, rfl, S8.out.reN⟩
                        case measure => omega
end Go.Proofs.Ytidcofjadlfahaa
