/- The walks of dual.Make and of TopDuality. -/
import Derived.Test.YtidcofjadlfahaaU27
import Derived.Test.YtidcofjadlfahaaU20
import Derived.Test.YtidcofjadlfahaaU25
import Derived.Test.YtidcofjadlfahaaPl
set_option linter.unusedVariables false
set_option linter.unusedSimpArgs false
namespace Go.Proofs.Ytidcofjadlfahaa
open Go.RowKit

/-- An append of some numbers to a row of the call's own, in a region that draws its order. -/
theorem istep_any {ops : Array Oper} {o : Oper} {a : Act} {W : World} {K : Act → World → Prop} {Q : Exit → Act → World → Prop} {E : Prop} (hgd : o.guard = none) (s x : Operand)
    (ho : o.op = .call { callee := .builtin .append, args := #[s, x], argTypes := #[22, 22] }) (B : Nat) (v : Value) (xs ys : List Int) (hs : a.eval s = v) (hown : Own W B v xs)
    (ax : Option Addr) (c m : Nat) (hm : ys.length = m) (hx : a.eval x = .slice ax m c) (hr : RowOf W ax ys) (hp : 0 < m) (h1 : xs.length + m ≤ 1000) (hB : B ≤ W.heap.size) (n : Nat) (hn : xs.length + m = n)
    (h : ∀ g cap w', OwnN w' B g cap n (xs ++ ys) → W.grownBy w' v.ownBlock → (v.ownBlock = some g ∨ g = W.heap.size) → K (a.put o.dst (.slice (some ⟨g, 0, none⟩) n cap)) w') :
    if Region.wanted o (yielded ops a.tmps) = true then Oper.wp Try.prog o a W K Q else E := by
  obtain ⟨i0, hi, hz0, hz1, hz2⟩ := info_parts info3
  subst hm
  obtain ⟨b, off, rfl, hb, hc⟩ := row_cells hr hp
  refine step_append_lies W hgd s x 22 ho B 3 i0 (.int .i64 0) 1 8 Try.underlying22 hi hz0 hz1 hz2 rfl (by omega) v xs.length (nums xs) hs hown ⟨b, off, none⟩ ys.length c (nums ys) hx (by rw [nums_length, Nat.mul_one]) hc (by simp [nums, Value.oneCell']) hp (by unfold maxLen; omega) (by omega) hB _ rfl ?_
  intro g cap w' hown' hgrow hat hlt
  subst hn
  refine h g cap w' ⟨by simp, ?_⟩ hgrow hat
  rw [show nums (xs ++ ys) = nums xs ++ nums ys from by simp [nums]]
  exact hown'
section
variable {m n bT oT bX oX bC oC kT kX kC : Nat} {T X C : List Int} {w : World}
set_option maxHeartbeats 6400000 in
set_option maxRecDepth 100000 in
theorem dual_any (G : Good m n T X C) (R : Rows3 w n bT oT bX oX bC oC T X C) :
    Calls Try.prog 17 #[(.agg #[.int .i64 m, .slice (some ⟨bT, oT, none⟩) n kT, .slice (some ⟨bX, oX, none⟩) n kX, .slice (some ⟨bC, oC, none⟩) n kC])] w fun e w' => ∃ (gT oF cF l2 c2 l3 c3 : Nat) (a2 a3 : Option Addr), e = .returned (.agg #[.int .i64 (faceN X), .slice (some ⟨gT, oF, none⟩) n cF, .slice a2 l2 c2, .slice a3 l3 c3]) ∧ RowAt w' gT oF n (facesOf X) ∧ Below w.heap.size w w' := by
  have GG := Bx.mk G
  have RR := Bx.mk R
  have n2 := G.n2
  have n240 := G.n240
  have FA := fun W (h : Below w.heap.size w W) => pfaces_any (kT := kT) (kX := kX) (kC := kC) G (R.keep h)
  clear G R
  have FL := Bx.mk (show (facesOf X).length = n from by
    have := (facesTo_rng X X.length).1
    rw [← GG.out.lX]; exact this)
  obtain ⟨F, hF⟩ : ∃ F, facesOf X = F := ⟨_, rfl⟩
  obtain ⟨K, hK⟩ : ∃ K, faceN X = K := ⟨_, rfl⟩
  rw [hF] at FL
  rw [hF, hK] at FA
  rw [hF, hK]
  clear hF hK
  have hB := below_alloc (below_alloc (Below.refl w.heap.size w) (.cells #[.int .i64 m, .slice (some ⟨bT, oT, none⟩) n kT, .slice (some ⟨bX, oX, none⟩) n kX, .slice (some ⟨bC, oC, none⟩) n kC] 25)) (.cells #[.int .i64 0, .slice none 0 0, .slice none 0 0, .slice none 0 0] 25)
  have hbox := (box_new w #[.int .i64 m, .slice (some ⟨bT, oT, none⟩) n kT, .slice (some ⟨bX, oX, none⟩) n kX, .slice (some ⟨bC, oC, none⟩) n kC] 25).keep (below_alloc (Below.refl _ _) (.cells #[.int .i64 0, .slice none 0 0, .slice none 0 0, .slice none 0 0] 25))
  have hres := box_new (w.alloc (.cells #[.int .i64 m, .slice (some ⟨bT, oT, none⟩) n kT, .slice (some ⟨bX, oX, none⟩) n kX, .slice (some ⟨bC, oC, none⟩) n kC] 25)) #[.int .i64 0, .slice none 0 0, .slice none 0 0, .slice none 0 0] 25
  rw [World.size_alloc] at hres
  have hws : w.heap.size < w.heap.size + 1 := Nat.lt_succ_self _
  go_enter Try.func17, Try.ntmps17
  go_upto_region 1 with fail
  generalize (w.alloc _).alloc _ = wa at hB hbox hres ⊢
  generalize w.heap.size + 1 = b2 at hres hws ⊢
  generalize hb0 : w.heap.size = b at hbox hws ⊢
  have HK := Bx.mk (fun W (h : Below wa.heap.size wa W) => (⟨(hbox.keep h).cell 0, (hbox.keep h).cell 1, (hbox.keep h).cell 2, (hbox.keep h).cell 3⟩ : W.cell? ⟨b, 0, none⟩ = some (.int .i64 m) ∧ W.cell? ⟨b, 1, none⟩ = some (.slice (some ⟨bT, oT, none⟩) n kT) ∧ W.cell? ⟨b, 2, none⟩ = some (.slice (some ⟨bX, oX, none⟩) n kX) ∧ W.cell? ⟨b, 3, none⟩ = some (.slice (some ⟨bC, oC, none⟩) n kC)))
  have HBW := Bx.mk (fun W (h : Below wa.heap.size wa W) => below_below hB h)
  have HRS := Bx.mk (fun W (h : Below wa.heap.size wa W) => hres.keep h)
  have hb2 := hres.lt
  have hbl := hbox.lt
  clear hbox hres
  obtain ⟨k0, k1, k2, k3⟩ := HK.out wa (Below.refl _ _)
  have S1 := FA _ hB
  go_wp2_with fail
  refine S1.mono ?_
  rintro e w2 ⟨vF, rfl, oF, B2⟩
  clear S1 FA k0 k1 k2 k3
  obtain ⟨aF, cF, rfl, rF⟩ := oF.row
  obtain ⟨gF, oG, rfl, rG⟩ := rF.at' FL.out (by omega)
  have ne2 : gF ≠ b2 := by have := Own.block oF hb2; simpa [Value.ownBlock] using this
  rw [FL.out]
  clear oF rF FL
  obtain ⟨k0, k1, k2, k3⟩ := HK.out _ B2
  have C3 := clonea_any (c := kC) (RR.out.keep (HBW.out _ B2)).C (by omega) (by omega)
  go_wp2_with fail
  refine C3.mono ?_
  rintro e w3 ⟨g7, p7, rfl, _, B3⟩
  have rG3 := rG.keep B3
  have BW3 := below_below B2 B3
  clear C3 rG B2 B3 k0 k1 k2 k3
  have hz := box_new w3 #[.int .i64 K, .slice (some ⟨gF, oG, none⟩) n cF, .slice none 0 0, .slice (some ⟨g7, 0, none⟩) n p7] 25
  have kk := below_alloc (Below.refl w3.heap.size w3) (.cells #[.int .i64 K, .slice (some ⟨gF, oG, none⟩) n cF, .slice none 0 0, .slice (some ⟨g7, 0, none⟩) n p7] 25)
  have BW4 := below_alloc BW3 (.cells #[.int .i64 K, .slice (some ⟨gF, oG, none⟩) n cF, .slice none 0 0, .slice (some ⟨g7, 0, none⟩) n p7] 25)
  have rG4 := rG3.keep kk
  have hgz := rG3.lt
  have hzs := BW3.size
  go_upto_region 3 with fail
  go_simp
  go_upto_region 3 with fail
  have hz4 : w3.heap.size < (w3.alloc (.cells #[.int .i64 K, .slice (some ⟨gF, oG, none⟩) n cF, .slice none 0 0, .slice (some ⟨g7, 0, none⟩) n p7] 25)).heap.size := by rw [World.size_alloc]; omega
  generalize w3.alloc _ = w4 at hz rG4 BW4 hz4 ⊢
  generalize w3.heap.size = z at hz hgz hzs hz4 ⊢
  clear kk rG3 BW3
  have hwB : wa.heap.size ≤ w4.heap.size := by omega
  obtain ⟨B, hBB⟩ : ∃ B, w4.heap.size = B := ⟨_, rfl⟩
  have o4 := Own.nil w4 B
  have sB : B ≤ w4.heap.size := by omega
  rw [hBB] at hz4 hwB
  clear hBB
  go_wp2
  go_loopg [20] (n + 1) (fun q y wr => ∃ (j : Nat) (v2 : Value) (ys : List Int), y = .int .i64 j ∧ q = n + 1 - j ∧ j ≤ n ∧ BoxN wr z #[.int .i64 K, .slice (some ⟨gF, oG, none⟩) n cF, v2, .slice (some ⟨g7, 0, none⟩) n p7] 25 ∧ Own wr B v2 ys ∧ ys.length = j ∧ RowAt wr gF oG n F ∧ Below wa.heap.size wa wr ∧ B ≤ wr.heap.size)
  case atStart => exact ⟨0, _, [], rfl, by omega, by omega, hz, o4, rfl, rG4, BW4, sB⟩
  case round =>
    clear hz o4 rG4 BW4 sB
    obtain ⟨j, v2, ys, rfl, hq, hj, hz, oN, hyl, rG, BW, sB⟩ := hrel
    obtain ⟨a2, c2, rfl, _⟩ := oN.row
    rw [hyl] at hz oN
    by_cases hjn : j < n
    · have hjI : (j : Int) < n := by omega
      have ho := ot_rng j n (by omega) hjI GG.out.ev
      have ho0 := ho.1
      have ho1 := ho.2
      have hxor := xor_one j (by omega) (by omega)
      have k2 := (HK.out _ BW).2.2.1
      have cx := (RR.out.keep (HBW.out _ BW)).X.get (ot j) ho0 ho1
      have cz := hz.cell 2
      simp only [List.getElem?_toArray, List.getElem?_cons_zero, List.getElem?_cons_succ] at cz
      obtain ⟨x, hx⟩ : ∃ x, rd X (ot j) = x := ⟨_, rfl⟩
      rw [hx] at cx
      clear hx ho
      have SK := Bx.mk (fun W (h : Below wr.heap.size wr W) => (⟨h, hz.keep h, oN.keep h, rG.keep h, below_below BW h, Nat.le_trans sB h.size⟩ : Below wr.heap.size wr W ∧ BoxN W z #[.int .i64 K, .slice (some ⟨gF, oG, none⟩) n cF, .slice a2 j c2, .slice (some ⟨g7, 0, none⟩) n p7] 25 ∧ Own W B (.slice a2 j c2) ys ∧ RowAt W gF oG n F ∧ Below wa.heap.size wa W ∧ B ≤ W.heap.size))
      go_upto_region 6 with fail
      have hKW := Bx.mk (fun W (h : Below wr.heap.size wr W) => (⟨h, (SK.out W h).2.1.cell 2, (HK.out _ (SK.out W h).2.2.2.2.1).2.2.1, (RR.out.keep (HBW.out _ (SK.out W h).2.2.2.2.1)).X⟩ : Below wr.heap.size wr W ∧ W.cell? ⟨z, 2, none⟩ = some (.slice a2 j c2) ∧ W.cell? ⟨b, 2, none⟩ = some (.slice (some ⟨bX, oX, none⟩) n kX) ∧ RowAt W bX oX n X))
      have hKX := Bx.mk (fun W (h : Below wr.heap.size wr W) => (⟨(hKW.out W h).2.1, (hKW.out W h).2.2.1, by rw [(h.cell (p := ⟨bX, oX + (ot j).toNat, none⟩) ((RR.out.keep (HBW.out _ BW)).X.lt))]; exact cx⟩ : W.cell? ⟨z, 2, none⟩ = some (.slice a2 j c2) ∧ W.cell? ⟨b, 2, none⟩ = some (.slice (some ⟨bX, oX, none⟩) n kX) ∧ W.cell? ⟨bX, oX + (ot j).toNat, none⟩ = some (.int .i64 x)))
      have hKA := Bx.mk (fun W (h : Below wa.heap.size wa W) (hb : BoxN W z #[.int .i64 K, .slice (some ⟨gF, oG, none⟩) n cF, .slice a2 j c2, .slice (some ⟨g7, 0, none⟩) n p7] 25) => (⟨hb.cell 2, (HK.out _ h).2.2.1, by
        have hlt := ((RR.out.keep hB).X.lt)
        rw [h.cell (p := ⟨bX, oX + (ot j).toNat, none⟩) hlt, ← BW.cell (p := ⟨bX, oX + (ot j).toNat, none⟩) hlt]; exact cx⟩ : W.cell? ⟨z, 2, none⟩ = some (.slice a2 j c2) ∧ W.cell? ⟨b, 2, none⟩ = some (.slice (some ⟨bX, oX, none⟩) n kX) ∧ W.cell? ⟨bX, oX + (ot j).toNat, none⟩ = some (.int .i64 x)))
      clear hKW
      have bD := Below.drew (Below.refl wr.heap.size wr)
      obtain ⟨k2d, -, -⟩ := hKX.out _ bD
      have hs1 : z < wr.heap.size := hz.lt
      have hs2 : bX < wr.heap.size := ((RR.out.keep (HBW.out _ BW)).X.lt)
      have hs3 : b < wr.heap.size := by have := BW.size; omega
      go_region_law
        (first
          | (refine istep_any rfl (.tmp 24) (.tmp 31) rfl B _ ys [x] rfl (SK.out _ (below_alloc bD _)).2.2.1 _ 1 1 rfl rfl (row_new _ [x]) (by omega) (by rw [hyl]; omega) (SK.out _ (below_alloc bD _)).2.2.2.2.2 (j + 1) (by rw [hyl]) ?_; intro g4 cap4 w5 q5 gr5 at5; have hoN := (SK.out _ (below_alloc bD (.cells #[.int .i64 x] 3))).2.2.1; have hz5 := (SK.out _ (below_alloc bD (.cells #[.int .i64 x] 3))).2.1.grown gr5 (Own.block hoN hz4); have BW5 := below_app (SK.out _ (below_alloc bD (.cells #[.int .i64 x] 3))).2.2.2.2.1 hoN hwB gr5; have rG5 := (SK.out _ (below_alloc bD (.cells #[.int .i64 x] 3))).2.2.2.1.grown gr5 (Own.block hoN (by omega)); have fz5 := hz5.fz 2; have cz5 : w5.cell? ⟨z, 2, none⟩ = some (.slice a2 j c2) := hz5.cell 2; have sB5 := Nat.le_trans (SK.out _ (below_alloc bD (.cells #[.int .i64 x] 3))).2.2.2.2.2 gr5.size))
      all_goals
        have g4B := q5.rng.1
        have o6 := (q5.far (p := ⟨z, 2, none⟩) (by show z ≠ g4; omega) (.slice (some ⟨g4, 0, none⟩) (j + 1) cap4)).own
        have hz6 := hz5.set2 (.slice (some ⟨g4, 0, none⟩) (j + 1) cap4)
        have rG6 := rG5.far (p := ⟨z, 2, none⟩) (by show z ≠ gF; omega) (.slice (some ⟨g4, 0, none⟩) (j + 1) cap4)
        have BW6 := below_set BW5 (p := ⟨z, 2, none⟩) hzs (.slice (some ⟨g4, 0, none⟩) (j + 1) cap4)
        have sB6 : B ≤ (w5.setCell ⟨z, 2, none⟩ (.slice (some ⟨g4, 0, none⟩) (j + 1) cap4)).heap.size := by rw [size_set]; exact sB5
        generalize w5.setCell _ _ = w6 at o6 hz6 rG6 BW6 sB6 ⊢
        clear q5 gr5 at5 hoN hz5 BW5 rG5 fz5 cz5 sB5 SK hKX hKA k2 cx cz k2d bD
        go_wp2
        go_roundg (n + 1 - (j + 1))
        case rel => exact ⟨j + 1, _, ys ++ [x], rfl, rfl, by omega, hz6, o6, by rw [List.length_append, hyl]; rfl, rG6, BW6, sB6⟩
        case measure => omega
    · have hjI : ¬ (j : Int) < n := by omega
      obtain rfl : n = j := by omega
      have z0 : wr.cell? ⟨z, 0, none⟩ = some (.int .i64 K) := hz.cell 0
      have z1 : wr.cell? ⟨z, 1, none⟩ = some (.slice (some ⟨gF, oG, none⟩) n cF) := hz.cell 1
      have z2 : wr.cell? ⟨z, 2, none⟩ = some (.slice a2 n c2) := hz.cell 2
      have z3 : wr.cell? ⟨z, 3, none⟩ = some (.slice (some ⟨g7, 0, none⟩) n p7) := hz.cell 3
      have rz := HRS.out _ BW
      clear oN hz
      go_wp2_with (refine store4 (by rfl) (by rfl) (.tmp 2) (.tmp 35) (by rfl) b2 (by rfl) K (some ⟨gF, oG, none⟩) a2 (some ⟨g7, 0, none⟩) n cF n c2 n p7 (by rfl) _ _ _ _ 25 rz ?_; intro w1 hb1 hg1)
      have d0 : w1.cell? ⟨b2, 0, none⟩ = some (.int .i64 K) := hb1.cell 0
      have d1 : w1.cell? ⟨b2, 1, none⟩ = some (.slice (some ⟨gF, oG, none⟩) n cF) := hb1.cell 1
      have d2 : w1.cell? ⟨b2, 2, none⟩ = some (.slice a2 n c2) := hb1.cell 2
      have d3 : w1.cell? ⟨b2, 3, none⟩ = some (.slice (some ⟨g7, 0, none⟩) n p7) := hb1.cell 3
      try simp only [Exit.inBlock, Exit.then]
      refine bodyPost_ret (v := .agg #[.int .i64 K, .slice (some ⟨gF, oG, none⟩) n cF, .slice a2 n c2, .slice (some ⟨g7, 0, none⟩) n p7]) (by simp [results, Try.results17, go_sem, d0, d1, d2, d3]) rfl ?_
      have BZ := below_grown (HBW.out _ BW) hg1 (fun k hk => by injection hk with hk; omega)
      have rZ := rG.grown hg1 (by simp; exact fun h => ne2 h.symm)
      exact ⟨gF, oG, ⟨cF, n, c2, n, p7, a2, _, rfl⟩, rZ, by first | exact BZ | (rw [← hb0]; exact BZ)⟩
end
theorem plane_net7 (a : Option Addr) (cap : Nat) (zs : List Int) (w : World) (hz : RowOf w a zs) :
    Calls Try.prog 7 #[.slice a zs.length cap] w fun r w' => ∃ (m : Nat) (aT aX aC : Option Addr) (cT cX cC : Nat), (planeOf zs).N = m ∧ r = .returned (.agg #[.int .i64 m, .slice aT (planeOf zs).T.length cT, .slice aX (planeOf zs).X.length cX, .slice aC (planeOf zs).C.length cC]) ∧ RowOf w' aT (planeOf zs).T ∧ RowOf w' aX (planeOf zs).X ∧ RowOf w' aC (planeOf zs).C ∧ Below w.heap.size w w' := by
  refine (plane_any a cap zs w hz).mono ?_
  rintro e w' ⟨vT, vX, vC, rfl, hT, hX, hC, hB⟩
  obtain ⟨aT, cT, rfl, rT⟩ := hT.row
  obtain ⟨aX, cX, rfl, rX⟩ := hX.row
  obtain ⟨aC, cC, rfl, rC⟩ := hC.row
  obtain ⟨F, l48, n25, CN⟩ := plane_facts zs
  have h0 : (0 : Int) ≤ (planeOf zs).N := by have := F.n1; omega
  exact ⟨(planeOf zs).N.toNat, aT, aX, aC, cT, cX, cC, by omega, by rw [Int.toNat_of_nonneg h0], rT, rX, rC, hB⟩

/-- What the least cut's darts are: a round in the dual that holds what runs. -/
def RoundOk (T X C : List Int) (n m : Nat) : Prop := ∀ x y : Int, 0 ≤ x → x < m → 0 ≤ y → y < m → x ≠ y → ∀ f, MostIs T C m n x y f →
  cutSum T C (inOf T C f m n x y) n = valF T f x n ∧ ∃ Z : List Int, cutOf T X C (inOf T C f m n x y) m n = Z ∧ Z.length ≤ n ∧ 0 < Z.length ∧ (∀ z, z ∈ Z → 0 ≤ z ∧ z < n) ∧ (∀ i : Nat, i < Z.length → rd (facesOf X) (rd Z (((i : Int) + 1) % (Z.length : Int))) = rd (facesOf X) (ot (rd Z i))) ∧ sumC C Z = valF T f x n
theorem round_ok (zs : List Int) {m : Nat} (hm : (planeOf zs).N = m) (h2 : 2 ≤ m) : RoundOk (planeOf zs).T (planeOf zs).X (planeOf zs).C (planeOf zs).T.length m := by
  obtain ⟨G, _, _⟩ := good_plane zs hm h2
  obtain ⟨F, _, _, CN⟩ := plane_facts zs
  have hM : Map (planeOf zs) := by
    rcases map_plane zs with h | h
    · have := G.n2; omega
    · exact h
  have Y : IsTree (planeOf zs).T (spanL (planeOf zs).T m 0) m 0 := span_tree F.ev G.t (Int.le_refl _) (by have := G.m1; omega) (by rw [← hm]; exact CN)
  intro x y x0 x1 y0 y1 hxy f hf
  obtain ⟨_, _, c1, c2⟩ := least_cut G x0 x1 y0 y1 hxy hf
  obtain ⟨I, hI⟩ : ∃ I, inOf (planeOf zs).T (planeOf zs).C f m (planeOf zs).T.length x y = I := ⟨_, rfl⟩
  rw [hI] at c1 c2 ⊢
  obtain ⟨L, hL⟩ : ∃ L, outL (planeOf zs).T I (planeOf zs).T.length = L := ⟨_, rfl⟩
  obtain ⟨a1, a2, a3, a4⟩ := least_round F hM hm Y rfl G c1 hL
  refine ⟨c2, cycL (facesOf (planeOf zs).X) L L.length, ?_, ?_, ?_, fun z hz => ?_, fun i hi => ?_, ?_⟩
  · unfold cutOf
    rw [if_pos c1, hL]
  · rw [cycL_length, ← hL]; exact outL_len _ _ _
  · rw [cycL_length]; exact List.length_pos_iff.2 a1
  · have := a3 z hz
    rw [← hL] at this
    have := outL_mem.1 this
    exact ⟨this.1, this.2.1⟩
  · rw [cycL_length] at hi ⊢
    exact a2 i hi
  · rw [a4, ← hL]
    exact c2
set_option maxHeartbeats 6400000 in
set_option maxRecDepth 100000 in
theorem dual_walk (a : Option Addr) (cap : Nat) (zs : List Int) (s t : Int) (w : World) (hz : RowOf w a zs) :
    Calls Try.prog 4 #[.slice a zs.length cap, .int .i64 s, .int .i64 t] w fun e w' => e = .returned (.bool true) ∧ Below w.heap.size w w' := by
  go_enter Try.func4, Try.ntmps4
  go_wp2_with fail
  refine (known_any _).mono ?_
  rintro e w1 ⟨rfl, hB1⟩
  go_wp2_with fail
  refine (plane_net7 a cap zs w1 (hz.keep hB1)).mono ?_
  rintro e w2 ⟨m, aT, aX, aC, cT, cX, cC, hm, rfl, rT, rX, rC, hB2⟩
  have hB12 := below_below hB1 hB2
  have GP := Bx.mk (fun h2 : 2 ≤ m => And.intro (round_ok zs hm h2) (good_plane zs hm h2))
  obtain ⟨P, hP⟩ : ∃ P, P = planeOf zs := ⟨_, rfl⟩
  rw [← hP] at rT rX rC GP ⊢
  clear hP hm hB1 hB2 hz
  obtain ⟨lT, hT⟩ : ∃ l, P.T.length = l := ⟨_, rfl⟩
  obtain ⟨lX, hX⟩ : ∃ l, P.X.length = l := ⟨_, rfl⟩
  obtain ⟨lC, hC⟩ : ∃ l, P.C.length = l := ⟨_, rfl⟩
  have HL := Bx.mk (And.intro hT (And.intro hX hC))
  rw [hT, hX, hC]
  clear hT hX hC
  have hb := box_new w2 #[.int .i64 m, .slice aT lT cT, .slice aX lX cX, .slice aC lC cC] 25
  have hB3 := below_alloc hB12 (.cells #[.int .i64 m, .slice aT lT cT, .slice aX lX cX, .slice aC lC cC] 25)
  have hk := below_alloc (Below.refl w2.heap.size w2) (.cells #[.int .i64 m, .slice aT lT cT, .slice aX lX cX, .slice aC lC cC] 25)
  have rT3 := rT.keep hk
  have rX3 := rX.keep hk
  have rC3 := rC.keep hk
  go_upto_region 4 with fail
  generalize w2.alloc _ = wa at hb hB3 rT3 rX3 rC3 ⊢
  generalize w2.heap.size = b at hb ⊢
  clear rT rX rC hk hB12
  by_cases h2 : (m : Int) < 2
  · have k0 := hb.cell 0
    have k1 := hb.cell 1
    have k2 := hb.cell 2
    have k3 := hb.cell 3
    simp only [List.getElem?_toArray, List.getElem?_cons_zero, List.getElem?_cons_succ] at k0 k1 k2 k3
    have S1 := fun W => two_no (w := W) (aT := aT) (aX := aX) (aC := aC) (lT := lT) (lX := lX) (lC := lC) (kT := cT) (kX := cX) (kC := cC) (m : Int) s t h2
    go_wp2_with fail
    refine (S1 _).mono ?_
    rintro e w4 ⟨rfl, B4⟩
    clear k0 k1 k2 k3
    go_wp2
    go_ret
    exact ⟨rfl, below_below hB3 B4⟩
  obtain ⟨RO, G, l48, m25⟩ := GP.out (by omega)
  obtain ⟨q1, q2, q3⟩ := HL.out
  obtain rfl : lX = lT := by have := G.lX; omega
  obtain rfl : lC = lX := by have := G.lC; omega
  rw [q1] at G l48 RO
  have n2 := G.n2
  obtain ⟨bT, oT, rfl, RT⟩ := rT3.at' q1 (by omega)
  obtain ⟨bX, oX, rfl, RX⟩ := rX3.at' q2 (by omega)
  obtain ⟨bC, oC, rfl, RC⟩ := rC3.at' q3 (by omega)
  have HR := Bx.mk (fun W (h : Below wa.heap.size wa W) => (⟨RT.keep h, RX.keep h, RC.keep h⟩ : Rows3 W lC bT oT bX oX bC oC P.T P.X P.C))
  have HB := Bx.mk hB3
  have HK := Bx.mk (fun W (h : Below wa.heap.size wa W) => (⟨(hb.keep h).cell 0, (hb.keep h).cell 1, (hb.keep h).cell 2, (hb.keep h).cell 3⟩ : W.cell? ⟨b, 0, none⟩ = some (.int .i64 m) ∧ W.cell? ⟨b, 1, none⟩ = some (.slice (some ⟨bT, oT, none⟩) lC cT) ∧ W.cell? ⟨b, 2, none⟩ = some (.slice (some ⟨bX, oX, none⟩) lC cX) ∧ W.cell? ⟨b, 3, none⟩ = some (.slice (some ⟨bC, oC, none⟩) lC cC)))
  have GG := Bx.mk G
  have RR := Bx.mk RO
  clear HL GP rT3 rX3 rC3 RT RX RC hb hB3 q1 q2 q3 G RO
  generalize P.T = T at HR GG RR
  generalize P.X = X at HR GG RR
  generalize P.C = C at HR GG RR
  clear P
  generalize lC = n at HR HK GG RR n2 l48 ⊢
  obtain ⟨x0, x1, y0, y1, hxy⟩ := two_rng (N := (m : Int)) (s := s) (t := t) (by omega)
  have S1 := fun W => two_yes (w := W) (aT := some ⟨bT, oT, none⟩) (aX := some ⟨bX, oX, none⟩) (aC := some ⟨bC, oC, none⟩) (lT := n) (lX := n) (lC := n) (kT := cT) (kX := cX) (kC := cC) (m : Int) s t (by omega) (by omega)
  obtain ⟨x, hx⟩ : ∃ x, wi s (m : Int) = x := ⟨_, rfl⟩
  obtain ⟨y, hy⟩ : ∃ y, twoB (m : Int) s t = y := ⟨_, rfl⟩
  rw [hx] at S1 x0 x1 hxy
  rw [hy] at S1 y0 y1 hxy
  clear hx hy
  obtain ⟨k0, k1, k2, k3⟩ := HK.out _ (Below.refl _ _)
  go_wp2_with fail
  refine (S1 _).mono ?_
  rintro e w4 ⟨rfl, B4⟩
  clear k0 k1 k2 k3 S1
  obtain ⟨k0, k1, k2, k3⟩ := HK.out _ B4
  have S1 := most_any (kT := cT) (kX := cX) (kC := cC) GG.out (HR.out _ B4) x y x0 x1 y0 y1 hxy
  go_wp2_with fail
  refine S1.mono ?_
  rintro e w5 ⟨g0, f, rfl, _, MI, B5⟩
  clear S1 k0 k1 k2 k3
  have RX := RR.out x y x0 x1 y0 y1 hxy f MI
  obtain ⟨v, hv⟩ : ∃ v, valF T f x n = v := ⟨_, rfl⟩
  rw [hv] at RX ⊢
  clear hv
  have BW := below_below B4 B5
  clear B4 B5
  obtain ⟨k0, k1, k2, k3⟩ := HK.out _ BW
  have S1 := least_any (kT := cT) (kX := cX) (kC := cC) GG.out (HR.out _ BW) x y x0 x1 y0 y1 hxy
  go_wp2_with fail
  refine S1.mono ?_
  rintro e w6 ⟨f2, g1, v1, rfl, MI2, _, o1, B6⟩
  obtain rfl := MI2.det MI
  obtain ⟨c0, Z, hZ, zl, z0, zr, zf, zs⟩ := RX
  rw [hZ] at o1
  rw [c0]
  clear S1 k0 k1 k2 k3 MI MI2 hZ c0
  obtain ⟨a1, c1, rfl, r1⟩ := o1.row
  obtain ⟨l, hl⟩ : ∃ l, Z.length = l := ⟨_, rfl⟩
  rw [hl] at zl z0 zf ⊢
  have ZL := Bx.mk hl
  have ZR := Bx.mk zr
  have ZF := Bx.mk zf
  have ZS := Bx.mk (show sumTo C Z l = v from by unfold sumTo; rw [← hl, List.take_length]; exact zs)
  have ZB := Bx.mk (fun j (hj : j ≤ Z.length) => sumTo_bound (n := n) (C := C) (L := Z) (fun d hd => GG.out.c d (zr d hd).1 (zr d hd).2) j hj)
  have B7 := below_alloc (below_below BW B6) (.cells #[.slice (some ⟨g1, 0, none⟩) m m, .int .i64 v, .slice a1 l c1] 42)
  have HZ := Bx.mk (box_new w6 #[.slice (some ⟨g1, 0, none⟩) m m, .int .i64 v, .slice a1 l c1] 42)
  have P1 := Bx.mk (r1.keep (below_alloc (Below.refl _ _) (.cells #[.slice (some ⟨g1, 0, none⟩) m m, .int .i64 v, .slice a1 l c1] 42)))
  clear o1 r1 B6 BW hl zr zf zs
  go_upto_region 9 with fail
  go_simp
  go_upto_region 9 with fail
  generalize w6.alloc _ = w7 at B7 HZ P1 ⊢
  generalize w6.heap.size = z1 at HZ ⊢
  obtain ⟨k0, k1, k2, k3⟩ := HK.out _ B7
  have S1 := dual_any (kT := cT) (kX := cX) (kC := cC) GG.out (HR.out _ B7)
  go_wp2_with fail
  refine S1.mono ?_
  rintro e w8 ⟨gM, oM, cM, l2, c2, l3, c3, a2, a3, rfl, RM, B8⟩
  clear S1 k0 k1 k2 k3
  obtain ⟨F, hF⟩ : ∃ F, facesOf X = F := ⟨_, rfl⟩
  rw [hF] at RM ZF
  clear hF
  obtain ⟨K, hK⟩ : ∃ K, faceN X = K := ⟨_, rfl⟩
  rw [hK]
  clear hK
  have B9 := below_alloc (below_below B7 B8) (.cells #[.int .i64 K, .slice (some ⟨gM, oM, none⟩) n cM, .slice a2 l2 c2, .slice a3 l3 c3] 25)
  have HM := Bx.mk (box_new w8 #[.int .i64 K, .slice (some ⟨gM, oM, none⟩) n cM, .slice a2 l2 c2, .slice a3 l3 c3] 25)
  have kk := below_alloc (Below.refl w8.heap.size w8) (.cells #[.int .i64 K, .slice (some ⟨gM, oM, none⟩) n cM, .slice a2 l2 c2, .slice a3 l3 c3] 25)
  have RM9 := Bx.mk (RM.keep kk)
  have P9 := Bx.mk ((P1.out.keep B8).keep kk)
  have HZ9 := Bx.mk ((HZ.out.keep B8).keep kk)
  clear RM P1 HZ B7 B8 kk
  go_upto_region 10 with fail
  go_simp
  go_upto_region 10 with fail
  generalize w8.alloc _ = w9 at B9 HM RM9 P9 HZ9 ⊢
  generalize w8.heap.size = z2 at HM ⊢
  have HD := Bx.mk (fun W (h : Below w9.heap.size w9 W) => (⟨(HZ9.out.keep h).cell 1, (HZ9.out.keep h).cell 2, (HM.out.keep h).cell 1, (HK.out _ (below_below B9 h)).2.1, (HK.out _ (below_below B9 h)).2.2.2⟩ : W.cell? ⟨z1, 1, none⟩ = some (.int .i64 v) ∧ W.cell? ⟨z1, 2, none⟩ = some (.slice a1 l c1) ∧ W.cell? ⟨z2, 1, none⟩ = some (.slice (some ⟨gM, oM, none⟩) n cM) ∧ W.cell? ⟨b, 1, none⟩ = some (.slice (some ⟨bT, oT, none⟩) n cT) ∧ W.cell? ⟨b, 3, none⟩ = some (.slice (some ⟨bC, oC, none⟩) n cC)))
  obtain ⟨d0, d1, d2, d3, d4⟩ := HD.out w9 (Below.refl _ _)
  have e1 : (v != v) = false := by simp
  have e2 : ((n : Int) != (n : Int)) = false := by simp
  go_wp2
  clear e1 e2
  go_loopg [17, 18] (l + 1) (fun q y17 y18 wr => ∃ j : Nat, y17 = .int .i64 (sumTo C Z j) ∧ y18 = .int .i64 j ∧ q = l + 1 - j ∧ j ≤ l ∧ Below w9.heap.size w9 wr)
  case atStart => exact ⟨0, rfl, rfl, by omega, by omega, Below.refl _ _⟩
  case round =>
    clear d0 d1 d2 d3 d4
    obtain ⟨j, rfl, rfl, hq, hj, BW⟩ := hrel
    obtain ⟨d0, d1, d2, d3, d4⟩ := HD.out _ BW
    by_cases hjl : j < l
    · have hjI : (j : Int) < l := by omega
      have lI : (0 : Int) < l := by omega
      have hm1 := Int.emod_nonneg ((j : Int) + 1) (show (l : Int) ≠ 0 by omega)
      have hm2 := Int.emod_lt_of_pos ((j : Int) + 1) lI
      have zf := ZF.out j hjl
      have ht : ((j : Int) + 1).tmod l = ((j : Int) + 1) % l := Int.tmod_eq_emod_of_nonneg (by omega)
      obtain ⟨nx, hnx⟩ : ∃ nx, ((j : Int) + 1) % (l : Int) = nx := ⟨_, rfl⟩
      rw [hnx] at hm1 hm2 zf ht
      clear hnx
      obtain ⟨bZ, oZ, rfl, hbz, cz⟩ := (P9.out.keep BW) j (by omega) (by rw [ZL.out]; exact hjI)
      obtain ⟨bZ', oZ', ez, _, cn⟩ := (P9.out.keep BW) nx hm1 (by rw [ZL.out]; exact hm2)
      obtain ⟨rfl, rfl⟩ : bZ = bZ' ∧ oZ = oZ' := by simpa using ez
      rw [Int.toNat_natCast] at cz
      have dr := ZR.out (rd Z j) (rd_mem (by omega) (by rw [ZL.out]; exact hjI))
      have gr := ZR.out (rd Z nx) (rd_mem hm1 (by rw [ZL.out]; exact hm2))
      have NX := Bx.mk (sumTo_next C Z j (by rw [ZL.out]; exact hjl))
      have vb := ZB.out j (by rw [ZL.out]; exact hj)
      have vb2 := ZB.out (j + 1) (by rw [ZL.out]; exact hjl)
      obtain ⟨d, hd⟩ : ∃ d, rd Z j = d := ⟨_, rfl⟩
      obtain ⟨g, hg⟩ : ∃ g, rd Z nx = g := ⟨_, rfl⟩
      rw [hd] at cz dr zf NX
      rw [hg] at cn gr zf
      clear hd hg ez
      obtain ⟨dd0, dd1⟩ := dr
      obtain ⟨gg0, gg1⟩ := gr
      go_upto_region 16 with fail
      go_quiet (fail)
      have BW2 := below_drewN BW nq
      generalize wr.drewN nq = w' at BW2 ⊢
      clear nq d0 d1 d2 d3 d4 cz cn BW hbz
      obtain ⟨d0, d1, d2, d3, d4⟩ := HD.out _ BW2
      have do_ := ot_rng d n dd0 dd1 GG.out.ev
      have do0 := do_.1
      have do1 := do_.2
      have hxor := xor_one d dd0 (by omega)
      have f1 := (RM9.out.keep BW2).get (ot d) do0 do1
      have f2 := (RM9.out.keep BW2).get g gg0 gg1
      rw [zf] at f2
      obtain ⟨fv, hfv⟩ : ∃ fv, rd F (ot d) = fv := ⟨_, rfl⟩
      rw [hfv] at f1 f2
      clear hfv zf do_
      have t1 : decide (d < 0) = false := decide_eq_false (by omega)
      have t2 : decide (g < 0) = false := decide_eq_false (by omega)
      have t3 : decide (d ≥ (n : Int)) = false := decide_eq_false (by omega)
      have t4 : decide (g ≥ (n : Int)) = false := decide_eq_false (by omega)
      have t5 : (fv != fv) = false := by simp
      go_upto_region 17 with fail
      go_quiet (fail)
      have BW3 := below_drewN BW2 nq
      generalize w'.drewN nq = w3 at BW3 ⊢
      clear d0 d1 d2 d3 d4 f1 f2 t1 t2 t3 t4 t5 hxor BW2
      obtain ⟨d0, d1, d2, d3, d4⟩ := HD.out _ BW3
      have cc := (HR.out _ (below_below B9 BW3)).C.get d dd0 dd1
      have cb := GG.out.c d dd0 dd1
      obtain ⟨z, hz⟩ : ∃ z, sumTo C Z j = z := ⟨_, rfl⟩
      obtain ⟨y, hy⟩ : ∃ y, rd C d = y := ⟨_, rfl⟩
      rw [hz] at NX vb ⊢
      rw [hy] at cc cb NX
      clear hz hy vb2
      have y1 : IntKind.i64.wrap (z + y) = z + y := IntWalk.i64_in _ (by omega)
      go_wp2
      go_roundg (l + 1 - (j + 1))
      case rel => exact ⟨j + 1, by rw [NX.out], rfl, rfl, by omega, BW3⟩
      case measure => omega
    · have hjI : ¬ (j : Int) < l := by omega
      obtain rfl : l = j := by omega
      have BF := Bx.mk (below_below HB.out (below_below B9 BW))
      rw [ZS.out]
      go_wp2
      go_ret
      exact ⟨by simp, BF.out⟩
end Go.Proofs.Ytidcofjadlfahaa
