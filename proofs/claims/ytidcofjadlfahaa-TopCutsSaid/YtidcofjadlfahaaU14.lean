/- The walk of Most. -/
import Derived.Test.YtidcofjadlfahaaU13
import Derived.Test.YtidcofjadlfahaaFm
set_option linter.unusedVariables false
set_option linter.unusedSimpArgs false
namespace Go.Proofs.Ytidcofjadlfahaa
open Go.RowKit

/-- The less of two floats, in a region that draws its order. -/
theorem step_min {ops : Array Oper} {o : Oper} {a : Act} {W : World} {K : Act → World → Prop} {Q : Exit → Act → World → Prop} {E : Prop} (hgd : o.guard = none) (x y : Operand) (tys : Array TypeId)
    (ho : o.op = .call { callee := .builtin .min, args := #[x, y], argTypes := tys }) (u v r : Nat) (hx : a.eval x = .float .f64 u) (hy : a.eval y = .float .f64 v)
    (HM : ∀ tys ty w, (Builtin.min_ tys ty #[.float .f64 u, .float .f64 v]).run Try.prog w = .ok (.float .f64 r) w)
    (h : K (a.put o.dst (.float .f64 r)) W) :
    if Region.wanted o (yielded ops a.tmps) = true then Oper.wp Try.prog o a W K Q else E := by
  have hw : Region.wanted o (yielded ops a.tmps) = true := by simp [Region.wanted, hgd]
  rw [if_pos hw]
  unfold Oper.wp
  simp [execOp, ho, resolve, invoke, builtin, hx, hy, HM, Result.andThen]
  exact h
theorem oft_rng {z : Int} {l : List Int} (h : l.Nodup) : 0 ≤ oft z l ∧ oft z l ≤ 1 := by
  by_cases m : z ∈ l
  · rw [oft_one h m]; omega
  · rw [oft_no m]; omega
theorem aug_app (x : Int) (d : Int) : ∀ (P f : List Int), aug f x (P ++ [d]) = aug1 (aug f x P) x d
  | [], f => rfl
  | e :: l, f => by
    show aug (aug1 f x e) x (l ++ [d]) = aug1 (aug (aug1 f x e) x l) x d
    exact aug_app x d l _
theorem aug_bound {f P : List Int} {x z : Int} {n : Nat} (he : (n : Int) % 2 = 0) (hl : f.length = n) (hP : ∀ d, d ∈ P → 0 ≤ d ∧ d < n) (hn : P.Nodup) (M : Mid n f) (x0 : 0 ≤ x) (x1 : x ≤ 4294967296) (z0 : 0 ≤ z) (z1 : z < n) : -2199023255552 ≤ rd (aug f x P) z ∧ rd (aug f x P) z ≤ 2199023255552 := by
  rw [rd_aug he z0 P f hl hP]
  have h1 := oft_rng (z := z) hn
  have h2 := oft_rng (z := ot z) hn
  have h3 := M z z0 z1
  have e1 : x * oft z P = 0 ∨ x * oft z P = x := by
    rcases (show oft z P = 0 ∨ oft z P = 1 by omega) with h | h
    · rw [h]; omega
    · rw [h]; omega
  have e2 : x * oft (ot z) P = 0 ∨ x * oft (ot z) P = x := by
    rcases (show oft (ot z) P = 0 ∨ oft (ot z) P = 1 by omega) with h | h
    · rw [h]; omega
    · rw [h]; omega
  omega
section
variable {m n bT oT bX oX bC oC kT kX kC : Nat} {T X C : List Int} {w : World}
set_option maxHeartbeats 6400000 in
set_option maxRecDepth 100000 in
theorem most_any (G : Good m n T X C) (R : Rows3 w n bT oT bX oX bC oC T X C) (s t : Int) (hs0 : 0 ≤ s) (hs1 : s < m) (ht0 : 0 ≤ t) (ht1 : t < m) (hst : s ≠ t) :
    Calls Try.prog 15 #[(.agg #[.int .i64 m, .slice (some ⟨bT, oT, none⟩) n kT, .slice (some ⟨bX, oX, none⟩) n kX, .slice (some ⟨bC, oC, none⟩) n kC]), .int .i64 s, .int .i64 t] w fun e w' => ∃ g f, e = .returned (.tuple #[.slice (some ⟨g, 0, none⟩) n n, .int .i64 (valF T f s n), .int .i64 0]) ∧ OwnN w' w.heap.size g n n f ∧ MostIs T C m n s t f ∧ Below w.heap.size w w' := by
  have CH := fun W (h : Below w.heap.size w W) => pcheck_any (kT := kT) (kX := kX) (kC := kC) G (R.keep h)
  have FI := fun W (h : Below w.heap.size w W) (gF : Nat) (f : List Int) (F : RowAt W gF 0 n f) (M : Mid n f) => find_any (kT := kT) (kX := kX) (kC := kC) (kF := n) G (R.keep h) F M s hs0 hs1
  have RO := fun W (h : Below w.heap.size w W) (gF : Nat) (f : List Int) (F : RowAt W gF 0 n f) (M : Mid n f) (d : Int) (d0 : 0 ≤ d) (d1 : d < n) => room_any (kT := kT) (kX := kX) (kC := kC) (kF := n) G (R.keep h) F M d d0 d1
  have VA := fun W (h : Below w.heap.size w W) (gF : Nat) (f : List Int) (F : RowAt W gF 0 n f) (M : Mid n f) => value_any (kT := kT) (kX := kX) (kC := kC) (kF := n) G (R.keep h) F M s
  have GG := Bx.mk G
  have RR := Bx.mk R
  have m1 := G.m1
  have m60 := G.m60
  have n2 := G.n2
  have n240 := G.n240
  clear G R
  have hB := below_alloc (Below.refl w.heap.size w) (.cells #[.int .i64 m, .slice (some ⟨bT, oT, none⟩) n kT, .slice (some ⟨bX, oX, none⟩) n kX, .slice (some ⟨bC, oC, none⟩) n kC] 25)
  have hbox := box_new w #[.int .i64 m, .slice (some ⟨bT, oT, none⟩) n kT, .slice (some ⟨bX, oX, none⟩) n kX, .slice (some ⟨bC, oC, none⟩) n kC] 25
  go_enter Try.func15, Try.ntmps15
  go_upto_region 1 with fail
  generalize w.alloc _ = wa at hB hbox ⊢
  generalize w.heap.size = b at hbox ⊢
  have HK := Bx.mk (fun W (h : Below wa.heap.size wa W) => (⟨(hbox.keep h).cell 0, (hbox.keep h).cell 1, (hbox.keep h).cell 2, (hbox.keep h).cell 3⟩ : W.cell? ⟨b, 0, none⟩ = some (.int .i64 m) ∧ W.cell? ⟨b, 1, none⟩ = some (.slice (some ⟨bT, oT, none⟩) n kT) ∧ W.cell? ⟨b, 2, none⟩ = some (.slice (some ⟨bX, oX, none⟩) n kX) ∧ W.cell? ⟨b, 3, none⟩ = some (.slice (some ⟨bC, oC, none⟩) n kC)))
  have HBX := Bx.mk hbox
  have HBW := Bx.mk (fun W (h : Below wa.heap.size wa W) => below_below hB h)
  clear hbox
  obtain ⟨k0, k1, k2, k3⟩ := HK.out wa (Below.refl _ _)
  have S1 := CH _ hB
  have e1 : decide (s < 0) = false := decide_eq_false (by omega)
  have e2 : decide (t < 0) = false := decide_eq_false (by omega)
  have e3 : decide (s ≥ (m : Int)) = false := decide_eq_false (by omega)
  have e4 : decide (t ≥ (m : Int)) = false := decide_eq_false (by omega)
  have e5 : (s == t) = false := by simpa using hst
  have hlt : (s < t ∧ ¬ t < s) ∨ (t < s ∧ ¬ s < t) := by omega
  rcases hlt with ⟨hl1, hl2⟩ | ⟨hl1, hl2⟩
  all_goals
    go_step3
    go_wp2_with fail
    refine S1.mono ?_
    rintro e w2 ⟨rfl, B2⟩
    clear S1 CH k0 k1 k2 k3
    obtain ⟨k0, k1, k2, k3⟩ := HK.out _ B2
    have hmk : ∀ w : World, (Instr.makeSlice 22 (.int .i64 n) (.int .i64 n)).run Try.prog w = .ok (.slice (some ⟨w.heap.size, 0, none⟩) n n) (w.alloc (.cells (madeCells #[.int .i64 0] n) 3)) :=
      run_make_row' (P := Try.prog) 22 3 (.int .i64 0) 8 Try.underlying22 info3 rfl .i64 .i64 n (by omega) (by omega)
    have o1 := own_made w2 wa.heap.size n B2.size (by omega)
    have B3 := below_alloc B2 (.cells (madeCells #[.int .i64 0] n) 3)
    obtain ⟨gF, hgF⟩ : ∃ gF, w2.heap.size = gF := ⟨_, rfl⟩
    have hgl : wa.heap.size ≤ gF := by have := B2.size; omega
    rw [show OwnN (w2.alloc (.cells (madeCells #[.int .i64 0] n) 3)) wa.heap.size w2.heap.size n n (List.replicate n 0) = OwnN (w2.alloc (.cells (madeCells #[.int .i64 0] n) 3)) wa.heap.size gF n n (mIt T C m n s t 0) from by rw [hgF]; rfl] at o1
    go_wp2
    generalize w2.alloc _ = wb at o1 B3 ⊢
    clear k0 k1 k2 k3 hmk hgF B2 e1 e2 e3 e4 e5 hl1 hl2
    go_step3
    go_wp2
    go_loopg [10] (2147483648 * n + 1) (fun q y wr => ∃ k : Nat, OwnN wr wa.heap.size gF n n (mIt T C m n s t k) ∧ Below wa.heap.size wa wr ∧ (q : Int) = 2147483648 * (n : Int) + 1 - valF T (mIt T C m n s t k) s n)
    case atStart => exact ⟨0, o1, B3, by have : valF T (mIt T C m n s t 0) s n = 0 := valF_zero s n (Nat.le_refl _); omega⟩
    case round =>
      clear o1 B3
      obtain ⟨k, o1, BW, hq⟩ := hrel
      have K := mIt_ok GG.out hs0 hs1 ht0 ht1 hst k
      have KB := Bx.mk K
      have MD := K.mid GG.out
      have vb := K.bound GG.out s n (Nat.le_refl _)
      have NX := Bx.mk (show mIt T C m n s t (k + 1) = mStep T C m n s t (mIt T C m n s t k) from rfl)
      have ST := Bx.mk (fun hb => step_ok GG.out hs0 hs1 ht0 ht1 hst K hb)
      have FO := Bx.mk (bEnd_found (ok := okR C (mIt T C m n s t k)) GG.out.ev GG.out.t hs0 hs1)
      obtain ⟨f, hf⟩ : ∃ f, mIt T C m n s t k = f := ⟨_, rfl⟩
      rw [hf] at o1 hq KB MD vb NX ST FO
      have FB := Bx.mk hf
      clear hf K
      have S1 := FI _ (HBW.out _ BW) gF f o1.at' MD
      obtain ⟨k0, k1, k2, k3⟩ := HK.out _ BW
      go_wp2_with fail
      refine S1.mono ?_
      rintro e w4 ⟨g4, rfl, o4, B4⟩
      clear S1 k0 k1 k2 k3
      have BW4 := below_below BW B4
      have o5 := o1.keep B4
      have n4 : g4 ≠ gF := by have := o4.rng.1; have := o1.rng.2; omega
      have n4' : wa.heap.size ≤ g4 := by have := o4.rng.1; have := BW.size; omega
      replace o4 := o4.low3 (B' := wa.heap.size) BW.size
      clear o1 BW B4
      have BYD := Bx.mk (show (bEnd T (okR C f) m n s).by_ = byOf T C f m n s from rfl)
      obtain ⟨D, hD⟩ : ∃ D, byOf T C f m n s = D := ⟨_, rfl⟩
      rw [BYD.out, hD] at o4
      rw [hD] at ST
      have DB := Bx.mk hD
      clear hD
      have ct := o4.cell t ht0 ht1
      obtain ⟨z, hz⟩ : ∃ z, rd D t = z := ⟨_, rfl⟩
      rw [hz] at ct ST
      have ZB := Bx.mk hz
      clear hz
      by_cases hzn : z < 0
      · have MI := Bx.mk (show MostIs T C m n s t f from ⟨by rw [DB.out, ZB.out]; exact hzn, k, FB.out.symm⟩)
        have S1 := VA _ (HBW.out _ BW4) gF f o5.at' MD
        obtain ⟨k0, k1, k2, k3⟩ := HK.out _ BW4
        go_wp2_with fail
        refine S1.mono ?_
        rintro e w5 ⟨rfl, B5⟩
        have OE := Bx.mk ((o5.keep B5).low3 (B' := w.heap.size) (by have := hB.size; omega))
        have BF := Bx.mk (HBW.out _ (below_below BW4 B5))
        clear S1 k0 k1 k2 k3 o5 BW4 o4 B5 ct
        go_wp2
        rw [Exit.noGoto_ret]
        go_ret3
        exact ⟨gF, f, rfl, OE.out, MI.out, BF.out⟩
      · have hz0 : 0 ≤ z := by omega
        obtain ⟨P, p1, p2, p3, p4, p5, p6, p7⟩ := ST.out hz0
        have IN := inf_any
        have hP0 : P ≠ [] := fun h => by rw [h] at p1; exact hst p1.symm
        obtain ⟨x, hx⟩ : ∃ x, leastR C f P = x := ⟨_, rfl⟩
        rw [hx] at p4 p5 p6 p7
        have hxb : x ≤ 4294967296 := by
          obtain ⟨d0, hd0⟩ := List.exists_mem_of_ne_nil P hP0
          have h1 := leastR_le (C := C) (f := f) hd0
          have h2 := p3.rng d0 hd0
          have h3 := GG.out.c d0 h2.1 h2.2.1
          have h4 := (show -2147483648 ≤ rd f d0 from by
            have ho := ot_rng d0 n h2.1 h2.2.1 GG.out.ev
            have h5 := KB.out.cap (ot d0) ho.1 ho.2
            have h6 := KB.out.odd d0 h2.1 h2.2.1
            have h7 := GG.out.c (ot d0) ho.1 ho.2
            omega)
          omega
        have W1 := Bx.mk p1
        have W3 := Bx.mk p3
        have W4 := Bx.mk (And.intro p4 (And.intro p5 p6))
        have HP0 := Bx.mk hP0
        have HX := Bx.mk hx
        clear p1 p3 p4 p5 p6 hP0 hx ST vb
        go_wp2_with fail
        refine (IN _).mono ?_
        rintro e w5 ⟨rfl, rfl⟩
        clear ct IN
        go_wp2
        go_loopg [11, 12] (P.length + 1) (fun q y11 y12 wx => ∃ (lw : Nat) (v : Int) (pre suf : List Int), y11 = .float .f64 lw ∧ y12 = .int .i64 v ∧ q = suf.length + 1 ∧ Bx (P = pre ++ suf) ∧ Bx (Way T D s v suf) ∧ Bx (v ∈ (bEnd T (okR C f) m n s).q) ∧ Bx (lw = if pre = [] then 9218868437227405312 else floatOfInt .f64 (leastR C f pre)) ∧ OwnN wx wa.heap.size gF n n f ∧ OwnN wx wa.heap.size g4 m m D ∧ Below wa.heap.size wa wx)
        case atStart => exact ⟨_, t, [], P, rfl, rfl, rfl, ⟨rfl⟩, W1, ⟨(FO.out.fq t ht0 ht1).1 (by rw [BYD.out, DB.out, ZB.out]; exact hz0)⟩, ⟨by rw [if_pos rfl]⟩, o5, o4, BW4⟩
        case round =>
          clear o5 o4 BW4
          obtain ⟨lw, v, pre, suf, rfl, rfl, hq3, PS, WS, VQ, LW, o5, o4, BW4⟩ := hrel
          cases suf with
          | nil =>
            obtain rfl : s = v := WS.out.symm
            have hpre := PS.out
            rw [List.append_nil] at hpre
            obtain rfl : P = pre := hpre
            have BI : ∀ w, (convert 66 3 (.float .f64 lw)).run Try.prog w = .ok (.int .i64 x) w := by
              rw [LW.out, if_neg HP0.out, HX.out]
              exact back_int (by omega) (by omega)
            have e6 : (s != s) = false := by simp
            clear LW PS WS VQ
            go_wp2
            go_loopg [13] (P.length + 1) (fun q y13 wx => ∃ (u : Int) (pr sf : List Int), y13 = .int .i64 u ∧ q = sf.length + 1 ∧ Bx (P = pr ++ sf) ∧ Bx (Way T D s u sf) ∧ Bx (u ∈ (bEnd T (okR C f) m n s).q) ∧ OwnN wx wa.heap.size gF n n (aug f x pr) ∧ OwnN wx wa.heap.size g4 m m D ∧ Below wa.heap.size wa wx)
            case atStart => exact ⟨t, [], P, rfl, rfl, ⟨rfl⟩, W1, ⟨(FO.out.fq t ht0 ht1).1 (by rw [BYD.out, DB.out, ZB.out]; exact hz0)⟩, o5, o4, BW4⟩
            case round =>
              clear o5 o4 BW4
              obtain ⟨u, pr, sf, rfl, hq4, PS, WS, VQ, o5, o4, BW4⟩ := hrel
              cases sf with
              | nil =>
                obtain rfl : s = u := WS.out.symm
                have hpre := PS.out
                rw [List.append_nil] at hpre
                obtain rfl : P = pr := hpre
                have vb2 := W4.out.2.1.bound GG.out s n (Nat.le_refl _)
                rw [W4.out.2.2] at vb2
                have GQ : ((2147483648 * (n : Int) + 1 - (valF T f s n + x)).toNat : Int) = 2147483648 * (n : Int) + 1 - (valF T f s n + x) := by omega
                go_wp2
                go_roundg ((2147483648 * (n : Int) + 1 - (valF T f s n + x)).toNat)
                case rel => exact ⟨k + 1, by rw [NX.out, W4.out.1]; exact o5, BW4, by rw [NX.out, W4.out.1, W4.out.2.2]; exact GQ⟩
                case measure => omega
              | cons d l =>
                obtain ⟨hvs, hdv, WL⟩ := WS.out
                obtain ⟨a1, a2, a3, a4, a5⟩ := FO.out.above VQ.out hvs
                rw [BYD.out, DB.out, ← hdv] at a1 a2 a3 a4 a5
                have vr := FO.out.rg u VQ.out
                have v0 := vr.1
                have v1 := vr.2
                have cv := o4.cell u v0 v1
                rw [← hdv] at cv
                have e7 : (u != s) = true := by simpa using hvs
                have ho := ot_rng d n a1 a2 GG.out.ev
                have ho0 := ho.1
                have ho1 := ho.2
                have hx1 := xor_one d a1 (by omega)
                have hPr : ∀ e, e ∈ pr → 0 ≤ e ∧ e < n := fun e he => by
                  have := W3.out.rng e (by rw [PS.out]; simp [he])
                  exact ⟨this.1, this.2.1⟩
                have hPd : (pr ++ [d]).Nodup := by
                  have := W3.out.nd
                  rw [PS.out, show pr ++ d :: l = (pr ++ [d]) ++ l from by simp] at this
                  exact (List.nodup_append.1 this).1
                have b1 := aug_bound (z := d) GG.out.ev KB.out.len hPr (List.nodup_append.1 hPd).1 MD (by omega) hxb a1 a2
                have b2 := aug_bound (z := ot d) GG.out.ev KB.out.len hPr (List.nodup_append.1 hPd).1 MD (by omega) hxb ho.1 ho.2
                have PS2 := Bx.mk (show P = (pr ++ [d]) ++ l from by rw [PS.out]; simp)
                have WLB := Bx.mk WL
                have VQ2 := Bx.mk a5
                have AA := Bx.mk (aug_app x d pr f)
                obtain ⟨A, hA⟩ : ∃ A, aug f x pr = A := ⟨_, rfl⟩
                rw [hA] at o5 b1 b2 AA
                have o6 := o5.set d (rd A d + x)
                have c1 := o5.cell d a1 a2
                have f1 := o5.fz d
                have c2 := o6.cell (ot d) ho.1 ho.2
                have f2 := o6.fz (ot d)
                have o7 := o6.set (ot d) (rd (st A d (rd A d + x)) (ot d) - x)
                have A2 := Bx.mk (show st (st A d (rd A d + x)) (ot d) (rd (st A d (rd A d + x)) (ot d) - x) = aug f x (pr ++ [d]) from by rw [AA.out]; rfl)
                rw [A2.out] at o7
                have er : rd (st A d (rd A d + x)) (ot d) = rd A (ot d) := by
                  rw [rd_st _ _ _ _ a1 (by rw [o5.1]; exact a2) ho.1, if_neg (ot_ne d)]
                rw [er] at c2 o7
                have q4 := (o4.far (p := ⟨gF, d.toNat, none⟩) (by show gF ≠ g4; exact n4.symm) (.int .i64 (rd A d + x)))
                have cv2 := q4.cell u v0 v1
                rw [← hdv] at cv2
                have q5 := q4.far (p := ⟨gF, (ot d).toNat, none⟩) (by show gF ≠ g4; exact n4.symm) (.int .i64 (rd A (ot d) - x))
                have B5 := below_set BW4 (p := ⟨gF, d.toNat, none⟩) hgl (.int .i64 (rd A d + x))
                have B6 := below_set B5 (p := ⟨gF, (ot d).toNat, none⟩) hgl (.int .i64 (rd A (ot d) - x))
                obtain ⟨y, hy⟩ : ∃ y, rd A d = y := ⟨_, rfl⟩
                obtain ⟨y2, hy2⟩ : ∃ y2, rd A (ot d) = y2 := ⟨_, rfl⟩
                rw [hy] at b1 c1 c2 f2 o7 cv2 q5 B6
                rw [hy2] at b2 c2 o7 q5 B6
                have i1 : IntKind.i64.wrap (y + x) = y + x := IntWalk.i64_in _ (by omega)
                have i2 : IntKind.i64.wrap (y2 - x) = y2 - x := IntWalk.i64_in _ (by omega)
                have HDV := Bx.mk hdv
                clear hdv hA hy hy2 er A2 AA hPr hPd a3 a4 a5 WL vr ho hvs o5 o4 BW4 o6 q4 B5
                go_upto_region 15 with fail
                clear c1 f1 c2 f2 cv cv2 i1 i2
                generalize (wr.setCell _ _).setCell _ _ = w8 at o7 q5 B6 ⊢
                have cv := q5.cell u v0 v1
                have ct := (RR.out.keep (HBW.out _ B6)).T.get d a1 a2
                obtain ⟨v2, hv2⟩ : ∃ v2, rd T d = v2 := ⟨_, rfl⟩
                rw [hv2] at ct WLB VQ2
                rw [← HDV.out] at cv
                clear hv2
                obtain ⟨k0, k1, k2, k3⟩ := HK.out _ B6
                go_quiet (fail)
                go_wp2
                go_roundg (l.length + 1)
                case rel => exact ⟨_, pr ++ [d], l, rfl, rfl, PS2, WLB, VQ2, o7.keep (below_drewN (Below.refl _ _) _), q5.keep (below_drewN (Below.refl _ _) _), below_drewN B6 _⟩
                case measure => simp at hq4; omega
          | cons d l =>
            obtain ⟨hvs, hdv, WL⟩ := WS.out
            obtain ⟨a1, a2, a3, a4, a5⟩ := FO.out.above VQ.out hvs
            rw [BYD.out, DB.out, ← hdv] at a1 a2 a3 a4 a5
            have vr := FO.out.rg v VQ.out
            have v0 := vr.1
            have v1 := vr.2
            have cv := o4.cell v v0 v1
            rw [← hdv] at cv
            have ct := (RR.out.keep (HBW.out _ BW4)).T.get d a1 a2
            have e6 : (v != s) = true := by simpa using hvs
            have cb := GG.out.c d a1 a2
            have fb := MD d a1 a2
            have hr0 : 0 < rd C d - rd f d := of_decide_eq_true a3
            have ho := ot_rng d n a1 a2 GG.out.ev
            have h5 := KB.out.cap (ot d) ho.1 ho.2
            have h6 := KB.out.odd d a1 a2
            have h7 := GG.out.c (ot d) ho.1 ho.2
            have HRd := fun W (h : Below wr.heap.size wr W) => RO W (HBW.out _ (below_below BW4 h)) gF f (o5.keep h).at' MD d a1 a2
            have LX := Bx.mk (show leastR C f (pre ++ [d]) = if pre = [] then rd C d - rd f d else min (leastR C f pre) (rd C d - rd f d) from by
              by_cases e : pre = []
              · rw [e, if_pos rfl]; rfl
              · rw [if_neg e, leastR_app e])
            have lpre : pre ≠ [] → 0 ≤ leastR C f pre ∧ leastR C f pre < 9007199254740992 := fun hpre => by
              have hh : ∀ e, e ∈ pre → 0 < rd C e - rd f e := fun e he => of_decide_eq_true (W3.out.rng e (by rw [PS.out]; simp [he])).2.2
              have h8 := leastR_pos hh
              obtain ⟨d0, hd0⟩ := List.exists_mem_of_ne_nil pre hpre
              have h9 := leastR_le (C := C) (f := f) hd0
              have g2 := W3.out.rng d0 (by rw [PS.out]; simp [hd0])
              have g3 := GG.out.c d0 g2.1 g2.2.1
              have g4 := MD d0 g2.1 g2.2.1
              omega
            obtain ⟨r, hr⟩ : ∃ r, rd C d - rd f d = r := ⟨_, rfl⟩
            rw [hr] at HRd hr0 LX
            obtain ⟨lw2, hlw2⟩ : ∃ lw2, lw2 = floatOfInt .f64 (leastR C f (pre ++ [d])) := ⟨_, rfl⟩
            have HM : ∀ tys ty w, (Builtin.min_ tys ty #[.float .f64 lw, .float .f64 (floatOfInt .f64 r)]).run Try.prog w = .ok (.float .f64 lw2) w := by
              rw [hlw2, LX.out]
              have hl := LW.out
              by_cases e : pre = []
              · rw [if_pos e] at hl ⊢
                rw [hl]
                exact min_inf (by omega) (by omega)
              · rw [if_neg e] at hl ⊢
                rw [hl]
                exact min_whole (lpre e).1 (lpre e).2 (by omega) (by omega)
            have LW2 := Bx.mk (show lw2 = if pre ++ [d] = [] then 9218868437227405312 else floatOfInt .f64 (leastR C f (pre ++ [d])) from by rw [if_neg (by simp)]; exact hlw2)
            have PS2 := Bx.mk (show P = (pre ++ [d]) ++ l from by rw [PS.out]; simp)
            have WLB := Bx.mk WL
            have VQ2 := Bx.mk a5
            have CT := Bx.mk ct
            have CV := Bx.mk (fun W (h : Below wr.heap.size wr W) => (o4.keep h).cell v v0 v1)
            rw [← hdv] at CV
            have HKV := Bx.mk (fun W (h : Below wr.heap.size wr W) => (⟨h, (HK.out W (below_below BW4 h)).1, (HK.out W (below_below BW4 h)).2.1, (HK.out W (below_below BW4 h)).2.2.1, (HK.out W (below_below BW4 h)).2.2.2, CV.out W h⟩ : Below wr.heap.size wr W ∧ W.cell? ⟨b, 0, none⟩ = some (.int .i64 m) ∧ W.cell? ⟨b, 1, none⟩ = some (.slice (some ⟨bT, oT, none⟩) n kT) ∧ W.cell? ⟨b, 2, none⟩ = some (.slice (some ⟨bX, oX, none⟩) n kX) ∧ W.cell? ⟨b, 3, none⟩ = some (.slice (some ⟨bC, oC, none⟩) n kC) ∧ W.cell? ⟨g4, v.toNat, none⟩ = some (.int .i64 d)))
            clear hr hlw2 lpre ho h5 h6 h7 cb fb a3 a4 a5 WL hdv vr cv ct hvs
            go_upto_region 12 with fail
            go_region_held_law (fun W => Below wr.heap.size wr W ∧ W.cell? ⟨b, 0, none⟩ = some (.int .i64 m) ∧ W.cell? ⟨b, 1, none⟩ = some (.slice (some ⟨bT, oT, none⟩) n kT) ∧ W.cell? ⟨b, 2, none⟩ = some (.slice (some ⟨bX, oX, none⟩) n kX) ∧ W.cell? ⟨b, 3, none⟩ = some (.slice (some ⟨bC, oC, none⟩) n kC) ∧ W.cell? ⟨g4, v.toNat, none⟩ = some (.int .i64 d))
              (first | assumption | exact HKV.out _ (Below.drew (Below.refl _ _)) | exact HKV.out _ B7)
              (first | (go_at_call 35; (with_reducible refine (HRd _ (And.left ‹_ ∧ _›)).mono ?_); rintro e W7 ⟨rfl, B7'⟩; have B7 := below_below (And.left ‹_ ∧ _›) B7') | (refine step_min rfl (.tmp 62) (.tmp 70) #[66, 66] rfl lw (floatOfInt .f64 r) lw2 rfl rfl HM ?_))
            have B8 := And.left ‹Below wr.heap.size wr W7 ∧ _›
            have o6 := o5.keep B8
            have o7 := o4.keep B8
            have B9 := below_below BW4 B8
            have cv := CV.out _ B8
            have ct := (RR.out.keep (HBW.out _ B9)).T.get d a1 a2
            obtain ⟨v2, hv2⟩ : ∃ v2, rd T d = v2 := ⟨_, rfl⟩
            rw [hv2] at ct WLB VQ2
            clear hv2 HRd HM o5 o4 BW4 hr0 B7 B7'
            obtain ⟨k0, k1, k2, k3⟩ := HK.out _ B9
            go_upto_region 11 with fail
            go_quiet (fail)
            go_wp2
            go_roundg (l.length + 1)
            case rel => exact ⟨_, _, pre ++ [d], l, rfl, rfl, rfl, PS2, WLB, VQ2, LW2, o6.keep (below_drewN (Below.refl _ _) _), o7.keep (below_drewN (Below.refl _ _) _), below_drewN B9 _⟩
            case measure => simp at hq3; omega
end
end Go.Proofs.Ytidcofjadlfahaa
