/- The walk of Cycle. -/
import Derived.Test.YtidcofjadlfahaaU15
set_option linter.unusedVariables false
set_option linter.unusedSimpArgs false
namespace Go.Proofs.Ytidcofjadlfahaa
open Go.RowKit

theorem Own.farB {w : World} {B : Nat} {v : Value} {xs : List Int} (h : Own w B v xs) {p : Addr} (hp : v.ownBlock ≠ some p.block) (u : Value) : Own (w.setCell p u) B v xs := by
  rcases h.cases with ⟨rfl, rfl⟩ | ⟨g, c, rfl, _, _, k⟩
  · exact Own.nil _ _
  · exact (k.far (p := p) (fun e => hp (by simp [Value.ownBlock, e])) u).own
theorem bx_far {w : World} {b : Nat} {vs : Array Value} {t : TypeId} (h : BoxN w b vs t) {p : Addr} (hp : p.block ≠ b) (u : Value) : BoxN (w.setCell p u) b vs t := h.far hp u
theorem box_set {w : World} {b : Nat} {u v : Value} {t : TypeId} (h : BoxN w b #[u] t) : BoxN (w.setCell ⟨b, 0, none⟩ v) b #[v] t := by
  unfold BoxN at h ⊢
  exact one_setCell h
theorem RowAt.grown {w w' : World} {b o n : Nat} {xs : List Int} (h : RowAt w b o n xs) {row : Option Nat} (hg : w.grownBy w' row) (hn : row ≠ some b) : RowAt w' b o n xs :=
  ⟨h.len, Nat.lt_of_lt_of_le h.lt hg.size, fun i h0 h1 => by rw [World.cell?_of_block (w := w) (hg.block b h.lt (fun e => hn e.symm))]; exact h.get i h0 h1⟩
theorem grown_ne {w : World} {B g c n b : Nat} {v : Value} {xs : List Int} (hown : Own w B v xs) (hb : b < w.heap.size) (hne : v.ownBlock ≠ some b) (hat : v.ownBlock = some g ∨ g = w.heap.size) : (Value.slice (some ⟨g, 0, none⟩) n c).ownBlock ≠ some b := by
  simp [Value.ownBlock]
  rcases hat with h | h
  · rintro rfl; exact hne h
  · omega
theorem Own.ltB {w : World} {B : Nat} {v : Value} {xs : List Int} (h : Own w B v xs) : v.ownBlock ≠ some w.heap.size := by
  rcases h.cases with ⟨rfl, rfl⟩ | ⟨g, c, rfl, _, _, k⟩
  · simp [Value.ownBlock]
  · have := k.rng.2
    simp [Value.ownBlock]
    omega
/-- Whether the darts along a cut are told. -/
def cycB (T : List Int) (inb : List Bool) (m n : Nat) : Bool := wholeB T inb true m n && wholeB T inb false m n
def CycPost (T X : List Int) (inb : List Bool) (m n : Nat) (w : World) (e : Ending) (w' : World) : Prop :=
  ∃ v, e = .returned (.tuple #[v, .bool (cycB T inb m n)]) ∧ OwnK w' w.heap.size v (if cycB T inb m n = true then cycL (facesOf X) (outL T inb n) (outL T inb n).length else []) ∧ Below w.heap.size w w'
theorem cyc_some {m n : Nat} {T X C : List Int} (G : Good m n T X C) {inb : List Bool} (h : cycB T inb m n = true) : outL T inb n ≠ [] := by
  unfold cycB wholeB at h
  simp only [Bool.and_eq_true, decide_eq_true_eq] at h
  rcases firstV_rng inb true m with a | ⟨a1, a2, a3⟩
  · omega
  · rcases firstV_rng inb false m with b | ⟨b1, b2, b3⟩
    · omega
    · exact outL_ne G a1 a2 a3 b1 b2 b3
section
variable {m n bT oT bX oX bC oC kT kX kC : Nat} {T X C : List Int} {w : World} {bF oF kF : Nat} {inb : List Bool}
set_option maxHeartbeats 6400000 in
set_option maxRecDepth 100000 in
theorem cycle_any (G : Good m n T X C) (R : Rows3 w n bT oT bX oX bC oC T X C) (FI : BRowAt w bF oF m inb) :
    Calls Try.prog 38 #[(.agg #[.int .i64 m, .slice (some ⟨bT, oT, none⟩) n kT, .slice (some ⟨bX, oX, none⟩) n kX, .slice (some ⟨bC, oC, none⟩) n kC]), .slice (some ⟨bF, oF, none⟩) m kF] w (CycPost T X inb m n w) := by
  have CH := fun W (h : Below w.heap.size w W) => pcheck_any (kT := kT) (kX := kX) (kC := kC) G (R.keep h)
  have WH := fun W (h : Below w.heap.size w W) (sd : Bool) => whole_any (kT := kT) (kX := kX) (kC := kC) (kF := kF) G (R.keep h) (FI.keep h) sd
  have OU := fun W (h : Below w.heap.size w W) => out_any (kT := kT) (kX := kX) (kC := kC) (kF := kF) G (R.keep h) (FI.keep h)
  have FA := fun W (h : Below w.heap.size w W) => pfaces_any (kT := kT) (kX := kX) (kC := kC) G (R.keep h)
  have GG := Bx.mk G
  have n240 := G.n240
  have CB := Bx.mk (show cycB T inb m n = (wholeB T inb true m n && wholeB T inb false m n) from rfl)
  have NE := Bx.mk (fun h => cyc_some (inb := inb) G h)
  clear G R FI
  obtain ⟨x, hx⟩ : ∃ x, wholeB T inb true m n = x := ⟨_, rfl⟩
  obtain ⟨y, hy⟩ : ∃ y, wholeB T inb false m n = y := ⟨_, rfl⟩
  have W1 := fun W (h : Below w.heap.size w W) => WH W h true
  have W2 := fun W (h : Below w.heap.size w W) => WH W h false
  rw [hx] at W1 CB
  rw [hy] at W2 CB
  clear hx hy WH
  have hB := below_alloc (Below.refl w.heap.size w) (.cells #[.int .i64 m, .slice (some ⟨bT, oT, none⟩) n kT, .slice (some ⟨bX, oX, none⟩) n kX, .slice (some ⟨bC, oC, none⟩) n kC] 25)
  have hbox := box_new w #[.int .i64 m, .slice (some ⟨bT, oT, none⟩) n kT, .slice (some ⟨bX, oX, none⟩) n kX, .slice (some ⟨bC, oC, none⟩) n kC] 25
  go_enter Try.func38, Try.ntmps38
  go_upto_region 1 with fail
  generalize w.alloc _ = wa at hB hbox ⊢
  generalize w.heap.size = b at hbox ⊢
  have HK := Bx.mk (fun W (h : Below wa.heap.size wa W) => (⟨(hbox.keep h).cell 0, (hbox.keep h).cell 1, (hbox.keep h).cell 2, (hbox.keep h).cell 3⟩ : W.cell? ⟨b, 0, none⟩ = some (.int .i64 m) ∧ W.cell? ⟨b, 1, none⟩ = some (.slice (some ⟨bT, oT, none⟩) n kT) ∧ W.cell? ⟨b, 2, none⟩ = some (.slice (some ⟨bX, oX, none⟩) n kX) ∧ W.cell? ⟨b, 3, none⟩ = some (.slice (some ⟨bC, oC, none⟩) n kC)))
  have HBX := Bx.mk hbox
  have HBW := Bx.mk (fun W (h : Below wa.heap.size wa W) => below_below hB h)
  clear hbox
  obtain ⟨k0, k1, k2, k3⟩ := HK.out wa (Below.refl _ _)
  have S1 := CH _ hB
  go_wp2_with fail
  refine S1.mono ?_
  rintro e w2 ⟨rfl, B2⟩
  clear S1 CH k0 k1 k2 k3
  obtain ⟨k0, k1, k2, k3⟩ := HK.out _ B2
  have S1 := W1 _ (HBW.out _ B2)
  clear W1
  go_wp2_with fail
  refine S1.mono ?_
  rintro e w3 ⟨rfl, B3⟩
  have BW := below_below B2 B3
  clear S1 k0 k1 k2 k3 B2 B3
  cases x with
  | false =>
    have C2 := Bx.mk (show cycB T inb m n = false from by rw [CB.out]; rfl)
    have BF := Bx.mk (HBW.out _ BW)
    go_wp2
    all_goals go_ret2
    all_goals exact ⟨.slice none 0 0, by rw [C2.out]; rfl, by rw [C2.out]; exact .inl ⟨rfl, rfl⟩, BF.out⟩
  | true =>
    obtain ⟨k0, k1, k2, k3⟩ := HK.out _ BW
    have S1 := W2 _ (HBW.out _ BW)
    clear W2
    go_wp2_with fail
    refine S1.mono ?_
    rintro e w4 ⟨rfl, B4⟩
    have BW2 := below_below BW B4
    clear S1 k0 k1 k2 k3 BW B4
    cases y with
    | false =>
      have C2 := Bx.mk (show cycB T inb m n = false from by rw [CB.out]; rfl)
      have BF := Bx.mk (HBW.out _ BW2)
      go_wp2
      all_goals go_ret2
      all_goals exact ⟨.slice none 0 0, by rw [C2.out]; rfl, by rw [C2.out]; exact .inl ⟨rfl, rfl⟩, BF.out⟩
    | true =>
      have C2 := Bx.mk (show cycB T inb m n = true from by rw [CB.out]; rfl)
      have hne := NE.out C2.out
      have OM := Bx.mk (show ∀ d, d ∈ outL T inb n → 0 ≤ d ∧ d < n from fun d hd => ⟨(outL_mem.1 hd).1, (outL_mem.1 hd).2.1⟩)
      have ll := outL_len T inb n
      obtain ⟨L, hL⟩ : ∃ L, outL T inb n = L := ⟨_, rfl⟩
      rw [hL] at OU hne OM ll
      have LB := Bx.mk hL
      clear hL NE CB
      obtain ⟨k0, k1, k2, k3⟩ := HK.out _ BW2
      have S1 := OU _ (HBW.out _ BW2)
      go_wp2_with fail
      refine S1.mono ?_
      rintro e w5 ⟨v5, rfl, o5, B5⟩
      clear S1 OU k0 k1 k2 k3
      obtain ⟨l, hl⟩ : ∃ l, L.length = l := ⟨_, rfl⟩
      have HL := Bx.mk hl
      have HNE := Bx.mk hne
      have hl0 : 0 < l := by have := List.length_pos_iff.2 hne; omega
      obtain ⟨gL, c0, cL, rfl, oL⟩ : ∃ gL c0 cL, v5 = .slice (some ⟨gL, 0, none⟩) l cL ∧ OwnN w5 w4.heap.size gL c0 l L := by
        rcases o5 with ⟨_, h⟩ | ⟨gL, c0, cL, rfl, k⟩
        · exact absurd h hne
        · rw [hl] at k ⊢
          exact ⟨gL, c0, cL, rfl, k⟩
      have rL := oL.at'
      rw [hl] at ll
      have BW3 := below_below BW2 B5
      clear hl hne o5 oL B5 BW2
      obtain ⟨k0, k1, k2, k3⟩ := HK.out _ BW3
      have S1 := FA _ (HBW.out _ BW3)
      go_wp2_with fail
      refine S1.mono ?_
      rintro e w6 ⟨v6, rfl, oF, B6⟩
      clear S1 FA k0 k1 k2 k3
      have FL := Bx.mk (show (facesOf X).length = n from by
        have := (facesTo_rng X X.length).1
        rw [← GG.out.lX]; exact this)
      obtain ⟨F, hF⟩ : ∃ F, facesOf X = F := ⟨_, rfl⟩
      rw [hF] at oF FL
      have FB := Bx.mk hF
      clear hF
      obtain ⟨aF, cF, rfl, rF⟩ := oF.row
      obtain ⟨bG, oG, rfl, rG⟩ := rF.at' FL.out (by have := GG.out.n2; omega)
      rw [FL.out]
      have rL6 := rL.keep B6
      have BW4 := below_below BW3 B6
      clear rF oF rL BW3 B6
      have c0 : (w6.alloc (.cells #[.slice (some ⟨bG, oG, none⟩) n cF] 22)).cell? ⟨gL, 0, none⟩ = some (.int .i64 (rd L 0)) := (rL6.keep (below_alloc (Below.refl _ _) _)).get 0 (by omega) (by omega)
      have M0 := Bx.mk (itr_nextD_mem (F := F) HNE.out)
      obtain ⟨a, ha⟩ : ∃ a, rd L 0 = a := ⟨_, rfl⟩
      rw [ha] at c0
      have HA := Bx.mk ha
      clear ha
      have rL7 := rL6.keep (below_alloc (below_alloc (Below.refl w6.heap.size w6) (.cells #[.slice (some ⟨bG, oG, none⟩) n cF] 22)) (.cells #[.int .i64 a] 3))
      have rG7 := rG.keep (below_alloc (below_alloc (Below.refl w6.heap.size w6) (.cells #[.slice (some ⟨bG, oG, none⟩) n cF] 22)) (.cells #[.int .i64 a] 3))
      have BW5 := below_alloc (below_alloc BW4 (.cells #[.slice (some ⟨bG, oG, none⟩) n cF] 22)) (.cells #[.int .i64 a] 3)
      have b7 := (box_new w6 #[.slice (some ⟨bG, oG, none⟩) n cF] 22).keep (below_alloc (Below.refl _ _) (.cells #[.int .i64 a] 3))
      have b10 := box_new (w6.alloc (.cells #[.slice (some ⟨bG, oG, none⟩) n cF] 22)) #[.int .i64 a] 3
      have hs1 := BW4.size
      have n1 := rL6.lt
      have n2 := rG.lt
      rw [World.size_alloc] at b10
      go_wp2
      clear c0 rL6 rG BW4
      generalize (w6.alloc _).alloc _ = w7 at rL7 rG7 BW5 b7 b10 ⊢
      have hb7 : w6.heap.size < w6.heap.size + 1 := Nat.lt_succ_self _
      have h7 := Bx.mk (And.intro n1 (And.intro n2 hs1))
      obtain ⟨g7, hg7⟩ : ∃ g7, w6.heap.size = g7 := ⟨_, rfl⟩
      rw [hg7] at b7 b10 hb7 n1 n2 hs1 ⊢
      have hgw : wa.heap.size ≤ g7 + 1 := by omega
      clear h7 hg7
      have eg : ∀ args w, (callFunc 54 args).run Try.prog w = .ok (.enter 54 args) w := enters_of Try.func54 (by kernel_rfl) rfl
      have IX := Bx.mk (fun W (b10 : Nat) (z : Int) (hz : z ∈ L) (rL : RowAt W gL 0 l L) (rG : RowAt W bG oG n F) (h7 : BoxN W g7 #[.slice (some ⟨bG, oG, none⟩) n cF] 22) (h10 : BoxN W b10 #[.int .i64 z] 3) => indexf_any (K := 54) (L := L) (l := l) (cL := cL) (aL := some ⟨gL, 0, none⟩) (p7 := some ⟨g7, 0, none⟩) (w := W) (p10 := some ⟨b10, 0, none⟩) (p := fun d => rd F d == rd F (ot z)) rL.row HL.out (by omega) eg (fun W' hW' d hd => cyc1_any d ((h7.keep hW').cell 0) ((h10.keep hW').cell 0) (rG.keep hW') GG.out.ev n240 (OM.out z hz).1 (OM.out z hz).2 (OM.out d hd).1 (OM.out d hd).2))
      clear eg
      go_loopg [9, 10] (l + 1) (fun q y9 y10 wr => ∃ (k b10 : Nat) (v9 : Value) (z : Int), y9 = v9 ∧ y10 = .pointer (some ⟨b10, 0, none⟩) ∧ q = l + 1 - k ∧ k ≤ l ∧ Bx (z = itr (nextD F L) (rd L 0) k) ∧ Own wr (g7 + 1) v9 (cycL F L k) ∧ BoxN wr b10 #[.int .i64 z] 3 ∧ wa.heap.size ≤ b10 ∧ v9.ownBlock ≠ some b10 ∧ BoxN wr g7 #[.slice (some ⟨bG, oG, none⟩) n cF] 22 ∧ RowAt wr gL 0 l L ∧ RowAt wr bG oG n F ∧ g7 < b10 ∧ gL < b10 ∧ bG < b10 ∧ Below wa.heap.size wa wr)
      case atStart => exact ⟨0, g7 + 1, _, a, rfl, rfl, by omega, by omega, ⟨HA.out.symm⟩, Own.nil _ _, b10, by omega, by simp [Value.ownBlock], b7, rL7, rG7, by omega, by omega, by omega, BW5⟩
      case round =>
        clear b7 b10 rL7 rG7 BW5 hb7 hs1
        obtain ⟨k, b10, v9, z, rfl, rfl, hq, hk, ZK, oR, h10, hb10, hne, h7, rL, rG, g1, g2, g3, BW⟩ := hrel
        have lk := cycL_length F L k
        obtain ⟨a9, c9, hv9, _⟩ := oR.row
        rw [lk] at hv9
        subst hv9
        by_cases hkl : k < l
        · have hK : (k : Int) < l := by omega
          have zm : z ∈ L := by rw [ZK.out]; exact M0.out k
          have zr := OM.out z zm
          have cz : wr.cell? ⟨b10, 0, none⟩ = some (.int .i64 z) := h10.cell 0
          have oR8 := oR.keep (below_alloc (Below.refl wr.heap.size wr) (.cells #[.int .i64 z] 3))
          have BW8 := below_alloc BW (.cells #[.int .i64 z] 3)
          have n8 : RowOf (wr.alloc (.cells #[.int .i64 z] 3)) (some ⟨wr.heap.size, 0, none⟩) [z] := row_new wr [z]
          have hB8 : g7 + 1 ≤ (wr.alloc (.cells #[.int .i64 z] 3)).heap.size := by have := h7.lt; rw [World.size_alloc]; omega
          have h10k := h10.keep (below_alloc (Below.refl wr.heap.size wr) (.cells #[.int .i64 z] 3))
          have h7k := h7.keep (below_alloc (Below.refl wr.heap.size wr) (.cells #[.int .i64 z] 3))
          have rLk := rL.keep (below_alloc (Below.refl wr.heap.size wr) (.cells #[.int .i64 z] 3))
          have rGk := rG.keep (below_alloc (Below.refl wr.heap.size wr) (.cells #[.int .i64 z] 3))
          have NXT := Bx.mk (show nextD F L z = rd L (max 0 (idxTo (fun d => rd F d == rd F (ot z)) L l)) from by unfold nextD; rw [HL.out])
          have ZK2 := Bx.mk (show nextD F L z = itr (nextD F L) (rd L 0) (k + 1) from by rw [ZK.out]; rfl)
          have CN := Bx.mk (show cycL F L (k + 1) = cycL F L k ++ [z] from by rw [cycL_next, ZK.out])
          have LK := Bx.mk lk
          clear oR h10 h7 rL rG BW lk
          have hne8 := hne
          go_wp2_with (at_builtin; refine app_any rfl (.tmp 42) (.tmp 44) rfl (g7 + 1) _ (cycL F L k) [z] rfl oR8 (some ⟨wr.heap.size, 0, none⟩) 1 1 rfl rfl n8 (by omega) (by rw [LK.out]; omega) hB8 (k + 1) (by rw [LK.out]) ?_; intro g9 p9 w9 q9 gr9 at9; have B9 := below_app BW8 oR8 hgw gr9; have h109 := h10k.grown gr9 hne8; have h79 := h7k.grown gr9 (Own.block oR8 (by omega)); have rL9 := rLk.grown gr9 (Own.block oR8 (by omega)); have rG9 := rGk.grown gr9 (Own.block oR8 (by omega)); have ne9 := grown_ne (n := k + 1) (c := p9) oR8 h10k.lt hne8 at9; have Q9 := Bx.mk q9; clear q9 gr9 at9 oR8 n8 BW8 h10k h7k rLk rGk cz)
          refine (IX.out w9 b10 z zm rL9 rG9 h79 h109).mono ?_
          rintro e w10 ⟨rfl, B10⟩
          have h10b := h109.keep B10
          have h7b := h79.keep B10
          have rLb := rL9.keep B10
          have rGb := rG9.keep B10
          have oRb := Q9.out.own.keep B10
          have BW10 := below_below B9 B10
          clear h109 h79 rL9 rG9 Q9 B9 B10 IX
          have ir := idxTo_rng (fun d => rd F d == rd F (ot z)) L l
          obtain ⟨zi, hzi⟩ : ∃ zi, idxTo (fun d => rd F d == rd F (ot z)) L l = zi := ⟨_, rfl⟩
          rw [hzi] at ir NXT ⊢
          have zl : zi < l := by omega
          clear ir hzi
          have cc : w10.cell? ⟨b10, 0, none⟩ = some (.int .i64 z) := h10b.cell 0
          have cf := h10b.fz 0
          obtain ⟨z2, hz2⟩ : ∃ z2, nextD F L z = z2 := ⟨_, rfl⟩
          rw [hz2] at NXT ZK2
          have bx := box_set (v := .int .i64 z2) h10b
          have b7 := bx_far (p := ⟨b10, 0, none⟩) h7b (by show b10 ≠ g7; omega) (.int .i64 z2)
          have rLc := rLb.far (p := ⟨b10, 0, none⟩) (by show b10 ≠ gL; omega) (.int .i64 z2)
          have rGc := rGb.far (p := ⟨b10, 0, none⟩) (by show b10 ≠ bG; omega) (.int .i64 z2)
          have oRc := oRb.farB (p := ⟨b10, 0, none⟩) ne9 (.int .i64 z2)
          have BWc := below_set BW10 (p := ⟨b10, 0, none⟩) hb10 (.int .i64 z2)
          have cz2 : (w10.setCell ⟨b10, 0, none⟩ (.int .i64 z2)).cell? ⟨b10, 0, none⟩ = some (.int .i64 z2) := bx.cell 0
          have ltB := oRc.ltB
          have nb := box_new (w10.setCell ⟨b10, 0, none⟩ (.int .i64 z2)) #[.int .i64 z2] 3
          have kb := below_alloc (Below.refl (w10.setCell ⟨b10, 0, none⟩ (.int .i64 z2)).heap.size (w10.setCell ⟨b10, 0, none⟩ (.int .i64 z2))) (.cells #[.int .i64 z2] 3)
          have b7d := b7.keep kb
          have rLd := rLc.keep kb
          have rGd := rGc.keep kb
          have oRd := oRc.keep kb
          have BWd := below_alloc BWc (.cells #[.int .i64 z2] 3)
          have s10 := h10b.lt
          have hbw := BW10.size
          rw [size_set] at ltB nb
          clear kb b7 rLc rGc oRc BWc bx h10b h7b rGb oRb BW10 hz2
          by_cases hzp : zi > 0
          · have cL1 := rLb.get zi (by omega) zl
            rw [Nat.zero_add] at cL1
            have e2 : rd L zi = z2 := by have := NXT.out; rw [show max 0 zi = zi from by omega] at this; exact this.symm
            rw [e2] at cL1
            have hz0 : ¬ zi < 0 := by omega
            clear e2 rLb
            go_wp2
            go_roundg (l + 1 - (k + 1))
            case rel => exact ⟨k + 1, w10.heap.size, _, z2, rfl, rfl, rfl, by omega, ZK2, by rw [CN.out]; exact oRd, nb, by omega, ltB, b7d, rLd, rGd, by omega, by omega, by omega, BWd⟩
            case measure => omega
          · have cL1 := rLb.get 0 (by omega) (by omega)
            have e2 : rd L 0 = z2 := by have := NXT.out; rw [show max 0 zi = 0 from by omega] at this; exact this.symm
            rw [e2] at cL1
            have cL2 : w10.cell? ⟨gL, 0, none⟩ = some (.int .i64 z2) := cL1
            clear e2 rLb cL1
            go_wp2
            go_roundg (l + 1 - (k + 1))
            case rel => exact ⟨k + 1, w10.heap.size, _, z2, rfl, rfl, rfl, by omega, ZK2, by rw [CN.out]; exact oRd, nb, by omega, ltB, b7d, rLd, rGd, by omega, by omega, by omega, BWd⟩
            case measure => omega
        · have hK : ¬ (k : Int) < l := by omega
          obtain rfl : l = k := by omega
          have CP := clip_any oR (by rw [lk]; omega)
          have LK := Bx.mk lk
          clear lk
          have BF := Bx.mk (HBW.out _ BW)
          have hww : w.heap.size ≤ g7 + 1 := by have := hB.size; omega
          go_wp2_with fail
          refine CP.mono ?_
          rintro e w9 ⟨v', rfl, oK, rfl⟩
          have OK := Bx.mk (oK.low hww)
          go_wp2
          all_goals go_ret2
          all_goals exact ⟨v', by rw [C2.out]; rfl, by rw [C2.out, if_pos rfl, LB.out, FB.out, HL.out]; exact OK.out, BF.out⟩
end
end Go.Proofs.Ytidcofjadlfahaa
