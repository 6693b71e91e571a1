/- The search from a vertex: the document's and the program's are one. -/
import Derived.Test.YtjeddcijefnbfaaTp
import Derived.Test.YtjeddcijefnbfaaAp
import Derived.Test.YtjeddcijefnbfaaRep
set_option linter.unusedVariables false
set_option linter.unusedSimpArgs false
namespace Go.Proofs.Ytjeddcijefnbfaa
open Go.RowKit

/-- The search in memory. -/
structure SpM (w0 w : World) (b gu cu gf lo : Nat) (vs : Array Value) (N : Nat) (vq : Value) (s : SS) : Prop where
  ord : w0.heap.size ≤ b ∧ b < gu ∧ gu < gf ∧ gf < lo
  box : BoxN w b vs 25
  up : OwnN w (b + 1) gu cu N s.up
  fo : BOwnN w (b + 1) gf N N s.fo
  q : Own w lo vq s.q
  B : Below w0.heap.size w0 w
section
variable {w0 w w' : World} {b gu cu gf lo : Nat} {vs : Array Value} {N : Nat} {vq : Value} {s : SS}
theorem SpM.keep (h : SpM w0 w b gu cu gf lo vs N vq s) (hb : Below w.heap.size w w') : SpM w0 w' b gu cu gf lo vs N vq s :=
  ⟨h.ord, h.box.keep hb, h.up.keep hb, h.fo.keep hb, h.q.keep hb, below_below h.B hb⟩
theorem SpM.two (h : SpM w0 w b gu cu gf lo vs N vq s) (v x : Int) :
    SpM w0 ((w.setCell ⟨gf, v.toNat, none⟩ (.bool true)).setCell ⟨gu, v.toNat, none⟩ (.int .i64 x)) b gu cu gf lo vs N vq ⟨st s.up v x, sb s.fo v true, s.q, s.pp⟩ := by
  obtain ⟨o1, o2, o3, o4⟩ := h.ord
  have g1 := grown_set w ⟨gf, v.toNat, none⟩ (.bool true)
  have g2 := grown_set (w.setCell ⟨gf, v.toNat, none⟩ (.bool true)) ⟨gu, v.toNat, none⟩ (.int .i64 x)
  refine ⟨h.ord, (h.box.grown g1 (by simp; omega)).grown g2 (by simp; omega), ?_, ?_, ?_, ?_⟩
  · exact (h.up.far (p := ⟨gf, v.toNat, none⟩) (by show gf ≠ gu; omega) _).set v x
  · exact (h.fo.set v true).far (p := ⟨gu, v.toNat, none⟩) (by show gu ≠ gf; omega) _
  · have q1 := World.ownsRow.kept h.q g1 (.inr (Own.block h.q (by show gf < lo; omega)))
    exact World.ownsRow.kept q1 g2 (.inr (Own.block h.q (by show gu < lo; omega)))
  · exact below_grown (below_grown h.B g1 (fun k hk => by injection hk with hk; simp at hk; omega)) g2 (fun k hk => by injection hk with hk; simp at hk; omega)
theorem SpM.app (h : SpM w0 w b gu cu gf lo vs N vq s) {g cap n : Nat} {v i : Int} (hq : OwnN w' lo g cap n (s.q ++ [v])) (hg : w.grownBy w' vq.ownBlock) :
    SpM w0 w' b gu cu gf lo vs N (.slice (some ⟨g, 0, none⟩) n cap) ⟨s.up, s.fo, s.q ++ [v], s.pp ++ [i]⟩ := by
  obtain ⟨o1, o2, o3, o4⟩ := h.ord
  exact ⟨h.ord, h.box.grown hg (Own.block h.q (by omega)), h.up.grown hg (Own.block h.q (by omega)), h.fo.grown hg (Own.block h.q (by omega)), hq.own, below_app h.B h.q (by omega) hg⟩
end
theorem OwnN.low2 {w : World} {B B' g cap n : Nat} {xs : List Int} (h : OwnN w B g cap n xs) (hB : B' ≤ B) : OwnN w B' g cap n xs := by
  obtain ⟨rfl, h⟩ := h
  exact ⟨rfl, Own.low (xs := xs) h hB⟩
theorem sD_no {T : List Int} {a i d : Int} {s : SS} (h : ¬ (rd T d = a ∧ rb s.fo (rd T (ot d)) = false)) : sD T a i s d = s := by rw [sD, if_neg h]
theorem sD_yes {T : List Int} {a i d v : Int} {s : SS} (h : rd T d = a) (hv : rd T (ot d) = v) (hf : rb s.fo v = false) : sD T a i s d = ⟨st s.up v (ot d), sb s.fo v true, s.q ++ [v], s.pp ++ [i]⟩ := by rw [sD, hv, if_pos ⟨h, hf⟩]
theorem part_up (m : Nat) : part m m (-1) 0 = List.replicate m (-1) := by simp [part]

set_option maxHeartbeats 3200000 in
theorem rspan_full {aT aX aC : Option Addr} {cT cX cC : Nat} {T X C : List Int} {m : Nat} {r : Int} {w : World} (hT : RowOf w aT T) (he : (T.length : Int) % 2 = 0) (hl : T.length ≤ 240) (hm : m ≤ 60)
    (ht : ∀ d : Int, 0 ≤ d → d < T.length → 0 ≤ rd T d ∧ rd T d < m) (hr0 : 0 ≤ r) (hr1 : r < m) :
    Calls Try.prog 17 #[.agg #[.int .i64 m, .slice aT T.length cT, .slice aX X.length cX, .slice aC C.length cC], .int .i64 r] w fun e w' => ∃ g, e = .returned (.slice (some ⟨g, 0, none⟩) m m) ∧ OwnN w' w.heap.size g m m (spanL T m r) ∧ Below w.heap.size w w' := by
  obtain ⟨x, hx⟩ : ∃ x, T.length = x := ⟨_, rfl⟩
  have hmk : ∀ w : World, (Instr.makeSlice 22 (.int .i64 m) (.int .i64 m)).run Try.prog w = .ok (.slice (some ⟨w.heap.size, 0, none⟩) m m) (w.alloc (.cells (madeCells #[.int .i64 0] m) 3)) :=
    run_make_row' (P := Try.prog) 22 3 (.int .i64 0) 8 Try.underlying22 info3 rfl .i64 .i64 m (by omega) (by omega)
  have hmk2 : ∀ w : World, (Instr.makeSlice 43 (.int .i64 m) (.int .i64 m)).run Try.prog w = .ok (.slice (some ⟨w.heap.size, 0, none⟩) m m) (w.alloc (.cells (madeCells #[.bool false] m) 4)) :=
    run_make_row' (P := Try.prog) 43 4 (.bool false) 1 Try.underlying43 info4 rfl .i64 .i64 m (by omega) (by omega)
  have z1 : (w.alloc (.cells #[.int .i64 m, .slice aT x cT, .slice aX X.length cX, .slice aC C.length cC] 25)).heap.size = w.heap.size + 1 := by simp
  have z2 : ((w.alloc (.cells #[.int .i64 m, .slice aT x cT, .slice aX X.length cX, .slice aC C.length cC] 25)).alloc (.cells (madeCells #[.int .i64 0] m) 3)).heap.size = w.heap.size + 1 + 1 := by simp
  have hB : Below w.heap.size w (((w.alloc (.cells #[.int .i64 m, .slice aT x cT, .slice aX X.length cX, .slice aC C.length cC] 25)).alloc (.cells (madeCells #[.int .i64 0] m) 3)).alloc (.cells (madeCells #[.bool false] m) 4)) := below_alloc (below_alloc (below_alloc (Below.refl _ _) _) _) _
  have hbox := ((box_new w #[.int .i64 m, .slice aT x cT, .slice aX X.length cX, .slice aC C.length cC] 25).keep (below_alloc (Below.refl _ _) (.cells (madeCells #[.int .i64 0] m) 3))).keep (below_alloc (Below.refl _ _) (.cells (madeCells #[.bool false] m) 4))
  have hup := (own_made (w.alloc (.cells #[.int .i64 m, .slice aT x cT, .slice aX X.length cX, .slice aC C.length cC] 25)) (w.heap.size + 1) m (by omega) (by omega)).keep (below_alloc (Below.refl _ _) (.cells (madeCells #[.bool false] m) 4))
  have hfo := bown_made ((w.alloc (.cells #[.int .i64 m, .slice aT x cT, .slice aX X.length cX, .slice aC C.length cC] 25)).alloc (.cells (madeCells #[.int .i64 0] m) 3)) (w.heap.size + 1) m (by omega) (by omega)
  rw [z1] at hup
  rw [z2] at hfo
  have HX := Bx.mk hx
  have hm0 : 0 < m := by omega
  rw [hx] at he hl ht ⊢
  clear z1 z2
  go_enter Try.func17, Try.ntmps17
  go_wp2
  generalize hwa : ((w.alloc _).alloc _).alloc _ = wa at hB hbox hup hfo ⊢
  clear hwa
  go_loopg [7] (m + 1) (fun q y wr => ∃ v : Nat, y = .int .i64 v ∧ q = m + 1 - v ∧ v ≤ m ∧ OwnN wr (w.heap.size + 1) (w.heap.size + 1) m m (part m v (-1) 0) ∧ BOwnN wr (w.heap.size + 1) (w.heap.size + 1 + 1) m m (List.replicate m false) ∧ BoxN wr w.heap.size #[.int .i64 m, .slice aT x cT, .slice aX X.length cX, .slice aC C.length cC] 25 ∧ Below w.heap.size w wr)
  case atStart => exact ⟨0, rfl, by omega, by omega, hup, hfo, hbox, hB⟩
  case round =>
    clear hup hfo hbox hB
    obtain ⟨v, rfl, hq, hv, hup, hfo, hbox, hB⟩ := hrel
    by_cases hvm : v < m
    · have hvI : (v : Int) < m := by omega
      have c1 := hup.cell v (by omega) hvI
      have f1 := hup.fz v
      rw [Int.toNat_natCast] at c1 f1
      have h2 := hup.set v (-1)
      rw [st_part m v (-1) 0 hvm, Int.toNat_natCast] at h2
      have hfo2 := hfo.far (p := ⟨w.heap.size + 1, v, none⟩) (by simp) (.int .i64 (-1))
      have hbox2 := hbox.far (p := ⟨w.heap.size + 1, v, none⟩) (by simp) (.int .i64 (-1))
      have hB2 := below_set hB (p := ⟨w.heap.size + 1, v, none⟩) (by simp) (.int .i64 (-1))
      have hbc := hbox.cell 0
      go_wp2
      go_roundg (m + 1 - (v + 1))
      case rel => exact ⟨v + 1, rfl, rfl, by omega, h2, hfo2, hbox2, hB2⟩
      case measure => omega
    · have hvI : ¬ (v : Int) < m := by omega
      obtain rfl : m = v := by omega
      have hbc := hbox.cell 0
      have hw1 := hbox.lt
      have hw2 := hfo.rng.2
      have hrf := hfo.fz r
      have hrc := hfo.cell r hr0 hr1
      have hrf' := (hfo.keep (below_alloc (Below.refl _ _) (.cells #[.int .i64 r] 3))).fz r
      have hrc' := (hfo.keep (below_alloc (Below.refl _ _) (.cells #[.int .i64 r] 3))).cell r hr0 hr1
      have hs0 : SpM w ((wr.setCell ⟨w.heap.size + 1 + 1, r.toNat, none⟩ (.bool true)).alloc (.cells #[.int .i64 r] 3)) w.heap.size (w.heap.size + 1) m (w.heap.size + 1 + 1) (w.heap.size + 1 + 1 + 1) #[.int .i64 m, .slice aT x cT, .slice aX X.length cX, .slice aC C.length cC] m (.slice (some ⟨wr.heap.size, 0, none⟩) 1 1) (sTo T m r 0) := by
        have hal := below_alloc (Below.refl (wr.setCell ⟨w.heap.size + 1 + 1, r.toNat, none⟩ (.bool true)).heap.size (wr.setCell ⟨w.heap.size + 1 + 1, r.toNat, none⟩ (.bool true))) (.cells #[.int .i64 r] 3)
        have q0 := (own_lit (wr.setCell ⟨w.heap.size + 1 + 1, r.toNat, none⟩ (.bool true)) (w.heap.size + 1 + 1 + 1) [r] (by rw [size_set]; omega) (by simp)).own
        rw [size_set] at q0
        refine ⟨by omega, (hbox.far (by show w.heap.size + 1 + 1 ≠ w.heap.size; omega) _).keep hal, ?_, (hfo.set r true).keep hal, q0, below_below (below_set hB (by show w.heap.size ≤ w.heap.size + 1 + 1; omega) _) hal⟩
        have := (hup.far (p := ⟨w.heap.size + 1 + 1, r.toNat, none⟩) (by simp) (.bool true)).keep hal
        rw [part_up] at this
        exact this
      clear hup hbox hB hq hv hvm hfo
      go_wp2
      clear hbc hrf hrc hrf' hrc' hw1 hw2 hvI hmk hmk2
      go_loopg [8, 9] (m + 2) (fun q vq y9 wr => ∃ i : Nat, y9 = .int .i64 i ∧ q = m + 2 - i ∧ i ≤ (sTo T m r i).q.length ∧ SpM w wr w.heap.size (w.heap.size + 1) m (w.heap.size + 1 + 1) (w.heap.size + 1 + 1 + 1) #[.int .i64 m, .slice aT x cT, .slice aX X.length cX, .slice aC C.length cC] m vq (sTo T m r i))
      case atStart => exact ⟨0, rfl, by omega, by omega, hs0⟩
      case round =>
        clear hs0
        obtain ⟨i, rfl, hq, hi, hS⟩ := hrel
        have I := sTo_at (by rw [HX.out]; exact he) (by rw [HX.out]; exact ht) hr0 hr1 hi
        have hlen := I.len
        have IB := Bx.mk I
        clear I
        obtain ⟨S, hSS⟩ : ∃ S, sTo T m r i = S := ⟨_, rfl⟩
        rw [hSS] at hi hS hlen IB
        have SB := Bx.mk hSS
        clear hSS
        obtain ⟨aq, cq, rfl, hqr⟩ := hS.q.row
        by_cases hlt : i < S.q.length
        · have hltI : (i : Int) < S.q.length := by omega
          go_wp2
          go_loopg [8, 10] (x + 1) (fun q vq y10 wr => ∃ j : Nat, y10 = .int .i64 j ∧ q = x + 1 - j ∧ j ≤ x ∧ SpM w wr w.heap.size (w.heap.size + 1) m (w.heap.size + 1 + 1) (w.heap.size + 1 + 1 + 1) #[.int .i64 m, .slice aT x cT, .slice aX X.length cX, .slice aC C.length cC] m vq (sRow T (rd S.q i) i S j))
          case atStart => exact ⟨0, rfl, by omega, by omega, hS⟩
          case round =>
            clear hS hqr
            obtain ⟨j, rfl, hq2, hj, hS⟩ := hrel
            have R := IB.out.row (by omega) (by rw [HX.out]; exact he) (by rw [HX.out]; exact ht) j (by rw [HX.out]; exact hj)
            obtain ⟨S1, hS1⟩ : ∃ S1, sRow T (rd S.q i) i S j = S1 := ⟨_, rfl⟩
            rw [hS1] at hS R
            obtain ⟨R1, R2, R3⟩ := R
            have R3' := R3 i (by omega) (by omega)
            have hlen1 := R1.len
            have nextB := Bx.mk (show sRow T (rd S.q i) i S (j + 1) = sD T (rd S.q i) i S1 j by rw [sRow, hS1])
            have HS1 := Bx.mk hS1
            clear hS1 R3
            obtain ⟨aq1, cq1, rfl, hqr1⟩ := hS.q.row
            obtain ⟨bq, oq, rfl, _, cq0⟩ := hqr1 i (by omega) (by omega)
            rw [R3', Int.toNat_natCast] at cq0
            have R3'' := R3'
            obtain ⟨a, ha⟩ : ∃ a, rd S.q i = a := ⟨_, rfl⟩
            rw [ha] at cq0 nextB
            have HA := Bx.mk ha
            clear ha R3'
            have RB := Bx.mk R3''
            clear R3''
            have hbc0 := hS.box.cell 0
            have hbc1 := hS.box.cell 1
            have hbc2 := hS.box.cell 2
            have hbc3 := hS.box.cell 3
            by_cases hjx : j < x
            · have hjI : (j : Int) < x := by omega
              have hTr := hT.keep hS.B
              have RH := rhead_any (w := wr) (N := m) (aT := aT) (aX := aX) (aC := aC) (cT := cT) (cX := cX) (cC := cC) (T := T) (X := X) (C := C) j hTr (by omega) (by rw [HX.out]; exact hjI) (by rw [HX.out]; exact he) (by rw [HX.out]; exact hl)
              rw [HX.out] at RH
              have ho := ot_rng j x (by omega) hjI he
              have hh := ht (ot j) ho.1 ho.2
              obtain ⟨v, hv⟩ : ∃ v, rd T (ot j) = v := ⟨_, rfl⟩
              rw [hv] at RH hh
              obtain ⟨t, htj⟩ : ∃ t, rd T j = t := ⟨_, rfl⟩
              have HV := Bx.mk (And.intro hv htj)
              clear hv hTr
              go_wp2_with fail
              refine RH.mono ?_
              rintro e w1 ⟨rfl, hB1⟩
              have hS1 := hS.keep hB1
              have hqr2 := hqr1.keep hB1
              clear RH hbc0 hbc1 hbc2 hbc3 hS hqr1 cq0
              obtain ⟨bT, oT, rfl, hbT, ct⟩ := (hT.keep hS1.B) j (by omega) (by rw [HX.out]; exact hjI)
              obtain ⟨bq', oq', eq', hbq, cq2⟩ := hqr2 i (by omega) (by omega)
              obtain ⟨rfl, rfl⟩ : bq = bq' ∧ oq = oq' := by simpa using eq'
              rw [HV.out.2, Int.toNat_natCast] at ct
              rw [RB.out, HA.out, Int.toNat_natCast] at cq2
              clear eq' hqr2
              have hbc0 := hS1.box.cell 0
              have hbc1 := hS1.box.cell 1
              have cf := hS1.fo.cell v hh.1 hh.2
              have hx1 := xor_one j (by omega) (by omega)
              have K1 := Bx.mk (fun n => hS1.keep (below_drewN (Below.refl _ _) n))
              by_cases c1 : t = a
              · have c1b : (t == a) = true := by simpa using c1
                cases c2 : rb S1.fo v with
                | true =>
                  have nx := Bx.mk (nextB.out.trans (sD_no (fun h => by rw [HV.out.1, c2] at h; exact absurd h.2 (by simp))))
                  rw [c2] at cf
                  clear c2 c1 hS1
                  go_wp2_with fail
                  go_quiet (fail)
                  go_wp2_with fail
                  go_roundg (x + 1 - (j + 1))
                  case rel => exact ⟨j + 1, rfl, rfl, by omega, by rw [HA.out, nx.out]; exact K1.out _⟩
                  case measure => omega
                | false =>
                  have nx := Bx.mk (nextB.out.trans (sD_yes (by rw [HV.out.2, c1]) HV.out.1 c2))
                  rw [c2] at cf
                  clear c2 c1 hS1
                  go_wp2_with fail
                  go_quiet (fail)
                  generalize hw2 : w1.drewN _ = w2
                  obtain ⟨n2, hn2⟩ : ∃ n, w1.drewN n = w2 := ⟨_, hw2⟩
                  have hS2 := K1.out n2
                  rw [hn2] at hS2
                  clear hw2 hn2 cf ct cq2 hbc0 hbc1
                  have cf := hS2.fo.cell v hh.1 hh.2
                  have ff := hS2.fo.fz v
                  have cu := hS2.up.cell v hh.1 hh.2
                  have fu := hS2.up.fz v
                  have hS3 := hS2.two v (ot j)
                  have hz := hS3.ord.2.2.2
                  clear hS2
                  go_upto_region 19 with fail
                  generalize (w2.setCell ⟨w.heap.size + 1 + 1, v.toNat, none⟩ (.bool true)).setCell ⟨w.heap.size + 1, v.toNat, none⟩ (.int .i64 (ot j)) = w3 at hS3 ⊢
                  clear cf ff cu fu
                  have hS4 := hS3.keep (below_alloc (Below.refl _ _) (.cells #[.int .i64 v] 3))
                  have hbl := hS4.B.size
                  go_wp2_with (at_builtin; refine app_any rfl (.tmp 73) (.tmp 75) rfl (w.heap.size + 1 + 1 + 1) _ S1.q [v] rfl hS4.q (some ⟨w3.heap.size, 0, none⟩) 1 1 rfl rfl (row_new w3 [v]) (by omega) (by omega) (by have := hS3.box.lt; have := hS3.fo.rng.2; simp; omega) (S1.q.length + 1) rfl ?_; intro g cap w5 q5 gr5 _; have S5 := hS4.app (i := i) q5 gr5; clear hS4 hS3 q5 gr5)
                  go_roundg (x + 1 - (j + 1))
                  case rel => exact ⟨j + 1, rfl, rfl, by omega, by rw [HA.out, nx.out]; exact S5⟩
                  case measure => omega
              · have c1b : (t == a) = false := by simpa using c1
                have nx := Bx.mk (nextB.out.trans (sD_no (fun h => c1 (by rw [← HV.out.2]; exact h.1))))
                clear c1 hS1
                go_wp2_with fail
                go_quiet (fail)
                go_wp2_with fail
                go_roundg (x + 1 - (j + 1))
                case rel => exact ⟨j + 1, rfl, rfl, by omega, by rw [HA.out, nx.out]; exact K1.out _⟩
                case measure => omega
            · have hjI : ¬ (j : Int) < x := by omega
              obtain rfl : j = x := by omega
              go_wp2
              go_roundg (m + 2 - (i + 1))
              case rel =>
                have e : sTo T m r (i + 1) = S1 := by rw [sTo, SB.out, if_pos hlt, HX.out, HS1.out]
                exact ⟨i + 1, rfl, rfl, by rw [e]; omega, by rw [e]; exact hS⟩
              case measure => omega
        · have hltI : ¬ (i : Int) < S.q.length := by omega
          go_wp2
          go_ret
          have e : spanL T m r = S.up := by
            have h := sTo_stop (T := T) (N := m) (r := r) (i := i) (by rw [SB.out]; exact hlt) (m - i)
            rw [show i + (m - i) = m from by omega, SB.out] at h
            rw [spanL, spanS, h]
          exact ⟨_, rfl, by rw [e]; exact hS.up.low2 (by omega), hS.B⟩

theorem rspan_any {aT aX aC : Option Addr} {cT cX cC : Nat} {T X C : List Int} {m : Nat} {r : Int} {w : World} (hT : RowOf w aT T) (he : (T.length : Int) % 2 = 0) (hl : T.length ≤ 240) (hm : m ≤ 60)
    (ht : ∀ d : Int, 0 ≤ d → d < T.length → 0 ≤ rd T d ∧ rd T d < m) (hr0 : 0 ≤ r) (hr1 : r < m) :
    Calls Try.prog 17 #[.agg #[.int .i64 m, .slice aT T.length cT, .slice aX X.length cX, .slice aC C.length cC], .int .i64 r] w fun e w' => ∃ v, e = .returned v ∧ Own w' w.heap.size v (spanL T m r) ∧ Below w.heap.size w w' := by
  refine (rspan_full hT he hl hm ht hr0 hr1).mono ?_
  rintro e w' ⟨g, rfl, h, hB⟩
  exact ⟨_, rfl, h.own, hB⟩

set_option maxHeartbeats 3200000 in
theorem span_any {aT aX aC : Option Addr} {cT cX cC : Nat} {T X C : List Int} {m : Nat} {r : Int} {w : World} (hT : RowOf w aT T) (he : (T.length : Int) % 2 = 0) (hl : T.length ≤ 240) (hm : m ≤ 60)
    (ht : ∀ d : Int, 0 ≤ d → d < T.length → 0 ≤ rd T d ∧ rd T d < m) (hr0 : 0 ≤ r) (hr1 : r < m) :
    Calls Try.prog 15 #[.agg #[.int .i64 m, .slice aT T.length cT, .slice aX X.length cX, .slice aC C.length cC], .int .i64 r] w fun e w' => ∃ v, e = .returned v ∧ Own w' w.heap.size v (spanL T m r) ∧ Below w.heap.size w w' := by
  obtain ⟨x, hx⟩ : ∃ x, T.length = x := ⟨_, rfl⟩
  have hmk2 : ∀ w : World, (Instr.makeSlice 43 (.int .i64 m) (.int .i64 m)).run Try.prog w = .ok (.slice (some ⟨w.heap.size, 0, none⟩) m m) (w.alloc (.cells (madeCells #[.bool false] m) 4)) :=
    run_make_row' (P := Try.prog) 43 4 (.bool false) 1 Try.underlying43 info4 rfl .i64 .i64 m (by omega) (by omega)
  have hbox := (box_new w #[.int .i64 m, .slice aT x cT, .slice aX X.length cX, .slice aC C.length cC] 25).keep (below_alloc (Below.refl _ _) (.cells #[.int .i64 (-1)] 3))
  have hB := below_alloc (below_alloc (Below.refl w.heap.size w) (.cells #[.int .i64 m, .slice aT x cT, .slice aX X.length cX, .slice aC C.length cC] 25)) (.cells #[.int .i64 (-1)] 3)
  have z1 : ((w.alloc (.cells #[.int .i64 m, .slice aT x cT, .slice aX X.length cX, .slice aC C.length cC] 25)).alloc (.cells #[.int .i64 (-1)] 3)).heap.size = w.heap.size + 1 + 1 := by simp
  have hc1 : ((w.alloc (.cells #[.int .i64 m, .slice aT x cT, .slice aX X.length cX, .slice aC C.length cC] 25)).alloc (.cells #[.int .i64 (-1)] 3)).cell? ⟨w.heap.size + 1, 0, none⟩ = some (.int .i64 (-1)) := by
    have h := (box_new (w.alloc (.cells #[.int .i64 m, .slice aT x cT, .slice aX X.length cX, .slice aC C.length cC] 25)) #[.int .i64 (-1)] 3).cell 0
    rw [show (w.alloc (.cells #[.int .i64 m, .slice aT x cT, .slice aX X.length cX, .slice aC C.length cC] 25)).heap.size = w.heap.size + 1 from by simp] at h
    exact h
  have RP := repeat_own (w.heap.size + 1) m (-1) (by omega) _ (by rw [z1]; omega) hc1 (w.heap.size + 1) (by rw [z1]; omega)
  rw [z1] at RP
  have HX := Bx.mk hx
  have hm0 : 0 < m := by omega
  have HBX := Bx.mk (And.intro hbox hB)
  rw [hx] at he hl ht ⊢
  have Z1 := Bx.mk z1
  have d1 : decide ((m : Int) < 1) = false := decide_eq_false (by omega)
  have d2 : decide ((60 : Int) < m) = false := decide_eq_false (by omega)
  have d3 : decide (r < 0) = false := decide_eq_false (by omega)
  have d4 : decide ((m : Int) ≤ r) = false := decide_eq_false (by omega)
  clear z1 hc1 hbox hB
  go_enter Try.func15, Try.ntmps15
  go_wp2_with fail
  refine RP.mono ?_
  rintro e wa ⟨rfl, hup, hBa'⟩
  have hBa := Z1.out ▸ hBa'
  rw [← Z1.out] at hBa'
  have hbox := HBX.out.1.keep hBa'
  have hB := below_below HBX.out.2 hBa'
  clear RP HBX hBa hBa'
  have hfo := bown_made wa (w.heap.size + 1) m (by have := hB.size; have := hup.rng; omega) (by omega)
  have hk := below_alloc (Below.refl wa.heap.size wa) (.cells (madeCells #[.bool false] m) 4)
  obtain ⟨gf, hgf⟩ : ∃ gf, wa.heap.size = gf := ⟨_, rfl⟩
  have hgl : w.heap.size + 1 + 1 < gf := by have := hup.rng; omega
  have hup2 := hup.keep hk
  have hbox2 := hbox.keep hk
  have hB2 := below_below hB hk
  have hbc := hbox.cell 0
  clear hup hbox hB hk
  rw [hgf] at hfo
  go_upto_region 5 with fail
  generalize wa.alloc (.cells (madeCells #[.bool false] m) 4) = wb at hup2 hbox2 hB2 hfo ⊢
  clear hgf hbc
  have hrf := hfo.fz r
  have hrc := hfo.cell r hr0 hr1
  have hw2 := hfo.rng.2
  have hs0 : SpM w ((wb.setCell ⟨gf, r.toNat, none⟩ (.bool true)).alloc (.cells #[.int .i64 r] 3)) w.heap.size (w.heap.size + 1 + 1) m gf (gf + 1) #[.int .i64 m, .slice aT x cT, .slice aX X.length cX, .slice aC C.length cC] m (.slice (some ⟨wb.heap.size, 0, none⟩) 1 1) (sTo T m r 0) := by
    have hal := below_alloc (Below.refl (wb.setCell ⟨gf, r.toNat, none⟩ (.bool true)).heap.size (wb.setCell ⟨gf, r.toNat, none⟩ (.bool true))) (.cells #[.int .i64 r] 3)
    have q0 := (own_lit (wb.setCell ⟨gf, r.toNat, none⟩ (.bool true)) (gf + 1) [r] (by rw [size_set]; omega) (by simp)).own
    rw [size_set] at q0
    exact ⟨by omega, (hbox2.far (by show gf ≠ w.heap.size; omega) _).keep hal, (hup2.far (p := ⟨gf, r.toNat, none⟩) (by show gf ≠ w.heap.size + 1 + 1; omega) _).keep hal, (hfo.set r true).keep hal, q0, below_below (below_set hB2 (by show w.heap.size ≤ gf; omega) _) hal⟩
  clear hup2 hbox2 hB2 hfo
  go_wp2
  clear hrf hrc hw2 hmk2
  go_loopg [7, 8] (m + 2) (fun q vq y9 wr => ∃ i : Nat, y9 = .int .i64 i ∧ q = m + 2 - i ∧ i ≤ (sTo T m r i).q.length ∧ SpM w wr w.heap.size (w.heap.size + 1 + 1) m gf (gf + 1) #[.int .i64 m, .slice aT x cT, .slice aX X.length cX, .slice aC C.length cC] m vq (sTo T m r i))
  case atStart => exact ⟨0, rfl, by omega, by omega, hs0⟩
  case round =>
    clear hs0
    obtain ⟨i, rfl, hq, hi, hS⟩ := hrel
    have I := sTo_at (by rw [HX.out]; exact he) (by rw [HX.out]; exact ht) hr0 hr1 hi
    have hlen := I.len
    have IB := Bx.mk I
    clear I
    obtain ⟨S, hSS⟩ : ∃ S, sTo T m r i = S := ⟨_, rfl⟩
    rw [hSS] at hi hS hlen IB
    have SB := Bx.mk hSS
    clear hSS
    obtain ⟨aq, cq, rfl, hqr⟩ := hS.q.row
    by_cases hlt : i < S.q.length
    · have hltI : (i : Int) < S.q.length := by omega
      have hbx1 := hS.box.cell 1
      go_wp2
      go_step3
      go_wp2
      go_step3
      go_wp2
      clear hbx1
      go_loopg [7, 51] (x + 1) (fun q vq y10 wr => ∃ j : Nat, y10 = .int .i64 j ∧ q = x + 1 - j ∧ j ≤ x ∧ SpM w wr w.heap.size (w.heap.size + 1 + 1) m gf (gf + 1) #[.int .i64 m, .slice aT x cT, .slice aX X.length cX, .slice aC C.length cC] m vq (sRow T (rd S.q i) i S j))
      case atStart => exact ⟨0, rfl, by omega, by omega, hS⟩
      case round =>
        clear hS hqr
        obtain ⟨j, rfl, hq2, hj, hS⟩ := hrel
        have R := IB.out.row (by omega) (by rw [HX.out]; exact he) (by rw [HX.out]; exact ht) j (by rw [HX.out]; exact hj)
        obtain ⟨S1, hS1⟩ : ∃ S1, sRow T (rd S.q i) i S j = S1 := ⟨_, rfl⟩
        rw [hS1] at hS R
        obtain ⟨R1, R2, R3⟩ := R
        have R3' := R3 i (by omega) (by omega)
        have hlen1 := R1.len
        have nextB := Bx.mk (show sRow T (rd S.q i) i S (j + 1) = sD T (rd S.q i) i S1 j by rw [sRow, hS1])
        have HS1 := Bx.mk hS1
        clear hS1 R3
        obtain ⟨aq1, cq1, rfl, hqr1⟩ := hS.q.row
        obtain ⟨bq, oq, rfl, _, cq0⟩ := hqr1 i (by omega) (by omega)
        rw [R3', Int.toNat_natCast] at cq0
        have R3'' := R3'
        obtain ⟨a, ha⟩ : ∃ a, rd S.q i = a := ⟨_, rfl⟩
        rw [ha] at cq0 nextB
        have HA := Bx.mk ha
        clear ha R3'
        have RB := Bx.mk R3''
        clear R3''
        have hbc0 := hS.box.cell 0
        have hbc1 := hS.box.cell 1
        have hbc2 := hS.box.cell 2
        have hbc3 := hS.box.cell 3
        by_cases hjx : j < x
        · have hjI : (j : Int) < x := by omega
          have hTr := hT.keep hS.B
          have RH := head_any (w := wr) (N := m) (aT := aT) (aX := aX) (aC := aC) (cT := cT) (cX := cX) (cC := cC) (T := T) (X := X) (C := C) j hTr (by omega) (by rw [HX.out]; exact hjI) (by rw [HX.out]; exact he) (by rw [HX.out]; exact hl)
          rw [HX.out] at RH
          have ho := ot_rng j x (by omega) hjI he
          have hh := ht (ot j) ho.1 ho.2
          obtain ⟨v, hv⟩ : ∃ v, rd T (ot j) = v := ⟨_, rfl⟩
          rw [hv] at RH hh
          obtain ⟨t, htj⟩ : ∃ t, rd T j = t := ⟨_, rfl⟩
          have HV := Bx.mk (And.intro hv htj)
          clear hv
          obtain ⟨bT, oT, rfl, hbT, ct⟩ := hTr j (by omega) (by rw [HX.out]; exact hjI)
          rw [HV.out.2, Int.toNat_natCast] at ct
          clear hTr
          go_wp2_with fail
          refine RH.mono ?_
          rintro e w1 ⟨rfl, hB1⟩
          have hS1 := hS.keep hB1
          have hqr2 := hqr1.keep hB1
          clear RH hbc0 hbc1 hbc2 hbc3 hS hqr1 cq0 ct
          obtain ⟨bq', oq', eq', hbq, cq2⟩ := hqr2 i (by omega) (by omega)
          obtain ⟨rfl, rfl⟩ : bq = bq' ∧ oq = oq' := by simpa using eq'
          rw [RB.out, HA.out, Int.toNat_natCast] at cq2
          clear eq' hqr2
          have hbc0 := hS1.box.cell 0
          have hbc1 := hS1.box.cell 1
          have cf := hS1.fo.cell v hh.1 hh.2
          have hx1 := xor_one j (by omega) (by omega)
          have v0 : decide (v < 0) = false := decide_eq_false (by omega)
          have v1 : decide ((m : Int) ≤ v) = false := decide_eq_false (by omega)
          have K1 := Bx.mk hS1
          by_cases c1 : t = a
          · have c1b : (t != a) = false := by simpa using c1
            cases c2 : rb S1.fo v with
            | true =>
              have nx := Bx.mk (nextB.out.trans (sD_no (fun h => by rw [HV.out.1, c2] at h; exact absurd h.2 (by simp))))
              rw [c2] at cf
              clear c2 c1 hS1
              go_wp2_with fail
              go_roundg (x + 1 - (j + 1))
              case rel => exact ⟨j + 1, rfl, rfl, by omega, by rw [HA.out, nx.out]; exact K1.out⟩
              case measure => omega
            | false =>
              have nx := Bx.mk (nextB.out.trans (sD_yes (by rw [HV.out.2, c1]) HV.out.1 c2))
              rw [c2] at cf
              clear c2 c1 hS1
              go_upto_region 15 with fail
              have hS2 := K1.out
              clear cf cq2 hbc0 hbc1
              have cf := hS2.fo.cell v hh.1 hh.2
              have ff := hS2.fo.fz v
              have cu := hS2.up.cell v hh.1 hh.2
              have fu := hS2.up.fz v
              have hS3 := hS2.two v (ot j)
              have hz := hS3.ord.2.2.2
              clear hS2
              go_upto_region 16 with fail
              generalize (w1.setCell ⟨gf, v.toNat, none⟩ (.bool true)).setCell ⟨w.heap.size + 1 + 1, v.toNat, none⟩ (.int .i64 (ot j)) = w3 at hS3 ⊢
              clear cf ff cu fu
              have hS4 := hS3.keep (below_alloc (Below.refl _ _) (.cells #[.int .i64 v] 3))
              have hbl := hS4.B.size
              go_wp2_with (at_builtin; refine app_any rfl (.tmp 89) (.tmp 91) rfl (gf + 1) _ S1.q [v] rfl hS4.q (some ⟨w3.heap.size, 0, none⟩) 1 1 rfl rfl (row_new w3 [v]) (by omega) (by omega) (by have := hS3.box.lt; have := hS3.fo.rng.2; simp; omega) (S1.q.length + 1) rfl ?_; intro g cap w5 q5 gr5 _; have S5 := hS4.app (i := i) q5 gr5; clear hS4 hS3 q5 gr5)
              go_roundg (x + 1 - (j + 1))
              case rel => exact ⟨j + 1, rfl, rfl, by omega, by rw [HA.out, nx.out]; exact S5⟩
              case measure => omega
          · have c1b : (t != a) = true := by simpa using c1
            have nx := Bx.mk (nextB.out.trans (sD_no (fun h => c1 (by rw [← HV.out.2]; exact h.1))))
            clear c1 hS1
            go_wp2_with fail
            go_roundg (x + 1 - (j + 1))
            case rel => exact ⟨j + 1, rfl, rfl, by omega, by rw [HA.out, nx.out]; exact K1.out⟩
            case measure => omega
        · have hjI : ¬ (j : Int) < x := by omega
          obtain rfl : j = x := by omega
          go_wp2
          go_roundg (m + 2 - (i + 1))
          case rel =>
            have e : sTo T m r (i + 1) = S1 := by rw [sTo, SB.out, if_pos hlt, HX.out, HS1.out]
            exact ⟨i + 1, rfl, rfl, by rw [e]; omega, by rw [e]; exact hS⟩
          case measure => omega
    · have hltI : ¬ (i : Int) < S.q.length := by omega
      go_wp2
      go_ret
      have e : spanL T m r = S.up := by
        have h := sTo_stop (T := T) (N := m) (r := r) (i := i) (by rw [SB.out]; exact hlt) (m - i)
        rw [show i + (m - i) = m from by omega, SB.out] at h
        rw [spanL, spanS, h]
      exact ⟨_, rfl, by rw [e]; exact Own.low hS.up.own (by omega), hS.B⟩
end Go.Proofs.Ytjeddcijefnbfaa
