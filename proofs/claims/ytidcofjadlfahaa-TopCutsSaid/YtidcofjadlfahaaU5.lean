/- The walk of Parts. -/
import Derived.Test.YtidcofjadlfahaaU4
set_option linter.unusedVariables false
set_option linter.unusedSimpArgs false
namespace Go.Proofs.Ytidcofjadlfahaa
open Go.RowKit

section
variable {m n bT oT bX oX bC oC kT kX kC : Nat} {T X C : List Int} {w : World}
theorem ghead_any (G : Good m n T X C) (R : Rows3 w n bT oT bX oX bC oC T X C) (d : Int) (h0 : 0 ≤ d) (h1 : d < n) : Calls Try.prog 49 #[(.agg #[.int .i64 m, .slice (some ⟨bT, oT, none⟩) n kT, .slice (some ⟨bX, oX, none⟩) n kX, .slice (some ⟨bC, oC, none⟩) n kC]), .int .i64 d] w fun e w' => e = .returned (.int .i64 (rd T (ot d))) ∧ Below w.heap.size w w' := by
  have := head_any (w := w) (N := (m : Int)) (aT := some ⟨bT, oT, none⟩) (aX := some ⟨bX, oX, none⟩) (aC := some ⟨bC, oC, none⟩) (cT := kT) (cX := kX) (cC := kC) (T := T) (X := X) (C := C) d R.T.row h0 (by rw [G.lT]; exact h1) (by rw [G.lT]; exact G.ev) (by rw [G.lT]; exact G.n240)
  rw [G.lT, G.lX, G.lC] at this
  exact this
end
theorem below_old {w w' : World} (hb : Below w.heap.size w w') {b o : Nat} (h : b < w.heap.size) : w'.cell? ⟨b, o, none⟩ = w.cell? ⟨b, o, none⟩ := hb.cell (p := ⟨b, o, none⟩) h
/-- How many are not found yet. -/
def negs (D : List Int) : Nat := D.countP (fun x => decide (x < 0))
theorem negs_set {D : List Int} {i : Int} (h0 : 0 ≤ i) (h1 : i < D.length) (hn : rd D i < 0) : negs (st D i 0) + 1 = negs D := by
  obtain ⟨k, rfl⟩ : ∃ k : Nat, i = k := ⟨i.toNat, by omega⟩
  have hk : k < D.length := by omega
  have e : rd D (k : Int) = D[k] := by simp [rd, List.getD_eq_getElem?_getD, List.getElem?_eq_getElem hk]
  rw [e] at hn
  unfold negs st
  rw [Int.toNat_natCast, List.countP_set hk]
  have hp := (List.countP_pos_iff (p := fun x => decide (x < 0))).2 ⟨D[k], List.getElem_mem hk, decide_eq_true hn⟩
  rw [if_pos (decide_eq_true hn), if_neg (by simp)]
  omega
/-- The found ones, so far. -/
structure Pt (T : List Int) (m n : Nat) (D : List Int) : Prop where
  len : D.length = m
  two : ∀ v : Int, 0 ≤ v → v < m → rd D v = -1 ∨ rd D v = 0
  one : rd D 0 = 0
theorem Pt.set {T D : List Int} {m n : Nat} (h : Pt T m n D) {i : Int} (h0 : 0 ≤ i) (h1 : i < m) (hm : 0 < m) : Pt T m n (st D i 0) := by
  have hl := h.len
  refine ⟨by rw [st_length]; exact hl, fun v v0 v1 => ?_, ?_⟩
  · rw [rd_st _ _ _ _ h0 (by omega) v0]
    split
    · exact .inr rfl
    · exact h.two v v0 v1
  · rw [rd_st _ _ _ _ h0 (by omega) (by omega)]
    split
    · rfl
    · exact h.one
/-- Closed behind the first d darts. -/
def Clo (T D : List Int) (d : Nat) : Prop := ∀ e : Int, 0 ≤ e → e < d → rd D (rd T e) = 0 → rd D (rd T (ot e)) = 0
theorem Pt.full {T X C D : List Int} {m n : Nat} (G : Good m n T X C) (h : Pt T m n D) (hc : Clo T D n) : D = List.replicate m 0 := by
  have hl := h.len
  have m1 := G.m1
  refine rows_ext (by simp [hl]) (fun i h0 h1 => ?_)
  rw [rep_rd _ _ _ h0 (by omega)]
  exact G.conn (fun v => rd D v = 0) ⟨0, by omega, by omega, h.one⟩ (fun d d0 d1 hd => hc d d0 (by have := G.lT; omega) hd) i h0 (by omega)
section
variable {m n bT oT bX oX bC oC kT kX kC : Nat} {T X C : List Int} {w : World}
set_option maxHeartbeats 6400000 in
theorem pparts_any (G : Good m n T X C) (R : Rows3 w n bT oT bX oX bC oC T X C) : Calls Try.prog 43 #[(.agg #[.int .i64 m, .slice (some ⟨bT, oT, none⟩) n kT, .slice (some ⟨bX, oX, none⟩) n kX, .slice (some ⟨bC, oC, none⟩) n kC])] w fun e w' => ∃ v, e = .returned (.tuple #[v, .int .i64 1]) ∧ Below w.heap.size w w' := by
  have SH := fun W (h : Below w.heap.size w W) => fine_any (kT := kT) (kX := kX) (kC := kC) G (R.keep h)
  have RR := Bx.mk R
  have GG := Bx.mk G
  have m1 := G.m1
  have m60 := G.m60
  have n2 := G.n2
  have n240 := G.n240
  clear G R
  have hB := below_alloc (Below.refl w.heap.size w) (.cells #[.int .i64 m, .slice (some ⟨bT, oT, none⟩) n kT, .slice (some ⟨bX, oX, none⟩) n kX, .slice (some ⟨bC, oC, none⟩) n kC] 25)
  have hbox := box_new w #[.int .i64 m, .slice (some ⟨bT, oT, none⟩) n kT, .slice (some ⟨bX, oX, none⟩) n kX, .slice (some ⟨bC, oC, none⟩) n kC] 25
  go_enter Try.func43, Try.ntmps43
  go_upto_region 1 with fail
  generalize w.alloc _ = wa at hB hbox ⊢
  generalize w.heap.size = b at hbox ⊢
  have HK := Bx.mk (fun W (h : Below wa.heap.size wa W) => (⟨(hbox.keep h).cell 0, (hbox.keep h).cell 1, (hbox.keep h).cell 2, (hbox.keep h).cell 3⟩ : W.cell? ⟨b, 0, none⟩ = some (.int .i64 m) ∧ W.cell? ⟨b, 1, none⟩ = some (.slice (some ⟨bT, oT, none⟩) n kT) ∧ W.cell? ⟨b, 2, none⟩ = some (.slice (some ⟨bX, oX, none⟩) n kX) ∧ W.cell? ⟨b, 3, none⟩ = some (.slice (some ⟨bC, oC, none⟩) n kC)))
  have HBX := Bx.mk hbox
  have HBW := Bx.mk (fun W (h : Below wa.heap.size wa W) => below_below hB h)
  clear hbox
  obtain ⟨k0, k1, k2, k3⟩ := HK.out wa (Below.refl _ _)
  have S1 := SH _ hB
  go_wp2_with fail
  refine S1.mono ?_
  rintro e w2 ⟨rfl, B2⟩
  clear S1 SH k0 k1 k2 k3
  have BA := below_alloc B2 (.cells #[.int .i64 (-1)] 3)
  have hc := (box_new w2 #[.int .i64 (-1)] 3).cell 0
  have RO := repeat_own w2.heap.size m (-1) (by omega) (w2.alloc (.cells #[.int .i64 (-1)] 3)) (by simp) hc w2.heap.size (by simp)
  obtain ⟨k0, k1, k2, k3⟩ := HK.out _ BA
  clear hc
  go_wp2_with fail
  refine RO.mono ?_
  rintro e w3 ⟨rfl, o3, B3'⟩
  clear RO k0 k1 k2 k3
  have B3 := below_below BA B3'
  have hg : wa.heap.size ≤ w2.heap.size := B2.size
  rw [World.size_alloc] at o3 ⊢
  have hgl : wa.heap.size ≤ w2.heap.size + 1 := by omega
  clear BA B3' B2
  generalize w2.heap.size + 1 = gM at o3 hgl ⊢
  generalize w2.heap.size = gB at o3 hg ⊢
  obtain ⟨k0, k1, k2, k3⟩ := HK.out _ B3
  go_wp2
  go_loopg [5, 20] (m + 1) (fun q y5 y20 wr => ∃ (v : Nat) (c : Int), y5 = .int .i64 c ∧ y20 = .int .i64 v ∧ q = m + 1 - v ∧ v ≤ m ∧ ((v = 0 ∧ c = 0) ∨ (0 < v ∧ c = 1)) ∧ (∃ D, OwnN wr gB gM m m D ∧ Bx (D = List.replicate m (if v = 0 then -1 else 0))) ∧ Below wa.heap.size wa wr)
  case atStart => exact ⟨0, 0, rfl, rfl, by omega, by omega, .inl ⟨rfl, rfl⟩, ⟨_, o3, ⟨rfl⟩⟩, B3⟩
  case round =>
    clear B3 o3 k0 k1 k2 k3
    obtain ⟨v, c, rfl, rfl, hq, hv, hvc, ⟨D, o3, HD⟩, BW⟩ := hrel
    by_cases hvm : v < m
    · have hV : (v : Int) < m := by omega
      have c1 := o3.cell v (by omega) hV
      rcases hvc with ⟨rfl, rfl⟩ | ⟨hv0, rfl⟩
      · have hD : D = List.replicate m (-1) := HD.out
        rw [hD, rep_rd _ _ _ (by omega) hV] at c1
        have f1 := o3.fz (0 : Int)
        have o4 := o3.set 0 0
        have P4 := Bx.mk (show Pt T m n (st D 0 0) from ⟨by rw [st_length]; exact o3.1, fun u u0 u1 => (by rw [rd_st _ _ _ _ (by omega) (by rw [o3.1]; omega) u0]; split; exact .inr rfl; exact .inl (by rw [hD, rep_rd _ _ _ u0 u1])), by rw [rd_st _ _ _ _ (by omega) (by rw [o3.1]; omega) (by omega), if_pos rfl]⟩)
        have B4 := below_set BW (p := ⟨gM, (0 : Int).toNat, none⟩) hgl (.int .i64 0)
        simp only [Int.toNat_natCast, Int.toNat_zero, Int.natCast_zero] at c1 f1 o4 B4 ⊢
        clear hD o3 BW HD
        go_wp2
        go_loopg [7] (negs (st D 0 0) + 2) (fun q y wr => ∃ (g : Bool), y = .bool g ∧ (∃ D, OwnN wr gB gM m m D ∧ Bx (Pt T m n D) ∧ Bx (g = false → Clo T D n) ∧ q = negs D + 1 + (if g = true then 1 else 0)) ∧ Below wa.heap.size wa wr)
        case atStart => exact ⟨true, rfl, ⟨_, o4, P4, ⟨fun h => by cases h⟩, rfl⟩, B4⟩
        case round =>
          clear o4 P4 B4 c1 f1
          obtain ⟨g, rfl, ⟨E, oE, PE, CE, hq3⟩, BW⟩ := hrel
          cases g with
          | false =>
            have hE := Bx.mk (PE.out.full GG.out (CE.out rfl))
            go_wp2
            go_roundg (m + 1 - (0 + 1))
            case rel => exact ⟨1, 1, rfl, rfl, rfl, by omega, .inr ⟨by omega, rfl⟩, ⟨E, oE, ⟨by rw [if_neg (by omega)]; exact hE.out⟩⟩, BW⟩
            case measure => omega
          | true =>
            obtain ⟨k0, k1, k2, k3⟩ := HK.out _ BW
            go_wp2
            go_loopg [7, 36] (n + 1) (fun q y7 y36 wr => ∃ (d : Nat) (g : Bool), y36 = .int .i64 d ∧ y7 = .bool g ∧ q = n + 1 - d ∧ d ≤ n ∧ (∃ D, OwnN wr gB gM m m D ∧ Bx (Pt T m n D) ∧ Bx (g = false → D = E ∧ Clo T D d) ∧ Bx (g = true → negs D < negs E)) ∧ Below wa.heap.size wa wr)
            case atStart => exact ⟨0, false, rfl, rfl, by omega, by omega, ⟨E, oE, PE, ⟨fun _ => ⟨rfl, fun e h0 h1 => by omega⟩⟩, ⟨fun h => by cases h⟩⟩, BW⟩
            case round =>
              clear oE PE CE BW k0 k1 k2 k3
              obtain ⟨d, g, rfl, rfl, hq4, hd, ⟨D2, o2, P2, C2, N2⟩, BW⟩ := hrel
              obtain ⟨k0, k1, k2, k3⟩ := HK.out _ BW
              by_cases hdn : d < n
              · have hD : (d : Int) < n := by omega
                have ct := (RR.out.keep (HBW.out _ BW)).T.get d (by omega) hD
                have t0 := GG.out.t d (by omega) hD
                have od := ot_rng d n (by omega) hD GG.out.ev
                have h0 := GG.out.t (ot d) od.1 od.2
                have HH := fun W (h : Below wa.heap.size wa W) => ghead_any (kT := kT) (kX := kX) (kC := kC) GG.out (RR.out.keep (HBW.out W h)) d (by omega) hD
                have two := P2.out.two
                have cs : (rd D2 (rd T d) = -1) ∨ (rd D2 (rd T d) = 0 ∧ rd D2 (rd T (ot d)) = -1) ∨ (rd D2 (rd T d) = 0 ∧ rd D2 (rd T (ot d)) = 0) := by
                  rcases two _ t0.1 t0.2 with h | h <;> rcases two _ h0.1 h0.2 with k | k <;> simp [h, k]
                have c1 := o2.cell (rd T d) t0.1 t0.2
                have c2 := o2.cell (rd T (ot d)) h0.1 h0.2
                have f2 := o2.fz (rd T (ot d))
                have CLO := Bx.mk (fun (hc : rd D2 (rd T d) = 0 → rd D2 (rd T (ot d)) = 0) (hg : g = false) => (⟨(C2.out hg).1, fun e e0 e1 he => by
                  by_cases h9 : e = d
                  · subst h9; exact hc he
                  · exact (C2.out hg).2 e e0 (by omega) he⟩ : D2 = E ∧ Clo T D2 (d + 1)))
                rw [Int.toNat_natCast] at ct
                have t00 := t0.1
                have t01 := t0.2
                have h00 := h0.1
                have h01 := h0.2
                obtain ⟨t, ht⟩ : ∃ t, rd T d = t := ⟨_, rfl⟩
                obtain ⟨z, hz⟩ : ∃ z, rd T (ot d) = z := ⟨_, rfl⟩
                rw [ht] at ct c1 t00 t01 cs CLO
                rw [hz] at c2 f2 h00 h01 cs CLO HH
                have HL := Bx.mk o2.1
                clear t0 h0 od two ht hz
                rcases cs with ha | ⟨ha, hb⟩ | ⟨ha, hb⟩
                · rw [ha] at c1
                  have CC := Bx.mk (CLO.out (fun h => by omega))
                  clear ha CLO c2 f2
                  go_wp2_with fail
                  refine (HH _ BW).mono ?_
                  rintro e w5 ⟨rfl, B5⟩
                  have c5 := (below_old B5 o2.rng.2).trans c1
                  have BW2 := below_below BW B5
                  have o5 := o2.keep B5
                  clear k0 k1 k2 k3 HH ct c1 BW o2
                  go_wp2
                  go_roundg (n + 1 - (d + 1))
                  case rel => exact ⟨d + 1, g, rfl, rfl, by omega, by omega, ⟨D2, o5, P2, CC, N2⟩, BW2⟩
                  case measure => omega
                · rw [ha] at c1
                  rw [hb] at c2
                  have P3 := Bx.mk (P2.out.set h00 h01 (by omega))
                  have N3 := Bx.mk (fun (_ : true = true) => (by
                    have s := negs_set h00 (by rw [HL.out]; exact h01) (show rd D2 z < 0 by omega)
                    cases g with
                    | false => have := (C2.out rfl).1; subst this; omega
                    | true => have := N2.out rfl; omega : negs (st D2 z 0) < negs E))
                  clear ha hb CLO
                  go_wp2_with fail
                  refine (HH _ BW).mono ?_
                  rintro e w5 ⟨rfl, B5⟩
                  have c5 := (below_old B5 o2.rng.2).trans c1
                  have c6 := (below_old B5 o2.rng.2).trans c2
                  have BW2 := below_below BW B5
                  have o5 := o2.keep B5
                  have f5 := o5.fz z
                  have o6 := o5.set z 0
                  have B6 := below_set BW2 (p := ⟨gM, z.toNat, none⟩) hgl (.int .i64 0)
                  clear k0 k1 k2 k3 HH ct c1 c2 f2 BW o2 BW2 o5
                  go_wp2
                  go_roundg (n + 1 - (d + 1))
                  case rel => exact ⟨d + 1, true, rfl, rfl, by omega, by omega, ⟨_, o6, P3, ⟨fun h => by cases h⟩, ⟨fun _ => N3.out trivial⟩⟩, B6⟩
                  case measure => omega
                · rw [ha] at c1
                  rw [hb] at c2
                  have CC := Bx.mk (CLO.out (fun _ => hb))
                  clear ha hb CLO f2
                  go_wp2_with fail
                  refine (HH _ BW).mono ?_
                  rintro e w5 ⟨rfl, B5⟩
                  have c5 := (below_old B5 o2.rng.2).trans c1
                  have c6 := (below_old B5 o2.rng.2).trans c2
                  have BW2 := below_below BW B5
                  have o5 := o2.keep B5
                  clear k0 k1 k2 k3 HH ct c1 c2 BW o2
                  go_wp2
                  go_roundg (n + 1 - (d + 1))
                  case rel => exact ⟨d + 1, g, rfl, rfl, by omega, by omega, ⟨D2, o5, P2, CC, N2⟩, BW2⟩
                  case measure => omega
              · have hD : ¬ (d : Int) < n := by omega
                obtain rfl : d = n := by omega
                have q5 : negs D2 + 1 + (if g = true then 1 else 0) < negs E + 2 := by
                  cases g with
                  | false => have := (C2.out rfl).1; subst this; simp
                  | true => have := N2.out rfl; simp; omega
                have q6 := hq3
                simp at q6
                go_wp2
                go_roundg (negs D2 + 1 + (if g = true then 1 else 0))
                case rel => exact ⟨g, rfl, ⟨D2, o2, P2, ⟨fun h => (C2.out h).2⟩, rfl⟩, BW⟩
                case measure => omega
      · have hD : D = List.replicate m 0 := by have := HD.out; rwa [if_neg (by omega)] at this
        rw [hD, rep_rd _ _ _ (by omega) hV, Int.toNat_natCast] at c1
        clear hD
        go_wp2
        go_roundg (m + 1 - (v + 1))
        case rel => exact ⟨v + 1, 1, rfl, rfl, rfl, by omega, .inr ⟨by omega, rfl⟩, ⟨D, o3, ⟨by have := HD.out; rw [if_neg (by omega)] at this; rw [if_neg (by omega)]; exact this⟩⟩, BW⟩
        case measure => omega
    · have hV : ¬ (v : Int) < m := by omega
      obtain rfl : c = 1 := by omega
      have BF := Bx.mk (HBW.out _ BW)
      go_wp2
      all_goals go_ret2
      all_goals exact ⟨⟨_, rfl⟩, BF.out⟩
end
end Go.Proofs.Ytidcofjadlfahaa
