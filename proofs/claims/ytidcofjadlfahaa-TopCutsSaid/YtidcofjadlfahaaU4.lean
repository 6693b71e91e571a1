/- The walks of turns, Parts. -/
import Derived.Test.YtidcofjadlfahaaU3
set_option linter.unusedVariables false
set_option linter.unusedSimpArgs false
namespace Go.Proofs.Ytidcofjadlfahaa
open Go.RowKit

/-- Darts about one vertex have one number. -/
theorem Good.one_number {m n : Nat} {T X C : List Int} (G : Good m n T X C) {d e : Int} (d0 : 0 ≤ d) (d1 : d < n) (e0 : 0 ≤ e) (e1 : e < n) (h : rd T d = rd T e) : rd (facesOf (swp X)) d = rd (facesOf (swp X)) e := by
  have hl := G.lX
  have hp : Perm X.length (rd X) := by rw [hl]; exact G.px
  have he : (X.length : Int) % 2 = 0 := by rw [hl]; exact G.ev
  have F := faces_all (swp_perm hp he) (by rw [swp_length]; exact he)
  have key : ∀ i, rd (facesOf (swp X)) (itr (rd X) d i) = rd (facesOf (swp X)) d := fun i => by
    induction i with
    | zero => rfl
    | succ i ih =>
      have r := hp.itr_rng d0 (by omega) i
      have := F.inv _ r.1 (by rw [swp_length]; exact r.2) (F.don _ r.1 (by rw [swp_length]; exact r.2) (by rw [swp_length]; exact r.2))
      rw [phi_swp he r.1 r.2] at this
      show rd _ (rd X (itr (rd X) d i)) = _
      rw [this, ih]
  obtain ⟨i, rfl⟩ := G.same d e d0 d1 e0 e1 h
  exact (key i).symm
section
variable {m n bT oT bX oX bC oC kT kX kC : Nat} {T X C : List Int} {w : World}
set_option maxHeartbeats 3200000 in
theorem pturns_any (G : Good m n T X C) (R : Rows3 w n bT oT bX oX bC oC T X C) : Calls Try.prog 42 #[(.agg #[.int .i64 m, .slice (some ⟨bT, oT, none⟩) n kT, .slice (some ⟨bX, oX, none⟩) n kX, .slice (some ⟨bC, oC, none⟩) n kC])] w fun e w' => e = .returned (.bool true) ∧ Below w.heap.size w w' := by
  have RR := Bx.mk R
  have GG := Bx.mk G
  have m1 := G.m1
  have m60 := G.m60
  have n2 := G.n2
  have n240 := G.n240
  clear G R
  have hB := below_alloc (Below.refl w.heap.size w) (.cells #[.int .i64 m, .slice (some ⟨bT, oT, none⟩) n kT, .slice (some ⟨bX, oX, none⟩) n kX, .slice (some ⟨bC, oC, none⟩) n kC] 25)
  have hbox := box_new w #[.int .i64 m, .slice (some ⟨bT, oT, none⟩) n kT, .slice (some ⟨bX, oX, none⟩) n kX, .slice (some ⟨bC, oC, none⟩) n kC] 25
  go_enter Try.func42, Try.ntmps42
  go_upto_region 1 with fail
  generalize w.alloc _ = wa at hB hbox ⊢
  generalize w.heap.size = b at hbox ⊢
  have HK := Bx.mk (fun W (h : Below wa.heap.size wa W) => (⟨(hbox.keep h).cell 0, (hbox.keep h).cell 1, (hbox.keep h).cell 2, (hbox.keep h).cell 3⟩ : W.cell? ⟨b, 0, none⟩ = some (.int .i64 m) ∧ W.cell? ⟨b, 1, none⟩ = some (.slice (some ⟨bT, oT, none⟩) n kT) ∧ W.cell? ⟨b, 2, none⟩ = some (.slice (some ⟨bX, oX, none⟩) n kX) ∧ W.cell? ⟨b, 3, none⟩ = some (.slice (some ⟨bC, oC, none⟩) n kC)))
  have HBX := Bx.mk hbox
  have HBW := Bx.mk (fun W (h : Below wa.heap.size wa W) => below_below hB h)
  clear hbox
  obtain ⟨k0, k1, k2, k3⟩ := HK.out wa (Below.refl _ _)
  have eg : ∀ args w, (callFunc 59 args).run Try.prog w = .ok (.enter 59 args) w := enters_of Try.func59 (by kernel_rfl) rfl
  have OR := orbits_any (m := n) (K := 59) (p := some ⟨b, 0, none⟩) (w := wa) (Y := swp X) (by rw [swp_length, GG.out.lX]; have := swp_perm (X := X) (by rw [GG.out.lX]; exact GG.out.px) (by rw [GG.out.lX]; exact GG.out.ev); rwa [swp_length, GG.out.lX] at this) (by rw [swp_length, GG.out.lX]; exact GG.out.ev) (by rw [swp_length]; exact GG.out.lX) GG.out.n240 eg (fun W' hB' d h0 h1 => by
    have := turn1_any (w := W') (N := (m : Int)) (aT := some ⟨bT, oT, none⟩) (aX := some ⟨bX, oX, none⟩) (aC := some ⟨bC, oC, none⟩) (cT := kT) (cX := kX) (cC := kC) (T := T) (X := X) (C := C) b d (by rw [GG.out.lT, GG.out.lX, GG.out.lC]; exact HBX.out.keep hB') ((RR.out.keep (HBW.out _ hB')).X.row) h0 (by rw [GG.out.lX]; exact h1)
    rw [phi_swp (by rw [GG.out.lX]; exact GG.out.ev) h0 (by rw [GG.out.lX]; exact h1)]
    exact this)
  clear eg
  go_wp2_with fail
  refine OR.mono ?_
  rintro e w2 ⟨v2, rfl, o2, B2⟩
  clear OR
  obtain ⟨F, hF⟩ : ∃ F, facesOf (swp X) = F := ⟨_, rfl⟩
  have ONE := Bx.mk (fun (d e : Int) (d0 : 0 ≤ d) (d1 : d < n) (e0 : 0 ≤ e) (e1 : e < n) (h : rd T d = rd T e) => (by have := GG.out.one_number d0 d1 e0 e1 h; rw [hF] at this; exact this : rd F d = rd F e))
  have FL : F.length = n := by
    rw [← hF]
    have hp : Perm X.length (rd X) := by rw [GG.out.lX]; exact GG.out.px
    have he : (X.length : Int) % 2 = 0 := by rw [GG.out.lX]; exact GG.out.ev
    rw [(faces_all (swp_perm hp he) (by rw [swp_length]; exact he)).len, swp_length, GG.out.lX]
  have F0 := Bx.mk (show ∀ d : Int, 0 ≤ d → d < n → 0 ≤ rd F d from fun d d0 d1 => by
    rw [← hF]
    have hp : Perm X.length (rd X) := by rw [GG.out.lX]; exact GG.out.px
    have he : (X.length : Int) % 2 = 0 := by rw [GG.out.lX]; exact GG.out.ev
    exact (faces_all (swp_perm hp he) (by rw [swp_length]; exact he)).don d d0 (by rw [swp_length, GG.out.lX]; exact d1) (by rw [swp_length, GG.out.lX]; exact d1))
  rw [hF] at o2
  clear hF k0 k1 k2 k3
  obtain ⟨aF, cF, rfl, rF⟩ := o2.row
  rw [FL]
  obtain ⟨bF, oF, rfl, rA⟩ := rF.at' FL (by omega)
  clear o2
  have BA := below_alloc B2 (.cells #[.int .i64 (-1)] 3)
  have hc := (box_new w2 #[.int .i64 (-1)] 3).cell 0
  have RO := repeat_own w2.heap.size m (-1) (by omega) (w2.alloc (.cells #[.int .i64 (-1)] 3)) (by simp) hc w2.heap.size (by simp)
  obtain ⟨k0, k1, k2, k3⟩ := HK.out _ BA
  clear hc
  go_wp2_with fail
  refine RO.mono ?_
  rintro e w3 ⟨rfl, o3, B3'⟩
  clear RO k0 k1 k2 k3
  have B3 := below_below BA B3'
  have rF3 := Bx.mk (fun W (h : Below w3.heap.size w3 W) => rA.keep (below_below (below_below (below_alloc (Below.refl _ _) _) B3') h))
  have hg : wa.heap.size ≤ w2.heap.size := B2.size
  rw [World.size_alloc] at o3 ⊢
  have hgl : wa.heap.size ≤ w2.heap.size + 1 := by omega
  have hne : w2.heap.size + 1 ≠ bF := by have := rA.lt; omega
  clear BA B3' rF rA B2
  generalize w2.heap.size + 1 = gM at o3 hgl hne ⊢
  generalize w2.heap.size = gB at o3 hg ⊢
  obtain ⟨k0, k1, k2, k3⟩ := HK.out _ B3
  have B33 := Below.refl w3.heap.size w3
  have o3' : ∃ D, OwnN w3 gB gM m m D ∧ Bx (∀ v : Int, 0 ≤ v → v < m → rd D v < 0 ∨ ∃ e : Int, 0 ≤ e ∧ e < n ∧ rd T e = v ∧ rd D v = rd F e) := ⟨_, o3, ⟨fun v v0 v1 => .inl (by rw [rep_rd _ _ _ v0 v1]; omega)⟩⟩
  clear o3
  go_wp2
  go_loopg [27] (n + 1) (fun q y wr => ∃ d : Nat, y = .int .i64 d ∧ q = n + 1 - d ∧ d ≤ n ∧ (∃ D, OwnN wr gB gM m m D ∧ Bx (∀ v : Int, 0 ≤ v → v < m → rd D v < 0 ∨ ∃ e : Int, 0 ≤ e ∧ e < n ∧ rd T e = v ∧ rd D v = rd F e)) ∧ Below wa.heap.size wa wr ∧ RowAt wr bF oF n F)
  case atStart => exact ⟨0, rfl, by omega, by omega, o3', B3, rF3.out _ (Below.refl _ _)⟩
  case round =>
    clear B3 B33 o3' k0 k1 k2 k3
    obtain ⟨d, rfl, hq, hd, ⟨D, o3, HD⟩, BW, CF⟩ := hrel
    obtain ⟨k0, k1, k2, k3⟩ := HK.out _ BW
    by_cases hdn : d < n
    · have hD : (d : Int) < n := by omega
      have x0 := GG.out.px.rng d (by omega) hD
      have ct := (RR.out.keep (HBW.out _ BW)).T.get d (by omega) hD
      have cx := (RR.out.keep (HBW.out _ BW)).X.get d (by omega) hD
      have ct2 := (RR.out.keep (HBW.out _ BW)).T.get (rd X d) x0.1 x0.2
      rw [GG.out.tu d (by omega) hD] at ct2
      have cf := CF.get d (by omega) hD
      have t0 := GG.out.t d (by omega) hD
      have x00 := x0.1
      have x01 := x0.2
      have ND := Bx.mk (show ∀ v : Int, 0 ≤ v → v < m → rd (st D (rd T d) (rd F d)) v < 0 ∨ ∃ e : Int, 0 ≤ e ∧ e < n ∧ rd T e = v ∧ rd (st D (rd T d) (rd F d)) v = rd F e from fun v v0 v1 => by
        rw [rd_st _ _ _ _ t0.1 (by rw [o3.1]; exact t0.2) v0]
        by_cases e : v = rd T d
        · rw [if_pos e]
          exact .inr ⟨d, by omega, hD, e.symm, rfl⟩
        · rw [if_neg e]
          exact HD.out v v0 v1)
      have hm := o3.cell (rd T d) t0.1 t0.2
      have fm := o3.fz (rd T d)
      have o0 := o3
      have MS := HD.out (rd T d) t0.1 t0.2
      have MS2 : rd D (rd T d) < 0 ∨ (0 ≤ rd D (rd T d) ∧ rd D (rd T d) = rd F d) := by
        rcases MS with h | ⟨e, e0, e1, e2, e3⟩
        · exact .inl h
        · exact .inr ⟨by rw [e3]; exact F0.out e e0 e1, by rw [e3]; exact ONE.out e d e0 e1 (by omega) hD e2⟩
      rw [Int.toNat_natCast] at cx ct cf
      have t00 := t0.1
      have t01 := t0.2
      obtain ⟨x, hx⟩ : ∃ x, rd X d = x := ⟨_, rfl⟩
      obtain ⟨t, ht⟩ : ∃ t, rd T d = t := ⟨_, rfl⟩
      obtain ⟨f, hf⟩ : ∃ f, rd F d = f := ⟨_, rfl⟩
      rw [hx] at cx ct2 x00 x01
      rw [ht] at ct ct2 ND hm fm MS2 t00 t01
      rw [hf] at cf ND MS2
      obtain ⟨v, hv⟩ : ∃ v, rd D t = v := ⟨_, rfl⟩
      rw [hv] at hm MS2
      have e1 : (t != t) = false := by simp
      clear hx ht hf hv MS t0 x0 o3
      rcases MS2 with h | ⟨h, rfl⟩
      · have g1 : decide (v ≥ 0) = false := decide_eq_false (by omega)
        go_upto_region 8 with fail
        go_quiet (fail)
        have o5 := (o0.keep (below_drewN (Below.refl _ _) nq)).set t f
        have B5 := below_set (below_drewN BW nq) (p := ⟨gM, t.toNat, none⟩) hgl (.int .i64 f)
        have C5 := (CF.keep (below_drewN (Below.refl _ _) nq)).far (p := ⟨gM, t.toNat, none⟩) hne (.int .i64 f)
        go_wp2
        go_roundg (n + 1 - (d + 1))
        case rel => exact ⟨d + 1, rfl, by omega, by omega, ⟨_, o5, ND⟩, B5, C5⟩
        case measure => omega
      · have g1 : decide (v ≥ 0) = true := decide_eq_true (by omega)
        have e2 : (v != v) = false := by simp
        go_upto_region 8 with fail
        go_quiet (fail)
        have o5 := (o0.keep (below_drewN (Below.refl _ _) nq)).set t v
        have B5 := below_set (below_drewN BW nq) (p := ⟨gM, t.toNat, none⟩) hgl (.int .i64 v)
        have C5 := (CF.keep (below_drewN (Below.refl _ _) nq)).far (p := ⟨gM, t.toNat, none⟩) hne (.int .i64 v)
        go_wp2
        go_roundg (n + 1 - (d + 1))
        case rel => exact ⟨d + 1, rfl, by omega, by omega, ⟨_, o5, ND⟩, B5, C5⟩
        case measure => omega
    · have hD : ¬ (d : Int) < n := by omega
      have BF := Bx.mk (HBW.out _ BW)
      go_wp2
      go_ret
      exact ⟨rfl, BF.out⟩
end
end Go.Proofs.Ytidcofjadlfahaa
