/- The walk of LinkTurns: it returns true, and writes nothing that was there. -/
import Derived.Test.YtjicapkhlfbgjaaDu
set_option linter.unusedVariables false
namespace Go.Proofs.Ytjicapkhlfbgjaa
open Go.RowKit

set_option maxHeartbeats 6400000 in
set_option maxRecDepth 10000 in
theorem turns_walk (s v : Int) (a : Option Addr) (len cap : Nat) (zs : List Int) (w : World) (hz : RowOf w a len zs) :
    Calls Try.prog 4 #[.int .i64 s, .slice a len cap, .int .i64 v] w fun e w' => e = .returned (.bool true) ∧ Below w.heap.size w w' := by
  have hs := wi_rng s 15 (by omega)
  obtain ⟨m, hm⟩ : ∃ m : Nat, 1 + wi s 15 = (m : Int) := ⟨(1 + wi s 15).toNat, by omega⟩
  have hm0 : 0 < m := by omega
  have hm1 : m ≤ 15 := by omega
  have hmz : ¬ (m : Int) = 0 := by omega
  have hmN : ¬ m = 0 := by omega
  go_enter Try.func4, Try.ntmps4
  go_wp2_with fail
  refine (known_any _).mono ?_
  rintro e w1 ⟨rfl, hB1⟩
  go_wp2_with fail
  refine (within_any s 15 (by omega) (by omega) _).mono ?_
  rintro e w' ⟨rfl, rfl⟩
  go_wp2_with fail
  refine (p_new m m (by omega) _).mono ?_
  rintro e w2 ⟨g, rfl, hF, hB⟩
  have hB2 := below_below hB1 hB
  have hs1 := hB1.size
  have hs2 := hB.size
  clear hB hB1
  go_wp2_with fail
  refine (r_new m hm0 (by omega) _).mono ?_
  rintro e w3 ⟨x, rfl, hX, hB⟩
  have hD3 : Duo w w3 w1.heap.size w2.heap.size w3.heap.size g x m _ _ _ _ := ⟨hs1, hs2, forest_kept hF hB, hX, below_below hB2 hB⟩
  clear hB hB2 hF hX
  go_wp2_with fail
  go_loopg [10] 60 (fun q y0 wr => ∃ (i : Nat) (U W : List Int), y0 = .int .i64 i ∧ i ≤ 60 ∧ q = 60 - i ∧ Good U ∧ Duo w wr w1.heap.size w2.heap.size w3.heap.size g x m U W U W)
  case atStart => exact ⟨0, _, _, rfl, by omega, by omega, good_zeros _, hD3⟩
  case round =>
    clear hD3
    obtain ⟨i, U, W, rfl, h0, hq, hg, hD⟩ := hrel
    by_cases h1 : i < len
    · have hi1 : (i : Int) < len := by omega
      by_cases h2 : i < 60
      · obtain ⟨b, o, rfl, hc⟩ := hz.at hD.B i h1
        have hi2 : (i : Int) < 60 := by omega
        have hwi := wi_rng (zs.getD i 0) 1099511627776 (by omega)
        go_wp2_with fail
        refine (within_any (zs.getD i 0) 1099511627776 (by omega) (by omega) _).mono ?_
        rintro e w' ⟨rfl, rfl⟩
        go_wp2_with fail
        go_still_tail 12, (by kernel_rfl)
        repeat (first | still_step | (refine wpStill_step (fun K hK => ?_); go_simp; rw [if_neg hmN]; refine ⟨rfl, hK _ ?_⟩; clear hK K))
        try refine wpStill_nil ?_
        change wpList _ _ _ _ _ wr.drew
        have hDd := hD.drew
        clear hD
        generalize wr.drew = wd at hDd ⊢
        go_wp2_with fail
        refine (p_link _ _ _ hDd.F hg).mono ?_
        rintro e w5 ⟨rfl, hL⟩
        have hD5 := hDd.p hL
        clear hDd hL
        go_wp2_with fail
        go_still_tail 12, (by kernel_rfl)
        repeat (first | still_step | (refine wpStill_step (fun K hK => ?_); go_simp; rw [if_neg hmN]; refine ⟨rfl, hK _ ?_⟩; clear hK K))
        try refine wpStill_nil ?_
        change wpList _ _ _ _ _ w5.drew
        have hDd := hD5.drew
        clear hD5
        generalize w5.drew = wd at hDd ⊢
        go_wp2_with fail
        refine (r_link _ _ _ hDd.X hg).mono ?_
        rintro e w6 ⟨rfl, hL⟩
        have hD6 := hDd.r hL
        clear hDd hL
        go_wp2
        go_roundg (60 - (i + 1))
        case rel => exact ⟨i + 1, _, _, rfl, by omega, rfl, hg.link _ _, hD6⟩
        case measure => omega
      · have hi2 : ¬ (i : Int) < 60 := by omega
        have hlu := hD.F.lu
        have hv0 := wi_rng v m (by omega)
        obtain ⟨T1, T2, T3, T4, T5⟩ := turn_facts hg hv0.1 (by omega)
        obtain ⟨k, hk⟩ : ∃ k, rootA U (wi v m) = k := ⟨_, rfl⟩
        rw [hk] at T3 T4 T5
        go_wp2_with fail
        refine (within_any v m (by omega) (by omega) _).mono ?_
        rintro e w' ⟨rfl, rfl⟩
        go_wp2_with fail
        refine (p_root _ hD.F hg).mono ?_
        rintro e w' ⟨rfl, rfl⟩
        rw [hk]
        go_wp2_with fail
        refine (p_turn _ hD.F hg).mono ?_
        rintro e w5 ⟨rfl, hL⟩
        have hD5 := hD.p hL
        clear hD hL
        rw [T1]
        go_wp2_with fail
        refine (p_root _ hD5.F (hg.turned _)).mono ?_
        rintro e w' ⟨rfl, rfl⟩
        rw [T2]
        go_wp2_with fail
        refine (p_root _ hD5.F (hg.turned _)).mono ?_
        rintro e w' ⟨rfl, rfl⟩
        rw [T3]
        go_wp2_with fail
        refine (r_turn _ hD5.X hg).mono ?_
        rintro e w6 ⟨rfl, hL⟩
        have hD6 := hD5.r hL
        clear hD5 hL
        go_wp2_with fail
        refine (same_any hD6.F hD6.X (hg.turned _) (by omega)).mono ?_
        rintro e w' ⟨rfl, rfl⟩
        go_wp2_with fail
        refine (p_turn _ hD6.F (hg.turned _)).mono ?_
        rintro e w7 ⟨rfl, hL⟩
        have hD7 := hD6.p hL
        clear hD6 hL
        rw [T4]
        go_wp2_with fail
        refine (r_turn _ hD7.X (hg.turned _)).mono ?_
        rintro e w8 ⟨rfl, hL⟩
        have hD8 := hD7.r hL
        clear hD7 hL
        go_wp2_with fail
        refine (same_any hD8.F hD8.X ((hg.turned _).turned _) (by omega)).mono ?_
        rintro e w' ⟨rfl, rfl⟩
        go_wp2_with fail
        refine (p_root _ hD8.F ((hg.turned _).turned _)).mono ?_
        rintro e w' ⟨rfl, rfl⟩
        rw [T5]
        go_wp2
        go_ret
        exact ⟨rfl, hD8.B⟩
    · have hi1 : ¬ (i : Int) < len := by omega
      have hlu := hD.F.lu
      have hv0 := wi_rng v m (by omega)
      obtain ⟨T1, T2, T3, T4, T5⟩ := turn_facts hg hv0.1 (by omega)
      obtain ⟨k, hk⟩ : ∃ k, rootA U (wi v m) = k := ⟨_, rfl⟩
      rw [hk] at T3 T4 T5
      go_wp2_with fail
      refine (within_any v m (by omega) (by omega) _).mono ?_
      rintro e w' ⟨rfl, rfl⟩
      go_wp2_with fail
      refine (p_root _ hD.F hg).mono ?_
      rintro e w' ⟨rfl, rfl⟩
      rw [hk]
      go_wp2_with fail
      refine (p_turn _ hD.F hg).mono ?_
      rintro e w5 ⟨rfl, hL⟩
      have hD5 := hD.p hL
      clear hD hL
      rw [T1]
      go_wp2_with fail
      refine (p_root _ hD5.F (hg.turned _)).mono ?_
      rintro e w' ⟨rfl, rfl⟩
      rw [T2]
      go_wp2_with fail
      refine (p_root _ hD5.F (hg.turned _)).mono ?_
      rintro e w' ⟨rfl, rfl⟩
      rw [T3]
      go_wp2_with fail
      refine (r_turn _ hD5.X hg).mono ?_
      rintro e w6 ⟨rfl, hL⟩
      have hD6 := hD5.r hL
      clear hD5 hL
      go_wp2_with fail
      refine (same_any hD6.F hD6.X (hg.turned _) (by omega)).mono ?_
      rintro e w' ⟨rfl, rfl⟩
      go_wp2_with fail
      refine (p_turn _ hD6.F (hg.turned _)).mono ?_
      rintro e w7 ⟨rfl, hL⟩
      have hD7 := hD6.p hL
      clear hD6 hL
      rw [T4]
      go_wp2_with fail
      refine (r_turn _ hD7.X (hg.turned _)).mono ?_
      rintro e w8 ⟨rfl, hL⟩
      have hD8 := hD7.r hL
      clear hD7 hL
      go_wp2_with fail
      refine (same_any hD8.F hD8.X ((hg.turned _).turned _) (by omega)).mono ?_
      rintro e w' ⟨rfl, rfl⟩
      go_wp2_with fail
      refine (p_root _ hD8.F ((hg.turned _).turned _)).mono ?_
      rintro e w' ⟨rfl, rfl⟩
      rw [T5]
      go_wp2
      go_ret
      exact ⟨rfl, hD8.B⟩
end Go.Proofs.Ytjicapkhlfbgjaa
