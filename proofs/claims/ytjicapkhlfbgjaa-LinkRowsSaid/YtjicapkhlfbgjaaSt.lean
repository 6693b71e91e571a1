/- The walk of step: one thing on both forests, answered alike. -/
import Derived.Test.YtjicapkhlfbgjaaSa
import Derived.Deep.CutRange
import Derived.Deep.Cut
set_option linter.unusedVariables false
namespace Go.Proofs.Ytjicapkhlfbgjaa
open Go.RowKit

/-- Two forests in one state, in the blocks from lo to hi. -/
def Pair (w : World) (lo hi f x n : Nat) : Prop := ∃ a b c d U W, lo ≤ a ∧ b ≤ c ∧ d ≤ hi ∧ a ≤ b ∧ c ≤ d ∧ Good U ∧ Forest 52 w a b f n U W ∧ Forest 54 w c d x n U W
theorem tdiv_rng (s k : Int) (h : 0 ≤ s) (hk : 0 < k) : 0 ≤ s.tdiv k ∧ s.tdiv k ≤ s := by
  rw [Int.tdiv_eq_ediv_of_nonneg h]
  exact ⟨Int.ediv_nonneg h (by omega), Int.ediv_le_self _ h⟩
theorem emod_rng (s k : Int) (h : 0 ≤ s) (hk : 0 < k) : 0 ≤ s % k ∧ s % k < k :=
  ⟨Int.emod_nonneg _ (by omega), Int.emod_lt_of_pos _ hk⟩

section
variable {w : World} {lo hi a b c d f x n : Nat} {U W : List Int}
theorem both_kept {w' : World} (hF : Forest 52 w a b f n U W) (hX : Forest 54 w c d x n U W) (h : Rng 0 0 w w') : Forest 52 w' a b f n U W ∧ Forest 54 w' c d x n U W ∧ Rng lo hi w w' :=
  ⟨hF.other h (.inr (Nat.zero_le _)), hX.other h (.inr (Nat.zero_le _)), h.os, h.tape, h.output, h.size, fun k hk _ => h.block k hk (.inr (Nat.zero_le _))⟩
set_option maxHeartbeats 6400000 in
set_option maxRecDepth 100000 in
theorem step_any (s raw : Int) (hs0 : 0 ≤ s) (hs1 : s < 1125899906842624) (h0 : lo ≤ a) (h1 : b ≤ c) (h2 : d ≤ hi) (h3 : a ≤ b) (h4 : c ≤ d) (hF : Forest 52 w a b f n U W) (hX : Forest 54 w c d x n U W) (hg : Good U) (hn : n ≤ 300) (hn0 : 0 < n) :
    Calls Try.prog 28 #[.pointer (some ⟨f, 0, none⟩), .pointer (some ⟨x, 0, none⟩), .int .i64 s, .int .i64 n, .int .i64 raw] w fun e w' => e = .returned (.bool true) ∧ Pair w' lo hi f x n ∧ Rng lo hi w w' := by
  have hk0 := tdiv_rng s 16 hs0 (by omega)
  have hk1 := emod_rng (s.tdiv 16) n hk0.1 (by omega)
  have hk2 := tdiv_rng (s.tdiv 16) n hk0.1 (by omega)
  have hk3 := emod_rng ((s.tdiv 16).tdiv n) n hk2.1 (by omega)
  have hk4 := tdiv_rng (s.tdiv 16) 53 hk0.1 (by omega)
  have hk5 := emod_rng ((s.tdiv 16).tdiv 53) 3 hk4.1 (by omega)
  have hk6 := tdiv_rng (s.tdiv 16) 900 hk0.1 (by omega)
  have hk7 := emod_rng ((s.tdiv 16).tdiv 900) 21 hk6.1 (by omega)
  have hk8 := emod_rng s 16 hs0 (by omega)
  have hk9 := emod_rng (s.tdiv 16) 53 hk0.1 (by omega)
  have hnz : ¬ (n : Int) = 0 := by omega
  go_enter Try.func28, Try.ntmps28
  go_upto_if 41 with fail
  go_region
  go_upto_if 41 with fail
  go_cut [12] from 29 (fun s12 wx => (∃ v, s12 = .int .i64 v) ∧ Forest 52 wx a b f n U W ∧ Forest 54 wx c d x n U W ∧ Rng lo hi w wx)
  case first =>
    cases hb : (s.tdiv 16 % 53 == 0)
    · go_wp2_with fail
      go_meet
      case rel => exact ⟨⟨_, rfl⟩, both_kept hF hX (by repeat (first | exact Rng.refl _ _ _ | apply Rng.drew | apply Rng.alloc))⟩
    · rcases (by omega : (s.tdiv 16).tdiv 53 % 3 = 0 ∨ (s.tdiv 16).tdiv 53 % 3 = 1 ∨ (s.tdiv 16).tdiv 53 % 3 = 2) with h | h | h
      · go_wp2_with fail
        go_meet
        case rel => exact ⟨⟨_, rfl⟩, both_kept hF hX (by repeat (first | exact Rng.refl _ _ _ | apply Rng.drew | apply Rng.alloc))⟩
      · go_wp2_with fail
        go_meet
        case rel => exact ⟨⟨_, rfl⟩, both_kept hF hX (by repeat (first | exact Rng.refl _ _ _ | apply Rng.drew | apply Rng.alloc))⟩
      · go_wp2_with fail
        go_meet
        case rel => exact ⟨⟨_, rfl⟩, both_kept hF hX (by repeat (first | exact Rng.refl _ _ _ | apply Rng.drew | apply Rng.alloc))⟩
  case rest =>
    clear hF hX
    obtain ⟨⟨v, rfl⟩, hF, hX, hR⟩ := hcut
    have hr : s % 16 = 0 ∨ s % 16 = 1 ∨ s % 16 = 2 ∨ s % 16 = 3 ∨ s % 16 = 4 ∨ s % 16 = 5 ∨ s % 16 = 6 ∨ s % 16 = 7 ∨ s % 16 = 8 ∨ s % 16 = 9 ∨ s % 16 = 10 ∨ s % 16 = 11 ∨ s % 16 = 12 ∨ s % 16 = 13 ∨ s % 16 = 14 ∨ s % 16 = 15 := by omega
    rcases hr with h | h | h | h | h | h | h | h | h | h | h | h | h | h | h | h
    · go_wp2_with fail
      refine (p_link _ _ _ hF hg).mono ?_
      rintro e w1 ⟨rfl, hF1, hR1⟩
      have hX1 := hX.other hR1 (.inr h1)
      clear hF hX
      go_wp2_with fail
      refine (r_link _ _ _ hX1 hg).mono ?_
      rintro e w2 ⟨rfl, hX2, hR2⟩
      have hF2 := hF1.other hR2 (.inl h1)
      clear hF1 hX1
      go_wp2
      go_ret
      exact ⟨rfl, ⟨a, b, c, d, _, _, h0, h1, h2, h3, h4, hg.link _ _, hF2, hX2⟩, (hR.trans (hR1.wide h0 (by omega))).trans (hR2.wide (by omega) h2)⟩
    · go_wp2_with fail
      refine (p_link _ _ _ hF hg).mono ?_
      rintro e w1 ⟨rfl, hF1, hR1⟩
      have hX1 := hX.other hR1 (.inr h1)
      clear hF hX
      go_wp2_with fail
      refine (r_link _ _ _ hX1 hg).mono ?_
      rintro e w2 ⟨rfl, hX2, hR2⟩
      have hF2 := hF1.other hR2 (.inl h1)
      clear hF1 hX1
      go_wp2
      go_ret
      exact ⟨rfl, ⟨a, b, c, d, _, _, h0, h1, h2, h3, h4, hg.link _ _, hF2, hX2⟩, (hR.trans (hR1.wide h0 (by omega))).trans (hR2.wide (by omega) h2)⟩
    · go_wp2_with fail
      refine (p_link _ _ _ hF hg).mono ?_
      rintro e w1 ⟨rfl, hF1, hR1⟩
      have hX1 := hX.other hR1 (.inr h1)
      clear hF hX
      go_wp2_with fail
      refine (r_link _ _ _ hX1 hg).mono ?_
      rintro e w2 ⟨rfl, hX2, hR2⟩
      have hF2 := hF1.other hR2 (.inl h1)
      clear hF1 hX1
      go_wp2
      go_ret
      exact ⟨rfl, ⟨a, b, c, d, _, _, h0, h1, h2, h3, h4, hg.link _ _, hF2, hX2⟩, (hR.trans (hR1.wide h0 (by omega))).trans (hR2.wide (by omega) h2)⟩
    · go_wp2_with fail
      refine (p_link _ _ _ hF hg).mono ?_
      rintro e w1 ⟨rfl, hF1, hR1⟩
      have hX1 := hX.other hR1 (.inr h1)
      clear hF hX
      go_wp2_with fail
      refine (r_link _ _ _ hX1 hg).mono ?_
      rintro e w2 ⟨rfl, hX2, hR2⟩
      have hF2 := hF1.other hR2 (.inl h1)
      clear hF1 hX1
      go_wp2
      go_ret
      exact ⟨rfl, ⟨a, b, c, d, _, _, h0, h1, h2, h3, h4, hg.link _ _, hF2, hX2⟩, (hR.trans (hR1.wide h0 (by omega))).trans (hR2.wide (by omega) h2)⟩
    · go_wp2_with fail
      refine (p_link _ _ _ hF hg).mono ?_
      rintro e w1 ⟨rfl, hF1, hR1⟩
      have hX1 := hX.other hR1 (.inr h1)
      clear hF hX
      go_wp2_with fail
      refine (r_link _ _ _ hX1 hg).mono ?_
      rintro e w2 ⟨rfl, hX2, hR2⟩
      have hF2 := hF1.other hR2 (.inl h1)
      clear hF1 hX1
      go_wp2
      go_ret
      exact ⟨rfl, ⟨a, b, c, d, _, _, h0, h1, h2, h3, h4, hg.link _ _, hF2, hX2⟩, (hR.trans (hR1.wide h0 (by omega))).trans (hR2.wide (by omega) h2)⟩
    · go_wp2_with fail
      refine (p_cut _ hF hg).mono ?_
      rintro e w1 ⟨rfl, hF1, hR1⟩
      have hX1 := hX.other hR1 (.inr h1)
      clear hF hX
      go_wp2_with fail
      refine (r_cut _ hX1 hg).mono ?_
      rintro e w2 ⟨rfl, hX2, hR2⟩
      have hF2 := hF1.other hR2 (.inl h1)
      clear hF1 hX1
      go_wp2
      go_ret
      exact ⟨rfl, ⟨a, b, c, d, _, _, h0, h1, h2, h3, h4, hg.cut _, hF2, hX2⟩, (hR.trans (hR1.wide h0 (by omega))).trans (hR2.wide (by omega) h2)⟩
    · go_wp2_with fail
      refine (p_root _ hF hg).mono ?_
      rintro e w' ⟨rfl, rfl⟩
      go_wp2_with fail
      refine (r_root _ hX hg).mono ?_
      rintro e w' ⟨rfl, rfl⟩
      go_wp2
      go_ret
      exact ⟨rfl, ⟨a, b, c, d, _, _, h0, h1, h2, h3, h4, hg, hF, hX⟩, hR⟩
    · go_wp2_with fail
      refine (p_root _ hF hg).mono ?_
      rintro e w' ⟨rfl, rfl⟩
      go_wp2_with fail
      refine (r_root _ hX hg).mono ?_
      rintro e w' ⟨rfl, rfl⟩
      go_wp2
      go_ret
      exact ⟨rfl, ⟨a, b, c, d, _, _, h0, h1, h2, h3, h4, hg, hF, hX⟩, hR⟩
    · go_wp2_with fail
      refine (p_turn _ hF hg).mono ?_
      rintro e w1 ⟨rfl, hF1, hR1⟩
      have hX1 := hX.other hR1 (.inr h1)
      clear hF hX
      go_wp2_with fail
      refine (r_turn _ hX1 hg).mono ?_
      rintro e w2 ⟨rfl, hX2, hR2⟩
      have hF2 := hF1.other hR2 (.inl h1)
      clear hF1 hX1
      go_wp2
      go_ret
      exact ⟨rfl, ⟨a, b, c, d, _, _, h0, h1, h2, h3, h4, hg.turned _, hF2, hX2⟩, (hR.trans (hR1.wide h0 (by omega))).trans (hR2.wide (by omega) h2)⟩
    · go_wp2_with fail
      refine (p_turn _ hF hg).mono ?_
      rintro e w1 ⟨rfl, hF1, hR1⟩
      have hX1 := hX.other hR1 (.inr h1)
      clear hF hX
      go_wp2_with fail
      refine (r_turn _ hX1 hg).mono ?_
      rintro e w2 ⟨rfl, hX2, hR2⟩
      have hF2 := hF1.other hR2 (.inl h1)
      clear hF1 hX1
      go_wp2
      go_ret
      exact ⟨rfl, ⟨a, b, c, d, _, _, h0, h1, h2, h3, h4, hg.turned _, hF2, hX2⟩, (hR.trans (hR1.wide h0 (by omega))).trans (hR2.wide (by omega) h2)⟩
    · go_wp2_with fail
      refine (p_add _ _ hF hg).mono ?_
      rintro e w1 ⟨rfl, hF1, hR1⟩
      have hX1 := hX.other hR1 (.inr h1)
      clear hF hX
      go_wp2_with fail
      refine (r_add _ _ hX1 hg).mono ?_
      rintro e w2 ⟨rfl, hX2, hR2⟩
      have hF2 := hF1.other hR2 (.inl h1)
      clear hF1 hX1
      go_wp2
      go_ret
      exact ⟨rfl, ⟨a, b, c, d, _, _, h0, h1, h2, h3, h4, hg, hF2, hX2⟩, (hR.trans (hR1.wide h0 (by omega))).trans (hR2.wide (by omega) h2)⟩
    · go_wp2_with fail
      refine (p_add _ _ hF hg).mono ?_
      rintro e w1 ⟨rfl, hF1, hR1⟩
      have hX1 := hX.other hR1 (.inr h1)
      clear hF hX
      go_wp2_with fail
      refine (r_add _ _ hX1 hg).mono ?_
      rintro e w2 ⟨rfl, hX2, hR2⟩
      have hF2 := hF1.other hR2 (.inl h1)
      clear hF1 hX1
      go_wp2
      go_ret
      exact ⟨rfl, ⟨a, b, c, d, _, _, h0, h1, h2, h3, h4, hg, hF2, hX2⟩, (hR.trans (hR1.wide h0 (by omega))).trans (hR2.wide (by omega) h2)⟩
    · go_wp2_with fail
      refine (p_least _ hF hg).mono ?_
      rintro e w1 ⟨rfl, hF1, hR1⟩
      have hX1 := hX.other hR1 (.inr h1)
      clear hF hX
      go_wp2_with fail
      refine (r_least _ hX1 hg).mono ?_
      rintro e w2 ⟨rfl, hX2, hR2⟩
      have hF2 := hF1.other hR2 (.inl h1)
      clear hF1 hX1
      go_wp2
      go_ret
      exact ⟨rfl, ⟨a, b, c, d, _, _, h0, h1, h2, h3, h4, hg, hF2, hX2⟩, (hR.trans (hR1.wide h0 (by omega))).trans (hR2.wide (by omega) h2)⟩
    · go_wp2_with fail
      refine (p_least _ hF hg).mono ?_
      rintro e w1 ⟨rfl, hF1, hR1⟩
      have hX1 := hX.other hR1 (.inr h1)
      clear hF hX
      go_wp2_with fail
      refine (r_least _ hX1 hg).mono ?_
      rintro e w2 ⟨rfl, hX2, hR2⟩
      have hF2 := hF1.other hR2 (.inl h1)
      clear hF1 hX1
      go_wp2
      go_ret
      exact ⟨rfl, ⟨a, b, c, d, _, _, h0, h1, h2, h3, h4, hg, hF2, hX2⟩, (hR.trans (hR1.wide h0 (by omega))).trans (hR2.wide (by omega) h2)⟩
    · go_wp2_with fail
      refine (p_weight _ hF hg).mono ?_
      rintro e w' ⟨rfl, rfl⟩
      go_wp2_with fail
      refine (r_weight _ hX hg).mono ?_
      rintro e w' ⟨rfl, rfl⟩
      go_wp2
      go_ret
      exact ⟨rfl, ⟨a, b, c, d, _, _, h0, h1, h2, h3, h4, hg, hF, hX⟩, hR⟩
    · go_wp2_with fail
      refine (p_up _ hF hg).mono ?_
      rintro e w' ⟨rfl, rfl⟩
      go_wp2_with fail
      refine (r_up _ hX hg).mono ?_
      rintro e w' ⟨rfl, rfl⟩
      go_wp2
      go_ret
      exact ⟨rfl, ⟨a, b, c, d, _, _, h0, h1, h2, h3, h4, hg, hF, hX⟩, hR⟩
end
end Go.Proofs.Ytjicapkhlfbgjaa
