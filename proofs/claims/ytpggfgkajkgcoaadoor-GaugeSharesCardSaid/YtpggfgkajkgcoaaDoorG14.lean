/- Appends of any length to a row of the call's own; the document's Same and Sort. -/
import Derived.Test.YtpggfgkajkgcoaaDoorG13
import Derived.Test.YtpggfgkajkgcoaaDoorL4
import Derived.Deep.Upon
import Derived.BigQuiet
set_option linter.unusedVariables false
set_option linter.unusedSimpArgs false
namespace Go.Proofs.YtpggfgkajkgcoaaDoor
open Go.RowKit

theorem run_app_all (W : World) (ty : TypeId) (B g0 cap0 n0 : Nat) (xs ys : List Nat) (hown : FOwnN W B g0 cap0 n0 xs) (ax : Option Addr) (c m : Nat) (hm : ys.length = m) (hr : FRow W ax ys) (h1 : n0 + m ≤ 1000) (hB : B ≤ W.heap.size) :
    ∃ g cap w', (Builtin.append_ #[25, 25] ty #[.slice (some ⟨g0, 0, none⟩) n0 cap0, .slice ax m c]).run Tryd.prog W = .ok (.slice (some ⟨g, 0, none⟩) (n0 + m) cap) w' ∧ FOwnN w' B g cap (n0 + m) (xs ++ ys) ∧ W.grownBy w' (some g0) := by
  obtain ⟨i0, hi, hz0, hz1, hz2⟩ := info_parts infoF
  subst hm
  rcases Nat.eq_zero_or_pos ys.length with h0 | hp
  · obtain rfl : ys = [] := List.length_eq_zero_iff.1 h0
    have hle : n0 ≤ cap0 := by
      rcases hown.own.2 with ⟨h', _⟩ | ⟨g', cap', cur, h', _, _, r, _⟩
      · simp at h'
      · simp only [Value.slice.injEq] at h'
        obtain ⟨_, rfl, rfl⟩ := h'
        rw [← hown.1]; exact r
    have hs : Src Tryd.prog i0.size 25 (.slice ax 0 c) 0 [] W := by
      cases ax with
      | none => exact Src.ofNil W Tryd.underlying25 c
      | some p => exact Src.ofSlice W Tryd.underlying25 p 0 c [] (by simp) (fun j u h => by simp at h) (fun u h => by simp at h)
    refine ⟨g0, cap0, W, run_append_nothing W 25 25 ty 22 i0 Tryd.underlying25 hi _ n0 cap0 hle _ hs, ?_, ⟨rfl, rfl, rfl, Nat.le_refl _, fun _ _ _ => rfl⟩⟩
    rw [List.append_nil]
    exact hown
  · obtain ⟨b, off, rfl, hb, hc⟩ := frow_cells hr hp
    obtain ⟨v', w', hrun, r1, r2, _, r4⟩ := run_append_own_at (P := Tryd.prog) W B 25 ty 22 i0 (.float .f64 0) 1 8 Tryd.underlying25 hi hz0 hz1 hz2 rfl (by omega) (.slice (some ⟨g0, 0, none⟩) n0 cap0) n0 (flts xs) hown.2 ⟨b, off, none⟩ ys.length c (flts ys) (by rw [flts_length, Nat.mul_one]) hc (by simp [flts, Value.oneCell']) (by unfold maxLen; omega) (by omega) hB
    have hO : FOwn w' B v' (xs ++ ys) := by
      unfold FOwn
      rw [List.length_append, hown.1, show flts (xs ++ ys) = flts xs ++ flts ys from by simp [flts]]
      exact r1
    rcases hO.cases with ⟨_, h'⟩ | ⟨g, cap, rfl, _, _, k⟩
    · have := congrArg List.length h'
      simp at this
      rw [this.2] at hp
      simp at hp
    · rw [List.length_append, hown.1] at hrun k
      exact ⟨g, cap, w', hrun, k, r2⟩
theorem fstep_all {ops : Array Oper} {o : Oper} {a : Act} {W : World} {K : Act → World → Prop} {Q : Exit → Act → World → Prop} {E : Prop} (hgd : o.guard = none) (s x : Operand)
    (ho : o.op = .call { callee := .builtin .append, args := #[s, x], argTypes := #[25, 25] }) (B g0 cap0 n0 : Nat) (xs ys : List Nat) (hs : a.eval s = .slice (some ⟨g0, 0, none⟩) n0 cap0) (hown : FOwnN W B g0 cap0 n0 xs)
    (ax : Option Addr) (c m : Nat) (hm : ys.length = m) (hx : a.eval x = .slice ax m c) (hr : FRow W ax ys) (h1 : n0 + m ≤ 1000) (hB : B ≤ W.heap.size) (n : Nat) (hn : n0 + m = n)
    (h : ∀ g cap w', FOwnN w' B g cap n (xs ++ ys) → W.grownBy w' (some g0) → K (a.put o.dst (.slice (some ⟨g, 0, none⟩) n cap)) w') :
    if Region.wanted o (yielded ops a.tmps) = true then Oper.wp Tryd.prog o a W K Q else E := by
  have hw : Region.wanted o (yielded ops a.tmps) = true := by simp [Region.wanted, hgd]
  rw [if_pos hw]
  obtain ⟨g, cap, w', hrun, k1, k2⟩ := run_app_all W o.type B g0 cap0 n0 xs ys hown ax c m hm hr h1 hB
  subst hn
  unfold Oper.wp
  simp [execOp, ho, resolve, invoke, builtin, hs, hx, hrun, Result.andThen]
  exact h g cap w' k1 k2
theorem fbelow_all {w W w1 : World} {B g cap n : Nat} {xs : List Nat} (hB : Below w.heap.size w W) (ho : FOwnN W B g cap n xs) (hw : w.heap.size ≤ B) (hg : W.grownBy w1 (some g)) : Below w.heap.size w w1 :=
  below_grown hB hg (fun k hk => by have := ho.rng; simp at hk; omega)
section
variable {aX aY : Option Addr} {cX cY : Nat} {xs ys : List Nat} {w : World}
set_option maxHeartbeats 1600000 in
theorem same_yes (hX : FRow w aX xs) (hY : FRow w aY ys) (wX : FW xs) (wY : FW ys) (hl : ys.length = xs.length) (hn : xs.length ≤ 100000) (H : ∀ j : Nat, j < xs.length → fsame (fd xs j) (fd ys j) = true) :
    Calls Tryd.prog 20 #[.slice aX xs.length cX, .slice aY xs.length cY] w fun e w' => e = .returned (.bool true) ∧ Below w.heap.size w w' := by
  have HH := Bx.mk H
  have WX := Bx.mk wX
  have WY := Bx.mk wY
  have HL := Bx.mk hl
  clear H wX wY hl
  go_enter Tryd.func20, Tryd.ntmps20
  go_wp2
  go_loopg [5] (xs.length + 1) (fun q y wr => ∃ i : Nat, y = .int .i64 i ∧ q = xs.length + 1 - i ∧ i ≤ xs.length ∧ Below w.heap.size w wr)
  case atStart => exact ⟨0, rfl, by omega, by omega, Below.refl _ _⟩
  case round =>
    obtain ⟨i, rfl, hq, hi, BW⟩ := hrel
    by_cases hin : i < xs.length
    · have hI : (i : Int) < xs.length := by omega
      obtain ⟨b1, o1, rfl, _, c1⟩ := (hX.keep BW) i (by omega) hI
      obtain ⟨b2, o2, rfl, _, c2⟩ := (hY.keep BW) i (by omega) (by rw [HL.out]; exact hI)
      rw [Int.toNat_natCast] at c1 c2
      have l1 := WX.out i
      have l2 := WY.out i
      have s := HH.out i hin
      have O1 := fun W => one_yes l1 l2 s W
      generalize fd xs i = x at c1 O1
      generalize fd ys i = y at c2 O1
      clear s l1 l2
      go_upto_region 6 with fail
      go_quiet ((go_at_call 26; refine (O1 _).mono ?_; rintro e w' ⟨rfl, rfl⟩; exact ⟨rfl, _, rfl⟩))
      go_wp2
      go_roundg (xs.length + 1 - (i + 1))
      case rel => exact ⟨i + 1, rfl, by omega, by omega, below_drewN BW _⟩
      case measure => omega
    · have hI : ¬ (i : Int) < xs.length := by omega
      go_wp2
      go_ret
      exact ⟨rfl, BW⟩
end
/-- One more at its place. -/
def ins (D : List Nat) (k x : Nat) : List Nat := D.take k ++ [x] ++ D.drop k
theorem ins_perm (D : List Nat) (k x : Nat) : (ins D k x).Perm (D ++ [x]) := by
  unfold ins
  have h : (D.take k ++ ([x] ++ D.drop k)).Perm (D.take k ++ (D.drop k ++ [x])) := List.Perm.append_left _ List.perm_append_comm
  rw [← List.append_assoc, ← List.append_assoc, List.take_append_drop] at h
  exact h
theorem fd_ins {D : List Nat} {k x : Nat} (hk : k ≤ D.length) (z : Int) (h0 : 0 ≤ z) : fd (ins D k x) z = if z < k then fd D z else if z = k then x else fd D (z - 1) := by
  obtain ⟨n, rfl⟩ : ∃ n : Nat, z = n := ⟨z.toNat, by omega⟩
  have hlt : (D.take k).length = k := by rw [List.length_take]; omega
  unfold fd ins
  simp only [List.getD_eq_getElem?_getD, Int.toNat_natCast, List.append_assoc]
  by_cases h1 : n < k
  · rw [if_pos (by omega), List.getElem?_append_left (by omega), List.getElem?_take, if_pos h1]
  · rw [if_neg (by omega), List.getElem?_append_right (by omega), hlt]
    by_cases h2 : n = k
    · rw [if_pos (by omega), h2, Nat.sub_self]
      rfl
    · rw [if_neg (by omega), List.getElem?_append_right (by simp; omega), List.getElem?_drop]
      congr 2
      simp
      omega
theorem ins_srt {D : List Nat} {k x : Nat} (hk : k ≤ D.length) (hs : Srt D 0 D.length) (h1 : 0 < k → fk D ((k : Int) - 1) ≤ fkey x) (h2 : k < D.length → fkey x ≤ fk D k) : Srt (ins D k x) 0 ((D.length : Int) + 1) := by
  intro z h0 hz
  unfold fk
  rw [fd_ins hk z h0, fd_ins hk (z + 1) (by omega)]
  by_cases a : z + 1 < k
  · rw [if_pos (by omega), if_pos a]
    exact hs z h0 (by omega)
  · by_cases b : z + 1 = k
    · rw [if_pos (by omega), if_neg a, if_pos b]
      have := h1 (by omega)
      rwa [show (k : Int) - 1 = z from by omega] at this
    · by_cases c : z = k
      · rw [if_neg (by omega), if_pos c, if_neg a, if_neg b, show z + 1 - 1 = z from by omega, c]
        exact h2 (by omega)
      · rw [if_neg (by omega), if_neg c, if_neg a, if_neg b]
        have := hs (z - 1) (by omega) (by omega)
        rwa [show z - 1 + 1 = z + 1 - 1 from by omega] at this
theorem ins_rel {D xs : List Nat} {k x : Nat} (hk : k ≤ D.length) (hp : D.Perm (xs.take D.length)) (px : xs.take (D.length + 1) = xs.take D.length ++ [x]) (hs : Srt D 0 D.length) (h1 : 0 < k → fk D ((k : Int) - 1) ≤ fkey x) (h2 : k < D.length → fkey x ≤ fk D k) (hf : FW D) (lx : x < 18446744073709551616) :
    (ins D k x).length = D.length + 1 ∧ (ins D k x).Perm (xs.take (D.length + 1)) ∧ Srt (ins D k x) 0 ((D.length : Int) + 1) ∧ FW (ins D k x) ∧ ins D k x ≠ [] := by
  have hl : (ins D k x).length = D.length + 1 := by rw [(ins_perm D k x).length_eq]; simp
  refine ⟨hl, ?_, ins_srt hk hs h1 h2, FW_perm (ins_perm D k x) (FW_snoc hf lx), fun e => by rw [e] at hl; simp at hl⟩
  rw [px]
  exact (ins_perm D k x).trans (hp.append_right [x])
theorem ins_length (D : List Nat) (k x : Nat) (hk : k ≤ D.length) : (ins D k x).length = D.length + 1 := by
  have := (ins_perm D k x).length_eq
  rw [this]; simp
end Go.Proofs.YtpggfgkajkgcoaaDoor
