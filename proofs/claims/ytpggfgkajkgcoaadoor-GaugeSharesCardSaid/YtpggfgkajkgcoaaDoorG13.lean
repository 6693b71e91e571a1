/- One float more at a row of the call's own: the row as it was can still be read. -/
import Derived.Test.YtpggfgkajkgcoaaDoorG12
import Derived.Deep.RegionLawGrows
set_option linter.unusedVariables false
set_option linter.unusedSimpArgs false
namespace Go.Proofs.YtpggfgkajkgcoaaDoor
open Go.RowKit

theorem FOwn.prefix {w : World} {B g c n : Nat} {xs : List Nat} {x : Nat} (hn : xs.length = n) (h : FOwn w B (.slice (some ⟨g, 0, none⟩) (n + 1) c) (xs ++ [x])) : FOwn w B (.slice (some ⟨g, 0, none⟩) n c) xs := by
  obtain ⟨a, b⟩ := h
  rcases b with ⟨b, _⟩ | ⟨g', cap, cur, hv, hg, hh, r, s, t, u⟩
  · simp at b
  · simp only [Value.slice.injEq, Option.some.injEq, Addr.mk.injEq, and_true, true_and] at hv
    obtain ⟨rfl, -, rfl⟩ := hv
    refine ⟨by rw [flts_length, Nat.mul_one], .inr ⟨g, c, cur, by rw [hn], hg, hh, ?_, s, t, ?_⟩⟩
    · rw [List.length_append] at r; omega
    · have := congrArg (List.take xs.length) u
      rw [List.take_take, List.length_append, List.length_singleton, Nat.mul_one, Nat.min_eq_left (by omega), show flts (xs ++ [x]) = flts xs ++ flts [x] from by simp [flts], List.take_left' (flts_length xs)] at this
      rw [Nat.mul_one]
      exact this
theorem run_app_keep (W : World) (ty : TypeId) (B : Nat) (v : Value) (xs : List Nat) (hown : FOwn W B v xs) (gx : Nat) (x : Nat) (hx : FRow W (some ⟨gx, 0, none⟩) [x]) (hl : xs.length ≤ 900) (hB : B ≤ W.heap.size) (hnil : xs = [] → v = .slice none 0 0) :
    ∃ v' w', (Builtin.append_ #[25, 25] ty #[v, .slice (some ⟨gx, 0, none⟩) 1 1]).run Tryd.prog W = .ok v' w' ∧ FOwn w' B v' (xs ++ [x]) ∧ W.grownBy w' v.ownBlock ∧ FOwn w' B v xs := by
  obtain ⟨i0, hi, hz0, hz1, hz2⟩ := info_parts infoF
  obtain ⟨bx, ox, ex, _, hcx⟩ := frow_cells hx (by simp)
  obtain ⟨rfl, rfl⟩ : gx = bx ∧ 0 = ox := by simpa using ex
  obtain ⟨v', w', hrun, r1, r2, _, r4⟩ := run_append_own_at (P := Tryd.prog) W B 25 ty 22 i0 (.float .f64 0) 1 8 Tryd.underlying25 hi hz0 hz1 hz2 rfl (by omega) v xs.length (flts xs) hown ⟨gx, 0, none⟩ 1 1 (flts [x]) rfl hcx (by simp [flts, Value.oneCell']) (by unfold maxLen; omega) (by omega) hB
  have hO : FOwn w' B v' (xs ++ [x]) := by
    unfold FOwn
    rw [List.length_append, show flts (xs ++ [x]) = flts xs ++ flts [x] from by simp [flts]]
    exact r1
  refine ⟨v', w', hrun, hO, r2, ?_⟩
  rcases hown.cases with ⟨hv0, rfl⟩ | ⟨g, c, hv0, hc1, hc2, k⟩
  · rw [hv0]
    exact FOwn.nil _ _
  · subst hv0
    by_cases hroom : xs.length + 1 ≤ c
    · obtain ⟨cur, hg, hcs⟩ : ∃ cur, W.heap[g]? = some (.cells cur 22 (0, 0)) ∧ cur.size = c * 1 := by
        rcases hown.2 with ⟨h', _⟩ | ⟨g', cap', cur, h', _, hg, _, _, hs, _⟩
        · simp at h'
        · simp only [Value.slice.injEq, Option.some.injEq, Addr.mk.injEq, and_true, true_and] at h'
          obtain ⟨rfl, rfl⟩ := h'
          exact ⟨cur, hg, hs⟩
      have hr := run_append_room (P := Tryd.prog) W 25 ty 22 i0 Tryd.underlying25 hi g xs.length c cur hg ⟨gx, 0, none⟩ 1 1 (flts [x]) (by rw [hz1]; rfl) hcx (by simp [flts, Value.oneCell']) hroom (by rw [hz1, hcs]; simp [flts]; omega)
      rw [hrun] at hr
      injection hr with e1 e2
      subst e1
      exact FOwn.prefix rfl hO
    · by_cases hp : 0 < xs.length
      rotate_left
      · have := hnil (List.length_eq_zero_iff.1 (by omega))
        simp at this
      obtain ⟨b0, o0, e0, _, hc0⟩ := frow_cells k.row hp
      obtain ⟨rfl, rfl⟩ : g = b0 ∧ 0 = o0 := by simpa using e0
      obtain ⟨v2, w2, hrun2, _, q2⟩ := run_append_arg_grows (P := Tryd.prog) W 25 ty 22 i0 (.float .f64 0) 1 8 Tryd.underlying25 hi hz0 hz1 hz2 rfl (by omega) ⟨g, 0, none⟩ xs.length c (flts xs) (by rw [flts_length]; omega) hc0 ⟨gx, 0, none⟩ 1 1 (flts [x]) rfl hcx (by omega) (by unfold maxLen; omega) (by omega)
      rw [hrun] at hrun2
      injection hrun2 with e1 e2
      subst e2
      exact hown.keep (below_grown (Below.refl _ _) q2 (fun k hk => by cases hk))
theorem fapp_keep {ops : Array Oper} {rest : List Oper} {o : Oper} {a : Act} {Q : Exit → Act → World → Prop} {W : World} (hgd : o.guard = none) (s x : Operand)
    (ho : o.op = .call { callee := .builtin .append, args := #[s, x], argTypes := #[25, 25] }) (B : Nat) (v : Value) (xs : List Nat) (hs : a.eval s = v) (hown : FOwn W B v xs)
    (gx : Nat) (y : Nat) (hx : a.eval x = .slice (some ⟨gx, 0, none⟩) 1 1) (hr : FRow W (some ⟨gx, 0, none⟩) [y]) (h1 : xs.length ≤ 900) (hB : B ≤ W.heap.size) (hnil : xs = [] → v = .slice none 0 0)
    (h : ∀ v' w', FOwn w' B v' (xs ++ [y]) → W.grownBy w' v.ownBlock → FOwn w' B v xs → wpList Tryd.prog ops Q rest (a.put o.dst v') w') :
    wpList Tryd.prog ops Q (o :: rest) a W := by
  obtain ⟨v', w', hrun, r1, r2, r3⟩ := run_app_keep W o.type B v xs hown gx y hr h1 hB hnil
  refine wpList_plain hgd fun K hK => ?_
  unfold Oper.wp
  simp [execOp, ho, resolve, invoke, builtin, hs, hx, hrun, Result.andThen]
  exact hK _ _ (h v' w' r1 r2 r3)
/-- An append of one float to a row of the call's own, in a region that draws its order. -/
theorem fstep_any {ops : Array Oper} {o : Oper} {a : Act} {W : World} {K : Act → World → Prop} {Q : Exit → Act → World → Prop} {E : Prop} (hgd : o.guard = none) (s x : Operand)
    (ho : o.op = .call { callee := .builtin .append, args := #[s, x], argTypes := #[25, 25] }) (B : Nat) (v : Value) (xs ys : List Nat) (hs : a.eval s = v) (hown : FOwn W B v xs)
    (ax : Option Addr) (c m : Nat) (hm : ys.length = m) (hx : a.eval x = .slice ax m c) (hr : FRow W ax ys) (hp : 0 < m) (h1 : xs.length + m ≤ 1000) (hB : B ≤ W.heap.size) (n : Nat) (hn : xs.length + m = n)
    (h : ∀ g cap w', FOwnN w' B g cap n (xs ++ ys) → W.grownBy w' v.ownBlock → (v.ownBlock = some g ∨ g = W.heap.size) → K (a.put o.dst (.slice (some ⟨g, 0, none⟩) n cap)) w') :
    if Region.wanted o (yielded ops a.tmps) = true then Oper.wp Tryd.prog o a W K Q else E := by
  obtain ⟨i0, hi, hz0, hz1, hz2⟩ := info_parts infoF
  subst hm
  obtain ⟨b, off, rfl, hb, hc⟩ := frow_cells hr hp
  refine step_append_lies W hgd s x 25 ho B 22 i0 (.float .f64 0) 1 8 Tryd.underlying25 hi hz0 hz1 hz2 rfl (by omega) v xs.length (flts xs) hs hown ⟨b, off, none⟩ ys.length c (flts ys) hx (by rw [flts_length, Nat.mul_one]) hc (by simp [flts, Value.oneCell']) hp (by unfold maxLen; omega) (by omega) hB _ rfl ?_
  intro g cap w' hown' hgrow hat hlt
  subst hn
  refine h g cap w' ⟨by simp, ?_⟩ hgrow hat
  rw [show flts (xs ++ ys) = flts xs ++ flts ys from by simp [flts]]
  exact hown'
/-- A row of the call's own as the walk meets it: its address, length, capacity. -/
theorem FOwn.parts {w : World} {B : Nat} {v : Value} {xs : List Nat} (h : FOwn w B v xs) : ∃ a c, v = .slice a xs.length c ∧ FRow w a xs ∧ xs.length ≤ c := by
  rcases h.cases with ⟨rfl, rfl⟩ | ⟨g, cap, rfl, h1, _, k⟩
  · exact ⟨none, 0, rfl, fun i h0 h1 => by simp at h1; omega, Nat.le_refl _⟩
  · exact ⟨_, cap, rfl, k.row, h1⟩
theorem FW_snoc {xs : List Nat} {x : Nat} (h : FW xs) (hx : x < 18446744073709551616) : FW (xs ++ [x]) := by
  intro i
  rcases fd_mem_or (D := xs ++ [x]) i with m | m
  · rw [List.mem_append, List.mem_singleton] at m
    rcases m with m | m
    · obtain ⟨z, _, _, e⟩ := mem_fd m
      rw [← e]
      exact h z
    · rw [m]; exact hx
  · rw [m]; omega
theorem FW_nil : FW [] := fun i => by unfold fd; simp
end Go.Proofs.YtpggfgkajkgcoaaDoor
