/- slices.Index, Contains, Clip, Clone of rows of numbers. -/
import Derived.Test.YtjeddcijefnbfaaAp
import Derived.Test.YtjeddcijefnbfaaHd
set_option linter.unusedVariables false
set_option linter.unusedSimpArgs false
namespace Go.Proofs.Ytjeddcijefnbfaa
open Go.RowKit

/-- Nil, or at the head of a block of the call's own, whatever capacity it is told with. -/
def OwnK (w : World) (B : Nat) (v : Value) (xs : List Int) : Prop := (v = .slice none 0 0 ∧ xs = []) ∨ ∃ g cap0 cap, v = .slice (some ⟨g, 0, none⟩) xs.length cap ∧ OwnN w B g cap0 xs.length xs
theorem Own.k {w : World} {B : Nat} {v : Value} {xs : List Int} (h : Own w B v xs) : OwnK w B v xs := by
  rcases h.cases with h | ⟨g, cap, rfl, _, _, k⟩
  · exact .inl h
  · exact .inr ⟨g, cap, cap, rfl, k⟩
theorem OwnK.row {w : World} {B : Nat} {v : Value} {xs : List Int} (h : OwnK w B v xs) : ∃ a cap, v = .slice a xs.length cap ∧ RowOf w a xs := by
  rcases h with ⟨rfl, rfl⟩ | ⟨g, _, cap, rfl, k⟩
  · exact ⟨none, 0, rfl, RowOf.nil _ _⟩
  · exact ⟨_, cap, rfl, k.row⟩
theorem OwnK.keep {w w' : World} {B : Nat} {v : Value} {xs : List Int} (h : OwnK w B v xs) (hb : Below w.heap.size w w') : OwnK w' B v xs := by
  rcases h with h | ⟨g, c, cap, e, k⟩
  · exact .inl h
  · exact .inr ⟨g, c, cap, e, k.keep hb⟩
theorem OwnN.low {w : World} {B B' g cap n : Nat} {xs : List Int} (h : OwnN w B g cap n xs) (hB : B' ≤ B) : OwnN w B' g cap n xs := by
  obtain ⟨rfl, h⟩ := h
  exact ⟨rfl, Own.low (xs := xs) h hB⟩
theorem OwnK.low {w : World} {B B' : Nat} {v : Value} {xs : List Int} (h : OwnK w B v xs) (hB : B' ≤ B) : OwnK w B' v xs := by
  rcases h with h | ⟨g, c, cap, e, k⟩
  · exact .inl h
  · exact .inr ⟨g, c, cap, e, k.low hB⟩
def hasB (xs : List Int) (x : Int) : Bool := decide (x ∈ xs)

section
variable {a : Option Addr} {c : Nat} {xs : List Int} {w : World}
theorem index_any (x : Int) (h : RowOf w a xs) (hl : xs.length ≤ 1000) :
    Calls Try.prog 44 #[.slice a xs.length c, .int .i64 x] w fun e w' => ∃ i : Int, e = .returned (.int .i64 i) ∧ (0 ≤ i ↔ x ∈ xs) ∧ w = w' := by
  obtain ⟨n, hn⟩ : ∃ n, xs.length = n := ⟨_, rfl⟩
  have HN := Bx.mk hn
  rw [hn] at hl ⊢
  clear hn
  go_enter Try.func44, Try.ntmps44
  go_wp2
  go_loopg [8] (n + 1) (fun q y wr => ∃ i : Nat, y = .int .i64 i ∧ q = n + 1 - i ∧ i ≤ n ∧ wr = w ∧ ∀ j : Int, 0 ≤ j → j < i → rd xs j ≠ x)
  case atStart => exact ⟨0, rfl, by omega, by omega, rfl, fun j h0 h1 => by omega⟩
  case round =>
    obtain ⟨i, rfl, hq, hi, rfl, hne⟩ := hrel
    have NE := Bx.mk hne
    clear hne
    by_cases hin : i < n
    · have hI : (i : Int) < n := by omega
      obtain ⟨b, o, rfl, _, hc⟩ := h i (by omega) (by rw [HN.out]; exact hI)
      rw [Int.toNat_natCast] at hc
      by_cases e : x = rd xs i
      · have hb : (x == rd xs i) = true := by simpa using e
        have M := Bx.mk (show x ∈ xs by rw [e]; exact rd_mem (by omega) (by rw [HN.out]; exact hI))
        clear e
        go_wp2
        go_ret
        exact ⟨i, rfl, ⟨fun _ => M.out, fun _ => by omega⟩, rfl⟩
      · have hb : (x == rd xs i) = false := by simpa using e
        have E := Bx.mk e
        clear e
        go_wp2
        go_roundg (n + 1 - (i + 1))
        case rel => exact ⟨i + 1, rfl, rfl, by omega, rfl, fun j h0 h1 => (by
          by_cases hj : j = i
          · rw [hj]
            exact fun h => E.out h.symm
          · exact NE.out j h0 (by omega))⟩
        case measure => omega
    · have hI : ¬ (i : Int) < n := by omega
      go_wp2
      go_ret
      refine ⟨-1, rfl, ⟨fun h => by omega, fun h => ?_⟩, rfl⟩
      obtain ⟨j, h0, h1, h2⟩ := List.mem_iff_getElem.1 h |>.elim fun j hj => (⟨(j : Int), by omega, by obtain ⟨hj, _⟩ := hj; omega, by obtain ⟨hj, e⟩ := hj; simp [rd, List.getD_eq_getElem?_getD, List.getElem?_eq_getElem hj, e]⟩ : ∃ j : Int, 0 ≤ j ∧ j < xs.length ∧ rd xs j = x)
      exact absurd h2 (NE.out j h0 (by have := HN.out; omega))
theorem contains_any (x : Int) (h : RowOf w a xs) (hl : xs.length ≤ 1000) :
    Calls Try.prog 35 #[.slice a xs.length c, .int .i64 x] w fun e w' => e = .returned (.bool (hasB xs x)) ∧ w = w' := by
  go_enter Try.func35, Try.ntmps35
  go_wp2_with fail
  refine (index_any x h hl).mono ?_
  rintro e w' ⟨i, rfl, hi, rfl⟩
  have HI := Bx.mk hi
  clear hi
  by_cases hp : 0 ≤ i
  · go_wp2
    go_ret
    exact ⟨by rw [show hasB xs x = true from decide_eq_true (HI.out.1 hp)]; rfl, rfl⟩
  · have hd : decide (0 ≤ i) = false := decide_eq_false hp
    go_wp2
    go_ret
    exact ⟨by rw [show hasB xs x = false from decide_eq_false (fun m => by have := HI.out.2 m; omega)]; rfl, rfl⟩
theorem clip_any {v : Value} {B : Nat} (h : Own w B v xs) (hl : xs.length ≤ 1000) :
    Calls Try.prog 36 #[v] w fun e w' => ∃ v', e = .returned v' ∧ OwnK w B v' xs ∧ w = w' := by
  rcases h.cases with ⟨rfl, rfl⟩ | ⟨g, cap, rfl, hc1, hc2, k⟩
  · go_enter Try.func36, Try.ntmps36
    go_wp2
    go_ret
    exact ⟨_, rfl, .inl ⟨rfl, rfl⟩, rfl⟩
  · have K := Bx.mk k
    unfold maxLen at hc2
    clear h k
    obtain ⟨n, hn⟩ : ∃ n, xs.length = n := ⟨_, rfl⟩
    rw [hn] at hl hc1 ⊢
    have HN := Bx.mk hn
    clear hn
    go_enter Try.func36, Try.ntmps36
    go_wp2
    refine bodyPost_ret (a := _) (results_tmp (fn := Try.f36) (t := 2) rfl _ _ _) rfl ?_
    exact ⟨_, rfl, .inr ⟨g, cap, n, by rw [HN.out]; rfl, K.out⟩, rfl⟩
theorem clone_any {v : Value} {B : Nat} (h : Own w B v xs) (hl : xs.length ≤ 900) (hnil : xs = [] → v = .slice none 0 0) :
    Calls Try.prog 37 #[v] w fun e w' => ∃ v', e = .returned v' ∧ Own w' w.heap.size v' xs ∧ Below w.heap.size w w' := by
  rcases h.cases with ⟨rfl, rfl⟩ | ⟨g, cap, rfl, hc1, hc2, k⟩
  · have hE := fun (w : World) => Lib.run_eql_slice_nil (P := Try.prog) w 22 3 none 0 0 0 0 Try.underlying22
    go_enter Try.func37, Try.ntmps37
    go_wp2
    go_ret
    exact ⟨_, rfl, Own.nil _ _, Below.refl _ _⟩
  · have hp : 0 < xs.length := by
      rcases Nat.eq_zero_or_pos xs.length with h0 | h0
      · have := hnil (List.length_eq_zero_iff.1 h0)
        simp at this
      · exact h0
    have hr := k.row.keep (below_alloc (Below.refl _ _) (.cells #[] 3))
    have k0 := below_alloc (Below.refl w.heap.size w) (.cells #[] 3)
    have o0 := (own_lit w w.heap.size [] (Nat.le_refl _) (by simp)).own
    have hE := fun (w : World) => Lib.run_eql_slice_nil (P := Try.prog) w 22 3 (some ⟨g, 0, none⟩) xs.length cap 0 0 Try.underlying22
    clear k h hnil
    go_enter Try.func37, Try.ntmps37
    go_wp2_with (at_builtin; refine app_any rfl (.tmp 5) (.tmp 6) rfl w.heap.size _ [] xs rfl o0 (some ⟨g, 0, none⟩) cap xs.length rfl rfl hr hp (by simp; omega) (by simp) xs.length (by simp) ?_; intro g1 p1 w1 q1 gr1 _; have b1 := below_app k0 o0 (Nat.le_refl _) gr1; have q2 := Bx.mk q1; clear q1 gr1 o0 hr)
    go_ret
    exact ⟨_, rfl, q2.out.own, b1⟩
end
end Go.Proofs.Ytjeddcijefnbfaa
