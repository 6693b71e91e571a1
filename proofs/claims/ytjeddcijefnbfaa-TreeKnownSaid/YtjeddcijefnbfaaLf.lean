/- What is left of a net beside a tree: the program's, and the document's. -/
import Derived.Test.YtjeddcijefnbfaaTp
import Derived.Test.YtjeddcijefnbfaaSl
set_option linter.unusedVariables false
set_option linter.unusedSimpArgs false
namespace Go.Proofs.Ytjeddcijefnbfaa
open Go.RowKit

/-- Of the first k edges those of which no dart is in the row. -/
def leftTo (up : List Int) (k : Nat) : List Int := ((List.range k).map (fun i : Nat => 2 * (i : Int))).filter (fun d => !(hasB up d) && !(hasB up (d + 1)))
def leftL (T up : List Int) : List Int := leftTo up (T.length / 2)
theorem leftTo_next (up : List Int) (k : Nat) : leftTo up (k + 1) = if hasB up (2 * (k : Int)) = false ∧ hasB up (2 * (k : Int) + 1) = false then leftTo up k ++ [2 * (k : Int)] else leftTo up k := by
  unfold leftTo
  rw [List.range_succ, List.map_append, List.filter_append]
  cases h1 : hasB up (2 * (k : Int)) <;> cases h2 : hasB up (2 * (k : Int) + 1) <;> simp [h1, h2]
theorem leftTo_le (up : List Int) (k : Nat) : (leftTo up k).length ≤ k := by
  have := List.length_filter_le (fun d => !(hasB up d) && !(hasB up (d + 1))) ((List.range k).map (fun i : Nat => 2 * (i : Int)))
  simpa [leftTo] using this

set_option maxHeartbeats 1600000 in
theorem left_any {N : Int} {aT aX aC aU : Option Addr} {cT cX cC cU : Nat} {T X C up : List Int} {w : World} (hU : RowOf w aU up) (he : (T.length : Int) % 2 = 0) (hl : T.length ≤ 240) (hul : up.length ≤ 1000) :
    Calls Try.prog 19 #[(.agg #[.int .i64 N, .slice aT T.length cT, .slice aX X.length cX, .slice aC C.length cC]), .slice aU up.length cU] w fun e w' => ∃ v, e = .returned v ∧ OwnK w' w.heap.size v (leftL T up) ∧ Below w.heap.size w w' := by
  have hB := below_alloc (Below.refl w.heap.size w) (.cells #[.int .i64 N, .slice aT T.length cT, .slice aX X.length cX, .slice aC C.length cC] 25)
  have hbox := box_new w #[.int .i64 N, .slice aT T.length cT, .slice aX X.length cX, .slice aC C.length cC] 25
  obtain ⟨x, hx⟩ : ∃ x, T.length = x := ⟨_, rfl⟩
  rw [hx] at hB hbox he hl ⊢
  have HX := Bx.mk hx
  clear hx
  have hq00 : ∀ w : World, (Op.equalIn 10000 49 (.agg #[.bool false, .bool false]) (.agg #[.bool false, .bool false])).run Try.prog w = .ok true w := fun _ => by kernel_rfl
  have hq01 : ∀ w : World, (Op.equalIn 10000 49 (.agg #[.bool false, .bool true]) (.agg #[.bool false, .bool false])).run Try.prog w = .ok false w := fun _ => by kernel_rfl
  have hq10 : ∀ w : World, (Op.equalIn 10000 49 (.agg #[.bool true, .bool false]) (.agg #[.bool false, .bool false])).run Try.prog w = .ok false w := fun _ => by kernel_rfl
  have hq11 : ∀ w : World, (Op.equalIn 10000 49 (.agg #[.bool true, .bool true]) (.agg #[.bool false, .bool false])).run Try.prog w = .ok false w := fun _ => by kernel_rfl
  go_enter Try.func19, Try.ntmps19
  go_wp2
  go_loopg [5, 6] (x + 1) (fun q v5 v6 wr => ∃ (k : Nat) (e : Int), v6 = .int .i64 e ∧ 0 ≤ e ∧ e = 2 * (k : Int) ∧ q = x + 1 - k ∧ 2 * k ≤ x ∧ Own wr (w.heap.size + 1) v5 (leftTo up k) ∧ BoxN wr w.heap.size #[.int .i64 N, .slice aT x cT, .slice aX X.length cX, .slice aC C.length cC] 25 ∧ Below w.heap.size w wr)
  case atStart => exact ⟨0, 0, rfl, by omega, rfl, by omega, by omega, Own.nil _ _, hbox, hB⟩
  case round =>
    clear hbox hB
    obtain ⟨k, e, rfl, he0, hek, hq, hk, hown, hbox, hB⟩ := hrel
    have b1 := hbox.cell 1
    have hle := leftTo_le up k
    by_cases hlt : e < x
    · have HEK := Bx.mk hek
      have hU2 := hU.keep hB
      have NX := Bx.mk (leftTo_next up k)
      have C1 := contains_any (c := cU) e hU2 hul
      have C2 := contains_any (c := cU) (e + 1) hU2 hul
      have he2 : e ≤ 238 ∧ 2 * k + 2 ≤ x := by omega
      clear hek
      go_wp2_with fail
      refine C1.mono ?_
      rintro r1 w' ⟨rfl, rfl⟩
      go_wp2_with fail
      refine C2.mono ?_
      rintro r1 w' ⟨rfl, rfl⟩
      clear C1 C2
      rw [← HEK.out] at NX
      obtain ⟨p, hp⟩ : ∃ p, hasB up e = p := ⟨_, rfl⟩
      obtain ⟨p2, hp2⟩ : ∃ p2, hasB up (e + 1) = p2 := ⟨_, rfl⟩
      rw [hp, hp2] at NX ⊢
      clear hp hp2
      cases p <;> cases p2
      · have hown1 := hown.keep (below_alloc (Below.refl _ _) (.cells #[.bool false, .bool false] 49))
        have hbox1 := hbox.keep (below_alloc (Below.refl _ _) (.cells #[.bool false, .bool false] 49))
        have hB1 := below_alloc hB (.cells #[.bool false, .bool false] 49)
        go_upto_region 7 with fail
        generalize wr.alloc (.cells #[.bool false, .bool false] 49) = W2 at hown1 hbox1 hB1 ⊢
        have hown2 := hown1.keep (below_alloc (Below.refl _ _) (.cells #[.int .i64 e] 3))
        have hbox2 := hbox1.keep (below_alloc (Below.refl _ _) (.cells #[.int .i64 e] 3))
        have hB2 := below_alloc hB1 (.cells #[.int .i64 e] 3)
        have hl1 := hbox1.lt
        have n1 := row_new W2 [e]
        clear hown hbox hB hown1 hbox1 hB1 b1
        go_wp2_with (at_builtin; refine app_any rfl (.tmp 26) (.tmp 28) rfl (w.heap.size + 1) _ (leftTo up k) [e] rfl hown2 (some ⟨W2.heap.size, 0, none⟩) 1 1 rfl rfl n1 (by omega) (by omega) (by simp; omega) ((leftTo up k).length + 1) rfl ?_; intro g cap w5 q5 gr5 _; have B5 := below_app hB2 hown2 (by omega) gr5; have X5 := hbox2.grown gr5 (Own.block hown2 (by omega)); have Q5 := Bx.mk q5; clear hown2 q5 gr5 hbox2 hB2 n1)
        go_roundg (x + 1 - (k + 1))
        case rel => exact ⟨k + 1, e + 2, rfl, by omega, by have := HEK.out; omega, rfl, by omega, (by
          have h := Q5.out.own
          rw [NX.out, if_pos (by simp)]
          exact h), X5, B5⟩
        case measure => omega
      all_goals
        go_wp2
        go_roundg (x + 1 - (k + 1))
        case rel => exact ⟨k + 1, e + 2, rfl, by omega, by have := HEK.out; omega, rfl, by omega, by rw [NX.out, if_neg (by simp)]; exact hown.keep (below_alloc (Below.refl _ _) _), hbox.keep (below_alloc (Below.refl _ _) _), below_alloc hB _⟩
        case measure => omega
    · have e1 : leftL T up = leftTo up k := by rw [leftL, HX.out, show x / 2 = k from by omega]
      have E1 := Bx.mk e1
      have HEK := Bx.mk hek
      clear e1 hek
      go_wp2_with fail
      refine (clip_any hown (by omega)).mono ?_
      rintro r1 w' ⟨v', rfl, hv, rfl⟩
      go_wp2
      go_ret
      exact ⟨v', rfl, by rw [E1.out]; exact hv.low (by omega), hB⟩

/-- Is one of the first k of a row e, or e + 1? -/
def isB (up : List Int) (e : Int) (k : Nat) : Bool := hasB (up.take k) e || hasB (up.take k) (e + 1)
theorem isB_next {up : List Int} {e : Int} {k : Nat} (h : k < up.length) : isB up e (k + 1) = (isB up e k || rd up k == e || rd up k == e + 1) := by
  have e1 : rd up k = up[k] := by simp [rd, List.getD_eq_getElem?_getD, List.getElem?_eq_getElem h]
  unfold isB hasB
  rw [List.take_add_one, List.getElem?_eq_getElem h, e1]
  simp only [Option.toList_some, List.mem_append, List.mem_singleton, Bool.decide_or]
  rw [show (up[k] == e) = decide (e = up[k]) from by rw [Bool.eq_iff_iff]; constructor <;> (intro h; simp at h ⊢; exact h.symm), show (up[k] == e + 1) = decide (e + 1 = up[k]) from by rw [Bool.eq_iff_iff]; constructor <;> (intro h; simp at h ⊢; exact h.symm)]
  cases decide (e ∈ List.take k up) <;> cases decide (e + 1 ∈ List.take k up) <;> cases decide (e = up[k]) <;> cases decide (e + 1 = up[k]) <;> rfl
theorem isB_all {up : List Int} {e : Int} {k : Nat} (h : up.length ≤ k) : isB up e k = (hasB up e || hasB up (e + 1)) := by
  unfold isB
  rw [List.take_of_length_le h]

set_option maxHeartbeats 1600000 in
theorem rleft_any {N : Int} {aT aX aC aU : Option Addr} {cT cX cC cU : Nat} {T X C up : List Int} {w : World} (hU : RowOf w aU up) (he : (T.length : Int) % 2 = 0) (hl : T.length ≤ 240) (hul : up.length ≤ 1000) :
    Calls Try.prog 20 #[(.agg #[.int .i64 N, .slice aT T.length cT, .slice aX X.length cX, .slice aC C.length cC]), .slice aU up.length cU] w fun e w' => ∃ v, e = .returned v ∧ Own w' w.heap.size v (leftL T up) ∧ Below w.heap.size w w' := by
  have hB := below_alloc (Below.refl w.heap.size w) (.cells #[.int .i64 N, .slice aT T.length cT, .slice aX X.length cX, .slice aC C.length cC] 25)
  have hbox := box_new w #[.int .i64 N, .slice aT T.length cT, .slice aX X.length cX, .slice aC C.length cC] 25
  obtain ⟨x, hx⟩ : ∃ x, T.length = x := ⟨_, rfl⟩
  obtain ⟨u, hu⟩ : ∃ u, up.length = u := ⟨_, rfl⟩
  rw [hx] at hB hbox he hl ⊢
  rw [hu] at hul ⊢
  have HX := Bx.mk hx
  have HU := Bx.mk hu
  clear hx hu
  go_enter Try.func20, Try.ntmps20
  go_wp2
  go_loopg [5, 6] (x + 1) (fun q v5 v6 wr => ∃ (k : Nat) (e : Int), v6 = .int .i64 e ∧ 0 ≤ e ∧ e = 2 * (k : Int) ∧ q = x + 1 - k ∧ 2 * k ≤ x ∧ Own wr (w.heap.size + 1) v5 (leftTo up k) ∧ BoxN wr w.heap.size #[.int .i64 N, .slice aT x cT, .slice aX X.length cX, .slice aC C.length cC] 25 ∧ Below w.heap.size w wr)
  case atStart => exact ⟨0, 0, rfl, by omega, rfl, by omega, by omega, Own.nil _ _, hbox, hB⟩
  case round =>
    clear hbox hB
    obtain ⟨k, e, rfl, he0, hek, hq, hk, hown, hbox, hB⟩ := hrel
    have b1 := hbox.cell 1
    have hle := leftTo_le up k
    by_cases hlt : e < x
    · have HEK := Bx.mk hek
      have hU2 := hU.keep hB
      have NX0 := leftTo_next up k
      have he2 : e ≤ 238 ∧ 2 * k + 2 ≤ x := by omega
      rw [← hek] at NX0
      have NX := Bx.mk NX0
      clear hek NX0
      go_wp2
      clear b1
      go_loopg [7, 8] (u + 1) (fun q v7 v8 wx => ∃ j : Nat, v8 = .int .i64 j ∧ v7 = .bool (isB up e j) ∧ q = u + 1 - j ∧ j ≤ u ∧ Own wx (w.heap.size + 1) u5 (leftTo up k) ∧ BoxN wx w.heap.size #[.int .i64 N, .slice aT x cT, .slice aX X.length cX, .slice aC C.length cC] 25 ∧ Below w.heap.size w wx)
      case atStart => exact ⟨0, rfl, by simp [isB, hasB], by omega, by omega, hown, hbox, hB⟩
      case round =>
        clear hU2 hown hbox hB
        obtain ⟨j, rfl, rfl, hq2, hj, hown, hbox, hB⟩ := hrel
        have hU2 := hU.keep hB
        by_cases hju : j < u
        · have hjI : (j : Int) < u := by omega
          obtain ⟨b, o, rfl, _, hc⟩ := hU2 j (by omega) (by rw [HU.out]; exact hjI)
          rw [Int.toNat_natCast] at hc
          have IX := Bx.mk (isB_next (up := up) (e := e) (k := j) (by rw [HU.out]; exact hju))
          obtain ⟨p, hp⟩ : ∃ p, isB up e j = p := ⟨_, rfl⟩
          obtain ⟨d, hd⟩ : ∃ d, rd up j = d := ⟨_, rfl⟩
          rw [hp, hd] at IX
          rw [hd] at hc
          rw [hp]
          clear hp hd
          obtain ⟨q1, hq1⟩ : ∃ q1, (d == e) = q1 := ⟨_, rfl⟩
          obtain ⟨q3, hq3⟩ : ∃ q3, (d == e + 1) = q3 := ⟨_, rfl⟩
          rw [hq1, hq3] at IX
          cases p <;> cases q1 <;> cases q3
          all_goals
            go_wp2
            go_roundg (u + 1 - (j + 1))
            case rel => exact ⟨j + 1, rfl, by rw [IX.out]; rfl, rfl, by omega, hown, hbox, hB⟩
            case measure => omega
        · have hjI : ¬ (j : Int) < u := by omega
          obtain rfl : u = j := by omega
          have IA := Bx.mk (isB_all (up := up) (e := e) (k := u) (by rw [HU.out]; exact Nat.le_refl _))
          obtain ⟨p, hp⟩ : ∃ p, isB up e u = p := ⟨_, rfl⟩
          rw [hp] at IA ⊢
          clear hp
          cases p with
          | true =>
            go_wp2
            go_roundg (x + 1 - (k + 1))
            case rel => exact ⟨k + 1, e + 2, rfl, by omega, by have := HEK.out; omega, rfl, by omega, by rw [NX.out, if_neg (by have := IA.out; simp at this; intro h; rw [h.1, h.2] at this; simp at this)]; exact hown, hbox, hB⟩
            case measure => omega
          | false =>
            go_upto_region 11 with fail
            have hown2 := hown.keep (below_alloc (Below.refl _ _) (.cells #[.int .i64 e] 3))
            have hbox2 := hbox.keep (below_alloc (Below.refl _ _) (.cells #[.int .i64 e] 3))
            have hB2 := below_alloc hB (.cells #[.int .i64 e] 3)
            have hl1 := hbox.lt
            have n1 := row_new wr [e]
            clear hown hbox hB
            go_wp2_with (at_builtin; refine app_any rfl (.tmp 42) (.tmp 44) rfl (w.heap.size + 1) _ (leftTo up k) [e] rfl hown2 (some ⟨wr.heap.size, 0, none⟩) 1 1 rfl rfl n1 (by omega) (by omega) (by simp; omega) ((leftTo up k).length + 1) rfl ?_; intro g cap w5 q5 gr5 _; have B5 := below_app hB2 hown2 (by omega) gr5; have X5 := hbox2.grown gr5 (Own.block hown2 (by omega)); have Q5 := Bx.mk q5; clear hown2 q5 gr5 hbox2 hB2 n1)
            go_roundg (x + 1 - (k + 1))
            case rel => exact ⟨k + 1, e + 2, rfl, by omega, by have := HEK.out; omega, rfl, by omega, (by
              have h := Q5.out.own
              rw [NX.out, if_pos (by have := IA.out; simp at this; exact this)]
              exact h), X5, B5⟩
            case measure => omega
    · have e1 : leftL T up = leftTo up k := by rw [leftL, HX.out, show x / 2 = k from by omega]
      have E1 := Bx.mk e1
      have HEK := Bx.mk hek
      clear e1 hek
      go_wp2
      go_ret
      exact ⟨_, rfl, by rw [E1.out]; exact Own.low hown (by omega), hB⟩
end Go.Proofs.Ytjeddcijefnbfaa
