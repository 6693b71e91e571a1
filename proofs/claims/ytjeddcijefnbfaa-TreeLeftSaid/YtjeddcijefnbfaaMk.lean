/- The dual, as the document makes it. -/
import Derived.Test.YtjeddcijefnbfaaT0
import Derived.Test.YtjeddcijefnbfaaTe
import Derived.Laws.AppendOwnNone
set_option linter.unusedVariables false
set_option linter.unusedSimpArgs false
namespace Go.Proofs.Ytjeddcijefnbfaa
open Go.RowKit

theorem plane_net3 (a : Option Addr) (cap : Nat) (zs : List Int) (w : World) (hz : RowOf w a zs) :
    Calls Try.prog 13 #[.slice a zs.length cap] w fun r w' => ∃ (m : Nat) (aT aX aC : Option Addr) (cT cX cC : Nat), (planeOf zs).N = m ∧ r = .returned (.agg #[.int .i64 m, .slice aT (planeOf zs).T.length cT, .slice aX (planeOf zs).X.length cX, .slice aC (planeOf zs).C.length cC]) ∧ RowOf w' aT (planeOf zs).T ∧ RowOf w' aX (planeOf zs).X ∧ Own w' w.heap.size (.slice aC (planeOf zs).C.length cC) (planeOf zs).C ∧ Below w.heap.size w w' := by
  refine (plane_any a cap zs w hz).mono ?_
  rintro r w' ⟨vT, vX, vC, rfl, oT, oX, oC, hB⟩
  obtain ⟨aT, cT, rfl, rT⟩ := oT.row
  obtain ⟨aX, cX, rfl, rX⟩ := oX.row
  obtain ⟨aC, cC, rfl, rC⟩ := oC.row
  have hn := (plane_facts zs).1.n1
  have e : (planeOf zs).N = ((planeOf zs).N.toNat : Int) := by omega
  exact ⟨(planeOf zs).N.toNat, aT, aX, aC, cT, cX, cC, e, by rw [← e], rT, rX, oC, hB⟩
/-- A row that is the call's own, appended to another one. -/
theorem app_own {ops : Array Oper} {rest : List Oper} {o : Oper} {a : Act} {Q : Exit → Act → World → Prop} {W : World} (hgd : o.guard = none) (s x : Operand)
    (ho : o.op = .call { callee := .builtin .append, args := #[s, x], argTypes := #[22, 22] }) (B : Nat) (v : Value) (xs ys : List Int) (hs : a.eval s = v) (hown : Own W B v xs)
    (B2 : Nat) (v2 : Value) (hx : a.eval x = v2) (hr : Own W B2 v2 ys) (h1 : xs.length + ys.length ≤ 1000) (hB : B ≤ W.heap.size)
    (h : ∀ ag c w', Own w' B (.slice ag (xs.length + ys.length) c) (xs ++ ys) → W.grownBy w' v.ownBlock → wpList Try.prog ops Q rest (a.put o.dst (.slice ag (xs.length + ys.length) c)) w') :
    wpList Try.prog ops Q (o :: rest) a W := by
  obtain ⟨i0, hi, hz0, hz1, hz2⟩ := info_parts info3
  rcases hr.cases with ⟨rfl, rfl⟩ | ⟨g, cap, rfl, hc1, hc2, k⟩
  · refine wpList_append_own_none hgd s x 22 ho B 3 i0 1 Try.underlying22 hi v xs.length (nums xs) hs hown hx ?_
    obtain ⟨ag, c, rfl, _⟩ := hown.row
    refine h ag c W (by simpa using hown) ⟨rfl, rfl, rfl, Nat.le_refl _, fun _ _ _ => rfl⟩
  · rcases Nat.eq_zero_or_pos ys.length with h0 | h0
    · have hy := List.length_eq_zero_iff.1 h0
      subst hy
      refine wpList_append_own W hgd s x 22 ho B 3 i0 (.int .i64 0) 1 8 Try.underlying22 hi hz0 hz1 hz2 rfl (by omega) v xs.length (nums xs) hs hown ⟨g, 0, none⟩ 0 cap [] hx rfl (fun j u hj => (by simp at hj)) (fun u hu => (by simp at hu)) (by unfold maxLen; omega) (by omega) hB ?_
      intro v' w' ho' hg' _
      have ho2 : Own w' B v' (xs ++ []) := by
        rw [List.append_nil]
        have h9 : w'.ownsRow B 3 1 v' xs.length (nums xs) := by simpa using ho'
        exact h9
      obtain ⟨ag, c, rfl, _⟩ := ho2.row
      have e : (xs ++ []).length = xs.length + ([] : List Int).length := by simp
      rw [e] at ho2 ⊢
      exact h ag c w' ho2 hg'
    · refine app_any hgd s x ho B v xs ys hs hown (some ⟨g, 0, none⟩) cap ys.length rfl hx k.row h0 h1 hB _ rfl ?_
      intro g' cap' w' q gr _
      exact h _ _ w' q.own gr

set_option maxHeartbeats 400000 in
theorem make_any {m : Nat} {aT aX aC : Option Addr} {cT cX cC : Nat} {T X C : List Int} {w : World} {B0 : Nat} (hT : RowOf w aT T) (hX : RowOf w aX X) (hC : Own w B0 (.slice aC C.length cC) C) (hTX : T.length = X.length) (he : (X.length : Int) % 2 = 0) (hl : X.length ≤ 240) (hCl : C.length ≤ 240) (hR : Rings X) (hf : 0 ≤ faceN X) :
    Calls Try.prog 25 #[.agg #[.int .i64 m, .slice aT T.length cT, .slice aX X.length cX, .slice aC C.length cC]] w fun r w' => ∃ (aT aX aC : Option Addr) (lT cT lX cX lC cC : Nat), r = .returned (.agg #[.int .i64 (max (faceN X) 1), .slice aT lT cT, .slice aX lX cX, .slice aC lC cC]) ∧ Below w.heap.size w w' := by
  have hb := (box_new w #[.int .i64 m, .slice aT T.length cT, .slice aX X.length cX, .slice aC C.length cC] 25).keep (below_alloc (Below.refl _ _) (.cells #[.int .i64 0, .slice none 0 0, .slice none 0 0, .slice none 0 0] 25))
  have hz := box_new (w.alloc (.cells #[.int .i64 m, .slice aT T.length cT, .slice aX X.length cX, .slice aC C.length cC] 25)) #[.int .i64 0, .slice none 0 0, .slice none 0 0, .slice none 0 0] 25
  rw [show (w.alloc (.cells #[.int .i64 m, .slice aT T.length cT, .slice aX X.length cX, .slice aC C.length cC] 25)).heap.size = w.heap.size + 1 from by simp] at hz
  have hB := below_alloc (below_alloc (Below.refl w.heap.size w) (.cells #[.int .i64 m, .slice aT T.length cT, .slice aX X.length cX, .slice aC C.length cC] 25)) (.cells #[.int .i64 0, .slice none 0 0, .slice none 0 0, .slice none 0 0] 25)
  obtain ⟨K, hK⟩ : ∃ K, max (faceN X) 1 = K := ⟨_, rfl⟩
  have HTX := Bx.mk hTX
  have hK0 : 0 ≤ K := by omega
  have HK := Bx.mk hK
  rw [hK]
  clear hTX hK
  go_enter Try.func25, Try.ntmps25
  go_upto_region 1 with fail
  obtain ⟨w1, hw1⟩ : ∃ w1, (w.alloc (.cells #[.int .i64 m, .slice aT T.length cT, .slice aX X.length cX, .slice aC C.length cC] 25)).alloc (.cells #[.int .i64 0, .slice none 0 0, .slice none 0 0, .slice none 0 0] 25) = w1 := ⟨_, rfl⟩
  rw [hw1] at hb hz hB ⊢
  clear hw1
  have FA := faces_any (w := w1) (N := m) (aT := aT) (aC := aC) (cT := cT) (cX := cX) (cC := cC) (T := T) (C := C) (hX.keep hB) HTX.out he hl hR
  rw [HK.out] at FA
  have k0 := hb.cell 0
  have k1 := hb.cell 1
  have k2 := hb.cell 2
  have k3 := hb.cell 3
  go_wp2_with fail
  refine FA.mono ?_
  rintro r w2 ⟨vF, rfl, oF, hB1⟩
  obtain ⟨aF, cF, rfl, rF⟩ := oF.row
  have hb2 := hb.keep hB1
  have hz2 := hz.keep hB1
  have hB2 := below_below hB hB1
  clear FA k0 k1 k2 k3 hb hz hB hB1 oF rF
  have k2 := hb2.cell 2
  have hC2 := hC.keep hB2
  have hmk : ∀ w : World, (Instr.makeSlice 22 (.int .i64 X.length) (.int .i64 X.length)).run Try.prog w = .ok (.slice (some ⟨w.heap.size, 0, none⟩) X.length X.length) (w.alloc (.cells (madeCells #[.int .i64 0] X.length) 3)) :=
    run_make_row' (P := Try.prog) 22 3 (.int .i64 0) 8 Try.underlying22 info3 rfl .i64 .i64 X.length (by omega) (by omega)
  have hown := own_made w2 w2.heap.size X.length (Nat.le_refl _) (by omega)
  have BW := below_alloc (Below.refl w2.heap.size w2) (.cells (madeCells #[.int .i64 0] X.length) 3)
  obtain ⟨gN, hgN⟩ : ∃ gN, w2.heap.size = gN := ⟨_, rfl⟩
  have hgl : w2.heap.size ≤ gN := by omega
  rw [show OwnN (w2.alloc (.cells (madeCells #[.int .i64 0] X.length) 3)) w2.heap.size w2.heap.size X.length X.length (List.replicate X.length 0) = OwnN (w2.alloc (.cells (madeCells #[.int .i64 0] X.length) 3)) w2.heap.size gN X.length X.length (List.replicate X.length 0) from by rw [hgN]] at hown
  go_upto_region 3 with fail
  generalize w2.alloc _ = w3 at hown BW ⊢
  clear hmk k2 hgN
  go_wp2
  go_loopg [6] (X.length + 1) (fun q y wr => ∃ j : Nat, y = .int .i64 j ∧ q = X.length + 1 - j ∧ j ≤ X.length ∧ (∃ D, OwnN wr w2.heap.size gN X.length X.length D) ∧ Below w2.heap.size w2 wr)
  case atStart => exact ⟨0, rfl, by omega, by omega, ⟨_, hown⟩, BW⟩
  case round =>
    clear hown BW
    obtain ⟨j, rfl, hq, hj, ⟨D, hown⟩, BW⟩ := hrel
    by_cases hjx : j < X.length
    · have hjI : (j : Int) < X.length := by omega
      have ho := ot_rng j X.length (by omega) hjI he
      have ho0 := ho.1
      have ho1 := ho.2
      have hxor := xor_one j (by omega) (by omega)
      have k2 := (hb2.keep BW).cell 2
      obtain ⟨bX, oX, rfl, _, cx⟩ := ((hX.keep hB2).keep BW) (ot j) ho.1 ho.2
      have c1 := hown.cell j (by omega) hjI
      have f1 := hown.fz j
      rw [Int.toNat_natCast] at c1 f1
      have h2 := hown.set j (rd X (ot j))
      rw [Int.toNat_natCast] at h2
      have BW2 := below_set BW (p := ⟨gN, j, none⟩) hgl (.int .i64 (rd X (ot j)))
      clear ho
      go_wp2
      go_roundg (X.length + 1 - (j + 1))
      case rel => exact ⟨j + 1, rfl, rfl, by omega, ⟨_, h2⟩, BW2⟩
      case measure => omega
    · have hjI : ¬ (j : Int) < X.length := by omega
      have k3 : (wr.alloc (.cells #[] 3)).cell? ⟨w.heap.size, 3, none⟩ = some (.slice aC C.length cC) := ((hb2.keep BW).keep (below_alloc (Below.refl _ _) _)).cell 3
      have kA := below_alloc (Below.refl wr.heap.size wr) (.cells #[] 3)
      have o0 := (own_lit wr wr.heap.size [] (Nat.le_refl _) (by simp)).own
      have hC4 := (hC2.keep BW).keep kA
      have hzr := hz2.keep BW
      go_upto_region 7 with fail
      go_wp2_with (first
        | (at_builtin; refine app_own rfl (.tmp 34) (.tmp 36) rfl wr.heap.size _ [] C rfl o0 B0 _ rfl hC4 (by simp; omega) (by simp) ?_; intro ag cg w5 q5 gr5; have B5 := below_app kA o0 (Nat.le_refl _) gr5; have z5 := hzr.keep B5; have b5 := below_below BW B5; clear q5 gr5 o0 kA hC4 k3)
        | (refine store4 (by rfl) (by rfl) (.tmp 2) (.tmp 38) (by rfl) (w.heap.size + 1) (by rfl) K aF (some ⟨gN, 0, none⟩) ag (facesOf X).length cF X.length X.length C.length cg (by rfl) _ _ _ _ 25 z5 ?_; intro w6 hb6 hg6))
      have d0 : w6.cell? ⟨w.heap.size + 1, 0, none⟩ = some (.int .i64 K) := hb6.cell 0
      have d1 : w6.cell? ⟨w.heap.size + 1, 1, none⟩ = some (.slice aF (facesOf X).length cF) := hb6.cell 1
      have d2 : w6.cell? ⟨w.heap.size + 1, 2, none⟩ = some (.slice (some ⟨gN, 0, none⟩) X.length X.length) := hb6.cell 2
      have d3 : w6.cell? ⟨w.heap.size + 1, 3, none⟩ = some (.slice ag C.length cg) := hb6.cell 3
      try simp only [Exit.inBlock, Exit.then]
      refine bodyPost_ret (v := .agg #[.int .i64 K, .slice aF (facesOf X).length cF, .slice (some ⟨gN, 0, none⟩) X.length X.length, .slice ag C.length cg]) (by simp [results, Try.results25, go_sem, d0, d1, d2, d3]) rfl ?_
      exact ⟨⟨_, _, _, _, _, _, _, _, _, rfl⟩, below_grown (below_below hB2 b5) hg6 (fun k hk => by injection hk with hk; omega)⟩
end Go.Proofs.Ytjeddcijefnbfaa
