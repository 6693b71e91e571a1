/- A dart laid behind another one; whether two rows are one; the darts of a face. -/
import Derived.Test.YtidcofjadlfahaaHd
set_option linter.unusedVariables false
namespace Go.Proofs.Ytidcofjadlfahaa
open Go.RowKit

/-- The dart behind one, about its face. -/
def phi (X : List Int) (e : Int) : Int := rd X (ot e)
/-- From e on by f, till d comes. -/
def Ch (f : Int → Int) (d : Int) : Int → List Int → Prop
  | e, [] => e = d
  | e, x :: l => x = e ∧ e ≠ d ∧ Ch f d (f e) l
/-- A struct in memory that nobody writes. -/
def BoxN (w : World) (b : Nat) (vs : Array Value) (t : TypeId) : Prop := w.heap[b]? = some (.cells vs t (0, 0))
section
variable {w w' : World} {b : Nat} {vs : Array Value} {t : TypeId}
theorem BoxN.lt (h : BoxN w b vs t) : b < w.heap.size := by
  unfold BoxN at h
  rcases Nat.lt_or_ge b w.heap.size with k | k
  · exact k
  · rw [Array.getElem?_eq_none k] at h
    cases h
theorem BoxN.grown (h : BoxN w b vs t) {row : Option Nat} (hg : w.grownBy w' row) (hn : row ≠ some b) : BoxN w' b vs t := by
  have hl := h.lt
  unfold BoxN at *
  rw [hg.block b hl (fun e => hn e.symm), h]
theorem BoxN.keep (h : BoxN w b vs t) (hb : Below w.heap.size w w') : BoxN w' b vs t := h.grown (grown_of hb) (by simp)
theorem BoxN.far (h : BoxN w b vs t) {p : Addr} (hp : p.block ≠ b) (u : Value) : BoxN (w.setCell p u) b vs t := by
  unfold BoxN at *
  rw [Below.heap_setCell _ _ _ _ (fun e => hp e.symm), h]
theorem BoxN.cell (h : BoxN w b vs t) (i : Nat) : w.cell? ⟨b, i, none⟩ = vs[i]? := by
  unfold BoxN at h
  simp [World.cell?, h]
theorem BoxN.fz (h : BoxN w b vs t) (i : Nat) : w.frozen? ⟨b, i, none⟩ = false := by
  unfold BoxN at h
  simp [World.frozen?, h]
theorem box_new (w : World) (vs : Array Value) (t : TypeId) : BoxN (w.alloc (.cells vs t)) w.heap.size vs t := by
  unfold BoxN World.alloc
  simp
end
theorem own_one (w : World) (B : Nat) (x : Int) (h : B ≤ w.heap.size) : Own (w.alloc (.cells #[.int .i64 x] 3)) B (.slice (some ⟨w.heap.size, 0, none⟩) 1 1) [x] := by
  have := World.ownsRow_lit (base := B) (e := 3) (size := 1) w #[.int .i64 x] 1 h (by unfold maxLen; omega) rfl
  unfold Own nums
  exact this
theorem own_app {w : World} {B : Nat} {v : Value} {xs : List Int} {x : Int} (h : w.ownsRow B 3 1 v (xs.length + 1) (nums xs ++ [.int .i64 x])) : Own w B v (xs ++ [x]) := by
  unfold Own
  rw [← nums_app, List.length_append]
  exact h
theorem Own.block {w : World} {B : Nat} {v : Value} {xs : List Int} (h : Own w B v xs) {b : Nat} (hb : b < B) : v.ownBlock ≠ some b := by
  intro e
  have := (World.ownsRow.lt h b e).1
  omega

section
variable {w w0 : World} {B g cap : Nat} {xs : List Int}
theorem lay_any (e d : Int) (h : OwnN w B g cap xs.length xs) (h0 : 0 ≤ e) (h1 : e < xs.length) (h2 : 0 ≤ d) (h3 : d < xs.length) :
    Calls Try.prog 23 #[.slice (some ⟨g, 0, none⟩) xs.length cap, .int .i64 e, .int .i64 d] w fun r w' => r = .returned (.tuple #[]) ∧ OwnN w' B g cap xs.length (st (st xs d (rd xs e)) e d) ∧ (∀ k, k ≠ g → w'.heap[k]? = w.heap[k]?) ∧ w'.os = w.os ∧ w'.tape = w.tape ∧ w'.output = w.output ∧ w'.heap.size = w.heap.size := by
  have c1 := h.cell e h0 h1
  have c2 := h.cell d h2 h3
  have f2 := h.fz d
  have hs := h.set d (rd xs e)
  have c3 := hs.cell e h0 h1
  have f3 := hs.fz e
  have H := Bx.mk (hs.set e d)
  clear h hs
  go_enter Try.func23, Try.ntmps23
  go_wp2
  try simp only [Exit.inBlock, Exit.then]
  first | refine bodyPost_end (results_none rfl _ _ _) rfl ?_ | refine bodyPost_ret (results_none rfl _ _ _) rfl ?_
  exact ⟨rfl, H.out, fun k hk => by rw [Below.heap_setCell _ _ _ _ hk, Below.heap_setCell _ _ _ _ hk], rfl, rfl, rfl, by rw [size_set, size_set]⟩
end

section
variable {w : World} {a1 a2 : Option Addr} {c1 c2 : Nat} {xs ys : List Int}
end

section
variable {N : Int} {aT aX aC : Option Addr} {cT cX cC : Nat} {T X C : List Int} {w : World}
set_option maxHeartbeats 1600000 in
theorem face_any (d : Int) (l : List Int) (hX : RowOf w aX X) (he : (X.length : Int) % 2 = 0) (hm : X.length ≤ 240) (hl : Ch (phi X) d (phi X d) l) (hin : ∀ e, e ∈ d :: l → 0 ≤ e ∧ e < X.length) (hll : l.length ≤ 240) :
    Calls Try.prog 45 #[(.agg #[.int .i64 N, .slice aT T.length cT, .slice aX X.length cX, .slice aC C.length cC]), .int .i64 d] w fun r w' => ∃ v, r = .returned v ∧ Own w' w.heap.size v (d :: l) ∧ Below w.heap.size w w' := by
  obtain ⟨i0, hi, hz0, hz1, hz2⟩ := info_parts info3
  have hd := hin d (by simp)
  have ho := ot_rng d X.length hd.1 hd.2 he
  have hx := xor_one d hd.1 (by omega)
  have hB := below_alloc (Below.refl w.heap.size w) (.cells #[.int .i64 N, .slice aT T.length cT, .slice aX X.length cX, .slice aC C.length cC] 25)
  have hbox := box_new w #[.int .i64 N, .slice aT T.length cT, .slice aX X.length cX, .slice aC C.length cC] 25
  have hB2 := below_alloc hB (.cells #[.int .i64 d] 3)
  have hbox2 := hbox.keep (below_alloc (Below.refl _ _) (.cells #[.int .i64 d] 3))
  obtain ⟨b, o, rfl, hc⟩ := hX.at hB2 (ot d) ho.1 ho.2
  have hc2 := hbox2.cell 2
  go_enter Try.func45, Try.ntmps45
  go_wp2
  go_loopg [5, 6] (l.length + 1) (fun q v5 v6 wr => ∃ (e : Int) (l1 l2 : List Int), v6 = .int .i64 e ∧ q = l2.length + 1 ∧ l = l1 ++ l2 ∧ Ch (phi X) d e l2 ∧ Own wr (w.heap.size + 1) v5 (d :: l1) ∧ BoxN wr w.heap.size #[.int .i64 N, .slice aT T.length cT, .slice (some ⟨b, o, none⟩) X.length cX, .slice aC C.length cC] 25 ∧ Below w.heap.size w wr)
  case atStart => exact ⟨phi X d, [], l, rfl, rfl, rfl, hl, by have := own_one (w.alloc (.cells #[.int .i64 N, .slice aT T.length cT, .slice (some ⟨b, o, none⟩) X.length cX, .slice aC C.length cC] 25)) (w.heap.size + 1) d (by simp); simpa using this, hbox2, hB2⟩
  case round =>
    clear hc hc2 hbox hbox2 hB hB2
    obtain ⟨e, l1, l2, rfl, hq, hll2, hch, hown, hbox, hB⟩ := hrel
    have hbc := hbox.cell 2
    cases l2 with
    | nil =>
      have hne : (e != d) = false := by simpa [Ch] using hch
      rw [List.append_nil] at hll2
      subst hll2
      clear hch
      go_wp2
      go_ret
      exact ⟨_, rfl, Own.low hown (by omega), hB⟩
    | cons x l2 =>
      obtain ⟨rfl, hne, hch⟩ := hch
      have hneb : (x != d) = true := by simpa using hne
      have hxr := hin x (by rw [hll2]; simp)
      have hox := ot_rng x X.length hxr.1 hxr.2 he
      have hxx := xor_one x hxr.1 (by omega)
      have L := Bx.mk hll2
      have hlen : l1.length + l2.length + 1 = l.length := by rw [hll2]; simp; omega
      clear hll2
      go_wp2_with (at_builtin; refine wpList_append_own _ rfl _ _ 22 rfl (w.heap.size + 1) 3 i0 (.int .i64 0) 1 8 Try.underlying22 hi hz0 hz1 hz2 rfl (by decide) _ _ _ rfl (World.ownsRow.alloc hown _) ⟨wr.heap.size, 0, none⟩ 1 1 [.int .i64 x] rfl rfl ?c1 ?c2 ?c3 ?c4 ?c5 ?_)
      case c1 => exact cell_one_new _ _ _
      case c2 => intro u hu; simp at hu; subst hu; rfl
      case c3 => simp only [List.length_cons]; unfold maxLen; omega
      case c4 => simp only [List.length_cons]; omega
      case c5 => have := hB.size; have := hbox.lt; simp; omega
      · intro v' w1 hown' hgrow _
        have hB1 := below_alloc hB (.cells #[.int .i64 x] 3)
        have hB2 := below_grown hB1 hgrow (fun k hk => by have := (World.ownsRow.lt hown k hk).1; omega)
        have hbox2 := (hbox.keep (below_alloc (Below.refl _ _) (.cells #[.int .i64 x] 3))).grown hgrow (Own.block hown (by omega))
        have hbc2 := hbox2.cell 2
        obtain ⟨b', o', e', hcx⟩ := hX.at hB2 (ot x) hox.1 hox.2
        obtain ⟨rfl, rfl⟩ : b = b' ∧ o = o' := by simpa using e'
        have hA := own_app hown'
        clear hown' hgrow
        go_wp2
        go_roundg (l2.length + 1)
        case rel => exact ⟨phi X x, l1 ++ [x], l2, rfl, rfl, by rw [L.out]; simp, hch, hA, hbox2, hB2⟩
        case measure => simp at hq; omega
end
end Go.Proofs.Ytidcofjadlfahaa
