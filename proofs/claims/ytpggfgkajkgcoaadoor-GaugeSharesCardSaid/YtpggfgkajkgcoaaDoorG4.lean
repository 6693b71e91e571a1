/- Floats appended; slices.Clip, Clone of rows of floats. -/
import Derived.Test.YtpggfgkajkgcoaaDoorG3
import Derived.Test.YtpggfgkajkgcoaaDoorFc
import Derived.Deep.AppendLies
set_option linter.unusedVariables false
set_option linter.unusedSimpArgs false
namespace Go.Proofs.YtpggfgkajkgcoaaDoor
open Go.RowKit

theorem infoF : (Tryd.prog.info? 22).map (fun i => (i.zero, i.size, i.bytes)) = some (some (.float .f64 0), 1, 8) := by kernel_rfl
/-- Nil, or at the head of a block of the call's own, whatever capacity it is told with. -/
def FOwnK (w : World) (B : Nat) (v : Value) (xs : List Nat) : Prop := (v = .slice none 0 0 ∧ xs = []) ∨ ∃ g cap0 cap, v = .slice (some ⟨g, 0, none⟩) xs.length cap ∧ FOwnN w B g cap0 xs.length xs
theorem FOwn.k {w : World} {B : Nat} {v : Value} {xs : List Nat} (h : FOwn w B v xs) : FOwnK w B v xs := by
  rcases h.cases with h | ⟨g, cap, rfl, _, _, k⟩
  · exact .inl h
  · exact .inr ⟨g, cap, cap, rfl, k⟩
theorem FOwnK.row {w : World} {B : Nat} {v : Value} {xs : List Nat} (h : FOwnK w B v xs) : ∃ a cap, v = .slice a xs.length cap ∧ FRow w a xs := by
  rcases h with ⟨rfl, rfl⟩ | ⟨g, _, cap, rfl, k⟩
  · exact ⟨none, 0, rfl, FRow.nil _ _⟩
  · exact ⟨_, cap, rfl, k.row⟩
theorem FOwnK.keep {w w' : World} {B : Nat} {v : Value} {xs : List Nat} (h : FOwnK w B v xs) (hb : Below w.heap.size w w') : FOwnK w' B v xs := by
  rcases h with h | ⟨g, c, cap, e, k⟩
  · exact .inl h
  · exact .inr ⟨g, c, cap, e, k.keep hb⟩
theorem FOwnN.low {w : World} {B B' g cap n : Nat} {xs : List Nat} (h : FOwnN w B g cap n xs) (hB : B' ≤ B) : FOwnN w B' g cap n xs := by
  obtain ⟨rfl, h⟩ := h
  exact ⟨rfl, FOwn.low (xs := xs) h hB⟩
theorem FOwnK.low {w : World} {B B' : Nat} {v : Value} {xs : List Nat} (h : FOwnK w B v xs) (hB : B' ≤ B) : FOwnK w B' v xs := by
  rcases h with h | ⟨g, c, cap, e, k⟩
  · exact .inl h
  · exact .inr ⟨g, c, cap, e, k.low hB⟩
theorem frow_cells {w : World} {a : Option Addr} {xs : List Nat} (h : FRow w a xs) (hp : 0 < xs.length) : ∃ b o, a = some ⟨b, o, none⟩ ∧ b < w.heap.size ∧ ∀ j u, (flts xs)[j]? = some u → w.cell? ((⟨b, o, none⟩ : Addr).add j) = some u := by
  obtain ⟨b, o, rfl, hb, _⟩ := h 0 (by omega) (by omega)
  refine ⟨b, o, rfl, hb, fun j u hj => ?_⟩
  have hl : j < xs.length := by
    rcases Nat.lt_or_ge j xs.length with k | k
    · exact k
    · rw [List.getElem?_eq_none (by rw [flts_length]; exact k)] at hj
      cases hj
  obtain ⟨b', o', e, _, hc⟩ := h j (by omega) (by omega)
  obtain ⟨rfl, rfl⟩ : b = b' ∧ o = o' := by simpa using e
  have := flts_at (U := xs) j (by omega) (by omega)
  rw [Int.toNat_natCast] at this hc
  rw [this] at hj
  injection hj with hj
  subst hj
  by_cases e0 : j = 0
  · subst e0
    simpa [Addr.add] using hc
  · simpa [Addr.add, e0] using hc
theorem frow_new (w : World) (xs : List Nat) : FRow (w.alloc (.cells (flts xs).toArray 22)) (some ⟨w.heap.size, 0, none⟩) xs := fun i h0 h1 => by
  have hb := box_new w (flts xs).toArray 22
  refine ⟨_, _, rfl, by simp, ?_⟩
  have := hb.cell i.toNat
  rw [Nat.zero_add, this, List.getElem?_toArray, flts_at i h0 h1]
theorem fown_lit (w : World) (B : Nat) (xs : List Nat) (h : B ≤ w.heap.size) (hl : xs.length ≤ 1000) : FOwnN (w.alloc (.cells (flts xs).toArray 22)) B w.heap.size xs.length xs.length xs := by
  have := World.ownsRow_lit (base := B) (e := 22) (size := 1) w (flts xs).toArray xs.length h (by unfold maxLen; omega) (by simp [flts_length])
  exact ⟨rfl, by simpa using this⟩
theorem fapp_any {ops : Array Oper} {rest : List Oper} {o : Oper} {a : Act} {Q : Exit → Act → World → Prop} {W : World} (hgd : o.guard = none) (s x : Operand)
    (ho : o.op = .call { callee := .builtin .append, args := #[s, x], argTypes := #[25, 25] }) (B : Nat) (v : Value) (xs ys : List Nat) (hs : a.eval s = v) (hown : FOwn W B v xs)
    (ax : Option Addr) (c m : Nat) (hm : ys.length = m) (hx : a.eval x = .slice ax m c) (hr : FRow W ax ys) (hp : 0 < m) (h1 : xs.length + m ≤ 1000) (hB : B ≤ W.heap.size) (n : Nat) (hn : xs.length + m = n)
    (h : ∀ g cap w', FOwnN w' B g cap n (xs ++ ys) → W.grownBy w' v.ownBlock → (v.ownBlock = some g ∨ g = W.heap.size) → wpList Tryd.prog ops Q rest (a.put o.dst (.slice (some ⟨g, 0, none⟩) n cap)) w') :
    wpList Tryd.prog ops Q (o :: rest) a W := by
  obtain ⟨i0, hi, hz0, hz1, hz2⟩ := info_parts infoF
  subst hm
  obtain ⟨b, off, rfl, hb, hc⟩ := frow_cells hr hp
  refine wpList_plain hgd fun K hK => ?_
  refine wp_append_lies W s x 25 ho B 22 i0 (.float .f64 0) 1 8 Tryd.underlying25 hi hz0 hz1 hz2 rfl (by omega) v xs.length (flts xs) hs hown ⟨b, off, none⟩ ys.length c (flts ys) hx (by rw [flts_length, Nat.mul_one]) hc (by simp [flts, Value.oneCell']) hp (by unfold maxLen; omega) (by omega) hB _ rfl ?_
  intro g cap w' hown' hgrow hat hlt
  subst hn
  refine hK _ _ (h g cap w' ⟨by simp, ?_⟩ hgrow hat)
  rw [show flts (xs ++ ys) = flts xs ++ flts ys from by simp [flts]]
  exact hown'
theorem fbelow_app {w W w1 : World} {v : Value} {B : Nat} {xs : List Nat} (hB : Below w.heap.size w W) (ho : FOwn W B v xs) (hw : w.heap.size ≤ B) (hg : W.grownBy w1 v.ownBlock) : Below w.heap.size w w1 :=
  below_grown hB hg (fun k hk => by have := (World.ownsRow.lt ho k hk).1; omega)
section
variable {a : Option Addr} {c : Nat} {xs : List Nat} {w : World}
theorem fclip_any {v : Value} {B : Nat} (h : FOwn w B v xs) (hl : xs.length ≤ 1000) :
    Calls Tryd.prog 39 #[v] w fun e w' => ∃ v', e = .returned v' ∧ FOwnK w B v' xs ∧ w = w' := by
  rcases h.cases with ⟨rfl, rfl⟩ | ⟨g, cap, rfl, hc1, hc2, k⟩
  · go_enter Tryd.func39, Tryd.ntmps39
    go_wp2
    go_ret
    exact ⟨_, rfl, .inl ⟨rfl, rfl⟩, rfl⟩
  · have K := Bx.mk k
    unfold maxLen at hc2
    clear h k
    obtain ⟨n, hn⟩ : ∃ n, xs.length = n := ⟨_, rfl⟩
    rw [hn] at hl hc1 ⊢
    have HN := Bx.mk hn
    clear hn
    go_enter Tryd.func39, Tryd.ntmps39
    go_wp2
    refine bodyPost_ret (a := _) (results_tmp (fn := Tryd.f39) (t := 2) rfl _ _ _) rfl ?_
    exact ⟨_, rfl, .inr ⟨g, cap, n, by rw [HN.out]; rfl, K.out⟩, rfl⟩
theorem fclone_any {v : Value} {B : Nat} (h : FOwn w B v xs) (hl : xs.length ≤ 900) (hnil : xs = [] → v = .slice none 0 0) :
    Calls Tryd.prog 36 #[v] w fun e w' => ∃ v', e = .returned v' ∧ FOwn w' w.heap.size v' xs ∧ Below w.heap.size w w' := by
  rcases h.cases with ⟨rfl, rfl⟩ | ⟨g, cap, rfl, hc1, hc2, k⟩
  · have hE := fun (w : World) => Lib.run_eql_slice_nil (P := Tryd.prog) w 25 22 none 0 0 0 0 Tryd.underlying25
    go_enter Tryd.func36, Tryd.ntmps36
    go_wp2
    go_ret
    exact ⟨_, rfl, FOwn.nil _ _, Below.refl _ _⟩
  · have hp : 0 < xs.length := by
      rcases Nat.eq_zero_or_pos xs.length with h0 | h0
      · have := hnil (List.length_eq_zero_iff.1 h0)
        simp at this
      · exact h0
    have hr := k.row.keep (below_alloc (Below.refl _ _) (.cells #[] 22))
    have k0 := below_alloc (Below.refl w.heap.size w) (.cells #[] 22)
    have o0 := (fown_lit w w.heap.size [] (Nat.le_refl _) (by simp)).own
    have hE := fun (w : World) => Lib.run_eql_slice_nil (P := Tryd.prog) w 25 22 (some ⟨g, 0, none⟩) xs.length cap 0 0 Tryd.underlying25
    clear k h hnil
    go_enter Tryd.func36, Tryd.ntmps36
    go_wp2_with (at_builtin; refine fapp_any rfl (.tmp 5) (.tmp 6) rfl w.heap.size _ [] xs rfl o0 (some ⟨g, 0, none⟩) cap xs.length rfl rfl hr hp (by simp; omega) (by simp) xs.length (by simp) ?_; intro g1 p1 w1 q1 gr1 _; have b1 := fbelow_app k0 o0 (Nat.le_refl _) gr1; have q2 := Bx.mk q1; clear q1 gr1 o0 hr)
    go_ret
    exact ⟨_, rfl, q2.out.own, b1⟩
end
end Go.Proofs.YtpggfgkajkgcoaaDoor
