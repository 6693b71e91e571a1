/- The making of a forest by the reference. -/
import Derived.Test.YtjicapkhlfbgjaaNp
import Derived.Test.YtjicapkhlfbgjaaHeld
import Derived.Deep.AppendLies
set_option linter.unusedSimpArgs false
set_option linter.unusedVariables false
namespace Go.Proofs.Ytjicapkhlfbgjaa
open Go.RowKit

/-- Two rows that grow beside a struct at block g. -/
structure Two (w0 W : World) (g : Nat) (f0 f1 vU vV : Value) (U V : List Value) : Prop where
  box : W.heap[g]? = some (.cells #[f0, f1] 54 (0, 0))
  ou : W.ownsRow w0.heap.size 3 1 vU U.length U
  ov : W.ownsRow w0.heap.size 3 1 vV V.length V
  ne : vU.ownBlock = none ∨ vU.ownBlock ≠ vV.ownBlock
  en : vV.ownBlock = none ∨ vV.ownBlock ≠ vU.ownBlock
  gu : some g ≠ vU.ownBlock
  gv : some g ≠ vV.ownBlock
  below : Below w0.heap.size w0 W
  ge : w0.heap.size ≤ g
section
variable {w0 W W' : World} {g : Nat} {f0 f1 vU vV : Value} {U V : List Value}
theorem Two.lt (h : Two w0 W g f0 f1 vU vV U V) : g < W.heap.size := lt_of_heap h.box
theorem Two.al (h : Two w0 W g f0 f1 vU vV U V) (o : Obj) : Two w0 (W.alloc o) g f0 f1 vU vV U V :=
  ⟨by rw [old _ _ _ h.lt]; exact h.box, h.ou.alloc o, h.ov.alloc o, h.ne, h.en, h.gu, h.gv, h.below.alloc h.below.size o, h.ge⟩
theorem Two.dr (h : Two w0 W g f0 f1 vU vV U V) : Two w0 W.drew g f0 f1 vU vV U V := ⟨h.box, h.ou, h.ov, h.ne, h.en, h.gu, h.gv, h.below.drew, h.ge⟩
theorem own_slice_block {a c n : Nat} : (Value.slice (some ⟨a, 0, none⟩) n c).ownBlock = some a := rfl
theorem Two.growU (h : Two w0 W g f0 f1 vU vV U V) {k c : Nat} {y : Value} (hg : W.grownBy W' vU.ownBlock) (ho : W'.ownsRow w0.heap.size 3 1 (.slice (some ⟨k, 0, none⟩) (U.length + 1) c) (U.length + 1) (U ++ [y]))
    (hat : vU.ownBlock = some k ∨ k = W.heap.size) : Two w0 W' g f0 f1 (.slice (some ⟨k, 0, none⟩) (U.length + 1) c) vV (U ++ [y]) V := by
  have hl : (U ++ [y]).length = U.length + 1 := by simp
  have hov : W'.ownsRow w0.heap.size 3 1 vV V.length V := h.ov.kept hg h.en
  have hk : some k ≠ vV.ownBlock := by
    rcases hat with hat | hat
    · rw [← hat]
      rcases h.ne with e | e
      · rw [hat] at e; cases e
      · exact e
    · intro e
      have := (h.ov.lt k e.symm).2
      omega
  refine ⟨(hg.block g h.lt h.gu).trans h.box, by rw [hl]; exact ho, hov, .inr ?_, .inr ?_, ?_, h.gv, h.below.grown hg h.below.size (fun q hq => (h.ou.lt q hq).1), h.ge⟩
  · rw [own_slice_block]; exact hk
  · rw [own_slice_block]; exact hk.symm
  · rw [own_slice_block]
    rcases hat with hat | hat
    · rw [← hat]; exact h.gu
    · have := h.lt
      intro e
      have := Option.some.inj e
      omega
theorem Two.growV (h : Two w0 W g f0 f1 vU vV U V) {k c : Nat} {y : Value} (hg : W.grownBy W' vV.ownBlock) (ho : W'.ownsRow w0.heap.size 3 1 (.slice (some ⟨k, 0, none⟩) (V.length + 1) c) (V.length + 1) (V ++ [y]))
    (hat : vV.ownBlock = some k ∨ k = W.heap.size) : Two w0 W' g f0 f1 vU (.slice (some ⟨k, 0, none⟩) (V.length + 1) c) U (V ++ [y]) := by
  have hl : (V ++ [y]).length = V.length + 1 := by simp
  have hou : W'.ownsRow w0.heap.size 3 1 vU U.length U := h.ou.kept hg h.ne
  have hk : some k ≠ vU.ownBlock := by
    rcases hat with hat | hat
    · rw [← hat]
      rcases h.en with e | e
      · rw [hat] at e; cases e
      · exact e
    · intro e
      have := (h.ou.lt k e.symm).2
      omega
  refine ⟨(hg.block g h.lt h.gv).trans h.box, hou, by rw [hl]; exact ho, .inr ?_, .inr ?_, h.gu, ?_, h.below.grown hg h.below.size (fun q hq => (h.ov.lt q hq).1), h.ge⟩
  · rw [own_slice_block]; exact hk.symm
  · rw [own_slice_block]; exact hk
  · rw [own_slice_block]
    rcases hat with hat | hat
    · rw [← hat]; exact h.gv
    · have := h.lt
      intro e
      have := Option.some.inj e
      omega
theorem Two.c0 (h : Two w0 W g f0 f1 vU vV U V) : W.cell? ⟨g, 0, none⟩ = some f0 := by simp [World.cell?, h.box]
theorem Two.c1 (h : Two w0 W g f0 f1 vU vV U V) : W.cell? ⟨g, 1, none⟩ = some f1 := by simp [World.cell?, h.box]
/-- A new box lies where it lay behind a row's growth. -/
theorem box_grown {k : Nat} {o : Obj} (hb : W.heap[k]? = some o) (hg : W.grownBy W' vU.ownBlock) (hn : vU.ownBlock ≠ some k) : W'.heap[k]? = some o :=
  (hg.block k (lt_of_heap hb) (fun e => hn e.symm)).trans hb
theorem fresh_box {base n : Nat} {xs : List Value} (h : W.ownsRow base 3 1 vU n xs) (k : Nat) (hk : W.heap.size ≤ k) : vU.ownBlock ≠ some k := fun e => by have := (h.lt k e).2; omega
theorem own_set {base n : Nat} {x : Value} {xs : List Value} (h : W.ownsRow base 3 1 vU n xs) {p : Addr} (hp : some p.block ≠ vU.ownBlock) : (W.setCell p x).ownsRow base 3 1 vU n xs :=
  h.kept (row := some p.block) ⟨rfl, rfl, rfl, by simp [World.setCell], fun k _ hk => Below.heap_setCell _ _ _ _ (fun e => hk (by rw [e]))⟩ (.inr hp.symm)
theorem Two.stored (h : Two w0 W g f0 f1 vU vV U V) : Two w0 ((W.setCell ⟨g, 0, none⟩ vU).setCell ⟨g, 1, none⟩ vV) g vU vV vU vV U V := by
  refine ⟨?_, own_set (own_set h.ou h.gu) h.gu, own_set (own_set h.ov h.gv) h.gv, h.ne, h.en, h.gu, h.gv, (h.below.setCell (by exact h.ge) _).setCell (by exact h.ge) _, h.ge⟩
  simp [World.setCell, Array.getElem?_modify, h.box]
theorem Two.fr (h : Two w0 W g f0 f1 vU vV U V) (j : Nat) : W.frozen? ⟨g, j, none⟩ = false := by simp [World.frozen?, h.box]
end

theorem heap_at (X : World) (o : Obj) (k : Nat) (h : k = X.heap.size) : (X.alloc o).heap[k]? = some o := by rw [h]; exact heap_new _ _
theorem heap_was (X : World) (o o' : Obj) (k : Nat) (h : X.heap[k]? = some o) : (X.alloc o').heap[k]? = some o := by rw [old _ _ _ (lt_of_heap h)]; exact h
theorem box_all {W W' : World} {v : Value} (hg : W.grownBy W' v.ownBlock) : ∀ k o, W.heap[k]? = some o → v.ownBlock ≠ some k → W'.heap[k]? = some o := fun _ _ hb hn => box_grown hb hg hn
theorem hd (W : World) (k : Nat) (o : Obj) (h : W.heap[k]? = some o) : W.drew.heap[k]? = some o := h
theorem nums_zeros_succ (x : Int) (k : Nat) : nums (zeros x k) ++ [.int .i64 x] = nums (zeros x (k + 1)) := by
  simp [nums, zeros, List.replicate_succ']
theorem nz_len (x : Int) (k : Nat) : (nums (zeros x k)).length = k := by simp [nums, zeros]

theorem Two.made {w w' : World} {m : Nat} {vU vV : Value} (h : Two w w' w.heap.size vU vV vU vV (nums (zeros (-1) m)) (nums (zeros 0 m))) (h0 : 0 < m) (hm : m ≤ 300) : Made 54 w m (.returned (.pointer (some ⟨w.heap.size, 0, none⟩))) w' := by
  have ou := h.ou
  have ov := h.ov
  rw [nz_len] at ou ov
  obtain ⟨bu, cu, rfl, gu, lu⟩ := ou.form h0
  obtain ⟨bw, cw, rfl, gw, lw⟩ := ov.form h0
  refine ⟨_, rfl, ⟨bu, bw, cu, cw, h.box, ou, ov, zeros_length _ _, zeros_length _ _, ⟨Nat.le_refl _, gu, gw⟩, ⟨h.lt, lu, lw⟩, ⟨?_, ?_, ?_⟩, Nat.le_refl _, by omega⟩, h.below⟩
  · rintro rfl
    rcases h.ne with e | e
    · cases e
    · exact e rfl
  · rintro e
    exact h.gu (by rw [e]; rfl)
  · rintro e
    exact h.gv (by rw [e]; rfl)

set_option maxHeartbeats 3200000 in
set_option maxRecDepth 100000 in
theorem r_new (m : Nat) (hm0 : 0 < m) (hm : m ≤ 300) (w : World) : Calls Try.prog 16 #[.int .i64 m] w (Made 54 w m) := by
  obtain ⟨i0, hi, hz0, hz1, hz2⟩ := info_parts info3
  have I := Bx.mk (And.intro hi (And.intro hz0 (And.intro hz1 hz2)))
  clear hi hz0 hz1 hz2
  go_enter Try.func16, Try.ntmps16
  go_wp2
  go_loopg [4] m (fun q a wr => ∃ k : Nat, q = m - k ∧ a = .int .i64 k ∧ k ≤ m ∧ ∃ vU vV, Two w wr w.heap.size vU vV vU vV (nums (zeros (-1) k)) (nums (zeros 0 k)))
  case atStart => exact ⟨0, rfl, rfl, Nat.zero_le _, _, _, heap_new _ _, World.ownsRow_nil _ _ _ _, World.ownsRow_nil _ _ _ _, .inl rfl, .inl rfl, by simp [Value.ownBlock], by simp [Value.ownBlock], (Below.refl _ _).alloc (Nat.le_refl _) _, Nat.le_refl _⟩
  case round =>
    obtain ⟨k, hq, rfl, hk, vU, vV, h⟩ := hrel
    have Q := Bx.mk hq
    clear hq
    by_cases hlt : k < m
    · have c0 := h.c0
      have c1 := h.c1
      have f0 := h.fr 0
      have f1 := h.fr 1
      have H := Bx.mk h
      obtain ⟨U, hU⟩ : ∃ U, U = nums (zeros (-1) k) := ⟨_, rfl⟩
      obtain ⟨V, hV⟩ : ∃ V, V = nums (zeros 0 k) := ⟨_, rfl⟩
      rw [← hU, ← hV] at H
      have UV := Bx.mk (And.intro hU hV)
      have hUl : U.length ≤ 300 := by rw [hU, nz_len]; omega
      have hVl : V.length ≤ 300 := by rw [hV, nz_len]; omega
      clear h hU hV
      go_wp2
      refine wp_region_L (C := fun w' => w'.cell? ⟨w.heap.size, 0, none⟩ = some vU ∧ w'.cell? ⟨w.heap.size, 1, none⟩ = some vV) (s := 16) (by kernel_rfl) ⟨H.out.dr.c0, H.out.dr.c1⟩ (fun hHeld => ?_)
      refine L_take' (i := 0) (v := ?_) rfl (by kernel_rfl) (by kernel_rfl) (by kernel_rfl) (by kernel_rfl) (fun _ _ _ h => h) (Or.inl ⟨by rfl, ?_⟩) (fun _ => hHeld) ?_
      rotate_left
      · intro w hSw
        (try dsimp only at hSw)
        go_simp
        all_goals with_reducible rfl
      try simp only [Act.put, List.setIfInBounds_toArray, List.set_cons_zero, List.set_cons_succ]
      refine L_take' (i := 1) (v := ?_) rfl (by kernel_rfl) (by kernel_rfl) (by kernel_rfl) (by kernel_rfl) (fun _ _ _ h => h) (Or.inl ⟨by rfl, ?_⟩) (fun _ => hHeld) ?_
      rotate_left
      · intro w hSw
        (try dsimp only at hSw)
        go_simp
        all_goals with_reducible rfl
      try simp only [Act.put, List.setIfInBounds_toArray, List.set_cons_zero, List.set_cons_succ]
      refine L_take' (i := 2) (v := ?_) rfl (by kernel_rfl) (by kernel_rfl) (by kernel_rfl) (by kernel_rfl) (fun _ _ _ h => h) (Or.inl ⟨by rfl, ?_⟩) (fun _ => hHeld) ?_
      rotate_left
      · intro w hSw
        (try dsimp only at hSw)
        go_simp
        all_goals with_reducible rfl
      try simp only [Act.put, List.setIfInBounds_toArray, List.set_cons_zero, List.set_cons_succ]
      refine L_take' (i := 3) (v := ?_) rfl (by kernel_rfl) (by kernel_rfl) (by kernel_rfl) (by kernel_rfl) (fun _ _ _ h => h) (Or.inl ⟨by rfl, ?_⟩) (fun _ => hHeld) ?_
      rotate_left
      · intro w hSw
        (try dsimp only at hSw)
        go_simp
        all_goals with_reducible rfl
      try simp only [Act.put, List.setIfInBounds_toArray, List.set_cons_zero, List.set_cons_succ]
      refine L_take' (i := 4) (v := ?_) rfl (by kernel_rfl) (by kernel_rfl) (by kernel_rfl) (by kernel_rfl) (fun _ _ _ h => h) (Or.inl ⟨by rfl, ?_⟩) (fun _ => hHeld) ?_
      rotate_left
      · intro w hSw
        (try dsimp only at hSw)
        go_simp
        all_goals with_reducible rfl
      try simp only [Act.put, List.setIfInBounds_toArray, List.set_cons_zero, List.set_cons_succ]
      refine L_take (i := 5) (v := ?_) rfl (by kernel_rfl) (by kernel_rfl) (by kernel_rfl) (by kernel_rfl) (by kernel_rfl) (by kernel_rfl) (fun _ _ _ h => h) (Or.inl ⟨by rfl, ?_⟩) hHeld ?_
      rotate_left
      · intro w hSw
        (try dsimp only at hSw)
        go_simp
        all_goals with_reducible rfl
      try simp only [Act.put, List.setIfInBounds_toArray, List.set_cons_zero, List.set_cons_succ]
      refine L_take' (i := 8) (v := ?_) rfl (by kernel_rfl) (by kernel_rfl) (by kernel_rfl) (by kernel_rfl) (fun _ _ _ h => h) (Or.inl ⟨by rfl, ?_⟩) (fun _ => hHeld) ?_
      rotate_left
      · intro w hSw
        (try dsimp only at hSw)
        go_simp
        all_goals with_reducible rfl
      try simp only [Act.put, List.setIfInBounds_toArray, List.set_cons_zero, List.set_cons_succ]
      refine L_take' (i := 9) (v := ?_) rfl (by kernel_rfl) (by kernel_rfl) (by kernel_rfl) (by kernel_rfl) (fun _ _ _ h => h) (Or.inl ⟨by rfl, ?_⟩) (fun _ => hHeld) ?_
      rotate_left
      · intro w hSw
        (try dsimp only at hSw)
        go_simp
        all_goals with_reducible rfl
      try simp only [Act.put, List.setIfInBounds_toArray, List.set_cons_zero, List.set_cons_succ]
      refine L_take' (i := 10) (v := ?_) rfl (by kernel_rfl) (by kernel_rfl) (by kernel_rfl) (by kernel_rfl) (fun _ _ _ h => h) (Or.inl ⟨by rfl, ?_⟩) (fun _ => hHeld) ?_
      rotate_left
      · intro w hSw
        (try dsimp only at hSw)
        go_simp
        all_goals with_reducible rfl
      try simp only [Act.put, List.setIfInBounds_toArray, List.set_cons_zero, List.set_cons_succ]
      refine L_take (i := 11) (v := ?_) rfl (by kernel_rfl) (by kernel_rfl) (by kernel_rfl) (by kernel_rfl) (by kernel_rfl) (by kernel_rfl) (fun _ _ _ h => h) (Or.inl ⟨by rfl, ?_⟩) hHeld ?_
      rotate_left
      · intro w hSw
        (try dsimp only at hSw)
        go_simp
        all_goals with_reducible rfl
      try simp only [Act.put, List.setIfInBounds_toArray, List.set_cons_zero, List.set_cons_succ]
      refine L_ready (rs := [6, 12]) (by kernel_rfl) (by simp) ?_
      refine ReadyL.cons rfl (fun K hK => ?_) ?_
      · go_simp
        refine hK.out _ _ ?_ (fun hHeld => ?_)
        · first | exact ⟨H1.out.c0, H1.out.c1⟩ | exact ⟨(H1.out.al _).c0, (H1.out.al _).c1⟩ | exact ⟨(H.out.al _).dr.c0, (H.out.al _).dr.c1⟩ | exact ⟨((H.out.al _).al _).dr.c0, ((H.out.al _).al _).dr.c1⟩
        clear hK K
        try simp only [Act.put, List.setIfInBounds_toArray, List.set_cons_zero, List.set_cons_succ]
        refine L_ready (rs := [7, 12]) (by kernel_rfl) (by simp) ?_
        refine ReadyL.cons rfl (fun K hK => ?_) ?_
        · skip
          refine step_append_lies _ (by rfl) (.tmp 21) (.tmp 22) 28 (by rfl) w.heap.size 3 i0 _ 1 8 Try.underlying28 I.out.1 I.out.2.1 I.out.2.2.1 I.out.2.2.2 rfl (by omega) vU U.length U (by rfl) ?_ _ 1 1 [.int .i64 (-1)] (by rfl) (by rfl) (World.news_of_block (cs := #[.int .i64 (-1)]) (t := 3) (fr := (0, 0)) ?_) (by simp [Value.oneCell']) (by omega) (by unfold maxLen; omega) (by omega) ?_ _ rfl ?_
          · (first | exact H1.out.ou | exact (H1.out.al _).ou | exact (H.out.al _).dr.ou | exact ((H.out.al _).al _).dr.ou)
          · (first | exact heap_at _ _ _ (by simp) | exact hd _ _ _ (heap_at _ _ _ (by simp)) | exact hd _ _ _ (heap_was _ _ _ _ (heap_at _ _ _ (by simp))) | exact P1.out _ _ (heap_at _ _ _ (by simp)) (fresh_box H.out.ou _ (by simp <;> omega)) | exact P1.out _ _ (heap_at _ _ _ (by simp)) (fresh_box H.out.ov _ (by simp <;> omega)) | exact P1.out _ _ (hd _ _ _ (heap_at _ _ _ (by simp))) (fresh_box H.out.ou _ (by simp <;> omega)) | exact P1.out _ _ (hd _ _ _ (heap_at _ _ _ (by simp))) (fresh_box H.out.ov _ (by simp <;> omega)) | exact P1.out _ _ (hd _ _ _ (heap_was _ _ _ _ (heap_at _ _ _ (by simp)))) (fresh_box H.out.ou _ (by simp <;> omega)) | exact P1.out _ _ (hd _ _ _ (heap_was _ _ _ _ (heap_at _ _ _ (by simp)))) (fresh_box H.out.ov _ (by simp <;> omega)))
          · (first | exact H1.out.below.size | exact (H1.out.al _).below.size | exact (H.out.al _).dr.below.size | exact ((H.out.al _).al _).dr.below.size)
          intro gg cap w1 hown1 hgrow hat hlt
          have HN := Bx.mk (by (first | exact H1.out.growU hgrow hown1 hat | exact (H1.out.al _).growU hgrow hown1 hat | exact (H.out.al _).dr.growU hgrow hown1 hat | exact ((H.out.al _).al _).dr.growU hgrow hown1 hat))
          have P1 := Bx.mk (box_all hgrow)
          clear hown1 hgrow hat hlt
          have H1 := HN
          clear HN
          refine hK.out _ _ ?_ (fun hHeld => ?_)
          · first | exact ⟨H1.out.c0, H1.out.c1⟩ | exact ⟨(H1.out.al _).c0, (H1.out.al _).c1⟩ | exact ⟨(H.out.al _).dr.c0, (H.out.al _).dr.c1⟩ | exact ⟨((H.out.al _).al _).dr.c0, ((H.out.al _).al _).dr.c1⟩
          clear hK K
          try simp only [Act.put, List.setIfInBounds_toArray, List.set_cons_zero, List.set_cons_succ]
          refine L_ready (rs := [12]) (by kernel_rfl) (by simp) ?_
          refine ReadyL.cons rfl (fun K hK => ?_) ?_
          · go_simp
            refine hK.out _ _ ?_ (fun hHeld => ?_)
            · first | exact ⟨H1.out.c0, H1.out.c1⟩ | exact ⟨(H1.out.al _).c0, (H1.out.al _).c1⟩ | exact ⟨(H.out.al _).dr.c0, (H.out.al _).dr.c1⟩ | exact ⟨((H.out.al _).al _).dr.c0, ((H.out.al _).al _).dr.c1⟩
            clear hK K
            try simp only [Act.put, List.setIfInBounds_toArray, List.set_cons_zero, List.set_cons_succ]
            refine L_ready (rs := [13]) (by kernel_rfl) (by simp) ?_
            refine ReadyL.cons rfl (fun K hK => ?_) ?_
            · skip
              refine step_append_lies _ (by rfl) (.tmp 27) (.tmp 28) 28 (by rfl) w.heap.size 3 i0 _ 1 8 Try.underlying28 I.out.1 I.out.2.1 I.out.2.2.1 I.out.2.2.2 rfl (by omega) vV V.length V (by rfl) ?_ _ 1 1 [.int .i64 0] (by rfl) (by rfl) (World.news_of_block (cs := #[.int .i64 0]) (t := 3) (fr := (0, 0)) ?_) (by simp [Value.oneCell']) (by omega) (by unfold maxLen; omega) (by omega) ?_ _ rfl ?_
              · (first | exact H1.out.ov | exact (H1.out.al _).ov | exact (H.out.al _).dr.ov | exact ((H.out.al _).al _).dr.ov)
              · (first | exact heap_at _ _ _ (by simp) | exact hd _ _ _ (heap_at _ _ _ (by simp)) | exact hd _ _ _ (heap_was _ _ _ _ (heap_at _ _ _ (by simp))) | exact P1.out _ _ (heap_at _ _ _ (by simp)) (fresh_box H.out.ou _ (by simp <;> omega)) | exact P1.out _ _ (heap_at _ _ _ (by simp)) (fresh_box H.out.ov _ (by simp <;> omega)) | exact P1.out _ _ (hd _ _ _ (heap_at _ _ _ (by simp))) (fresh_box H.out.ou _ (by simp <;> omega)) | exact P1.out _ _ (hd _ _ _ (heap_at _ _ _ (by simp))) (fresh_box H.out.ov _ (by simp <;> omega)) | exact P1.out _ _ (hd _ _ _ (heap_was _ _ _ _ (heap_at _ _ _ (by simp)))) (fresh_box H.out.ou _ (by simp <;> omega)) | exact P1.out _ _ (hd _ _ _ (heap_was _ _ _ _ (heap_at _ _ _ (by simp)))) (fresh_box H.out.ov _ (by simp <;> omega)))
              · (first | exact H1.out.below.size | exact (H1.out.al _).below.size | exact (H.out.al _).dr.below.size | exact ((H.out.al _).al _).dr.below.size)
              intro gg cap w1 hown1 hgrow hat hlt
              have HN := Bx.mk (by (first | exact H1.out.growV hgrow hown1 hat | exact (H1.out.al _).growV hgrow hown1 hat | exact (H.out.al _).dr.growV hgrow hown1 hat | exact ((H.out.al _).al _).dr.growV hgrow hown1 hat))
              have P1 := Bx.mk (box_all hgrow)
              clear hown1 hgrow hat hlt
              have H1 := HN
              clear HN
              refine hK.out _ _ ?_ (fun hHeld => ?_)
              · first | exact ⟨H1.out.c0, H1.out.c1⟩ | exact ⟨(H1.out.al _).c0, (H1.out.al _).c1⟩ | exact ⟨(H.out.al _).dr.c0, (H.out.al _).dr.c1⟩ | exact ⟨((H.out.al _).al _).dr.c0, ((H.out.al _).al _).dr.c1⟩
              clear hK K
              try simp only [Act.put, List.setIfInBounds_toArray, List.set_cons_zero, List.set_cons_succ]
              refine L_take' (i := 14) (v := ?_) rfl (by kernel_rfl) (by kernel_rfl) (by kernel_rfl) (by kernel_rfl) (fun _ _ _ h => h) (Or.inl ⟨by rfl, ?_⟩) (fun _ => hHeld) ?_
              rotate_left
              · intro w hSw
                (try dsimp only at hSw)
                go_simp
                all_goals with_reducible rfl
              try simp only [Act.put, List.setIfInBounds_toArray, List.set_cons_zero, List.set_cons_succ]
              refine L_take' (i := 15) (v := ?_) rfl (by kernel_rfl) (by kernel_rfl) (by kernel_rfl) (by kernel_rfl) (fun _ _ _ h => h) (Or.inl ⟨by rfl, ?_⟩) (fun _ => hHeld) ?_
              rotate_left
              · intro w hSw
                (try dsimp only at hSw)
                go_simp
                all_goals with_reducible rfl
              try simp only [Act.put, List.setIfInBounds_toArray, List.set_cons_zero, List.set_cons_succ]
              have fz0 := H1.out.fr 0
              have fz1 := H1.out.fr 1
              have cc0 := H1.out.c0
              have cc1 := H1.out.c1
              refine L_ready (rs := [16]) (by kernel_rfl) (by simp) ?_
              refine ReadyL.cons' rfl (by kernel_rfl) (fun K hK => ?_) ReadyL.nil
              go_simp
              refine hK.out _ _ ?_
              clear hK K
              try simp only [Act.put, List.setIfInBounds_toArray, List.set_cons_zero, List.set_cons_succ]
              refine L_take' (i := 17) (v := ?_) rfl (by kernel_rfl) (by kernel_rfl) (by kernel_rfl) (by kernel_rfl) (fun _ _ _ h => h) (Or.inl ⟨by rfl, ?_⟩) (fun h => by cases h) ?_
              rotate_left
              · intro w hSw
                (try dsimp only at hSw)
                go_simp
                all_goals with_reducible rfl
              try simp only [Act.put, List.setIfInBounds_toArray, List.set_cons_zero, List.set_cons_succ]
              refine L_take' (i := 18) (v := ?_) rfl (by kernel_rfl) (by kernel_rfl) (by kernel_rfl) (by kernel_rfl) (fun _ _ _ h => h) (Or.inl ⟨by rfl, ?_⟩) (fun h => by cases h) ?_
              rotate_left
              · intro w hSw
                (try dsimp only at hSw)
                go_simp
                all_goals with_reducible rfl
              try simp only [Act.put, List.setIfInBounds_toArray, List.set_cons_zero, List.set_cons_succ]
              refine L_ready (rs := [19]) (by kernel_rfl) (by simp) ?_
              refine ReadyL.cons' rfl (by kernel_rfl) (fun K hK => ?_) ReadyL.nil
              go_simp
              refine hK.out _ _ ?_
              clear hK K
              try simp only [Act.put, List.setIfInBounds_toArray, List.set_cons_zero, List.set_cons_succ]
              refine L_done (by kernel_rfl) ?_ _
              clear cc0 cc1 fz0 fz1 hHeld
              have HS := Bx.mk H1.out.stored
              have EU := Bx.mk (show U ++ [.int .i64 (-1)] = nums (zeros (-1) (k + 1)) by rw [UV.out.1, nums_zeros_succ])
              have EV := Bx.mk (show V ++ [.int .i64 0] = nums (zeros 0 (k + 1)) by rw [UV.out.2, nums_zeros_succ])
              go_wp2
              have hq := Q.out
              go_roundg (m - (k + 1))
              case rel => exact ⟨k + 1, rfl, by go_num, by omega, _, _, by have h := HS.out; rw [EU.out, EV.out] at h; exact h⟩
              case measure => omega
            exact ReadyL.nil
          exact ReadyL.nil
        refine ReadyL.cons rfl (fun K hK => ?_) ?_
        · go_simp
          refine hK.out _ _ ?_ (fun hHeld => ?_)
          · first | exact ⟨H1.out.c0, H1.out.c1⟩ | exact ⟨(H1.out.al _).c0, (H1.out.al _).c1⟩ | exact ⟨(H.out.al _).dr.c0, (H.out.al _).dr.c1⟩ | exact ⟨((H.out.al _).al _).dr.c0, ((H.out.al _).al _).dr.c1⟩
          clear hK K
          try simp only [Act.put, List.setIfInBounds_toArray, List.set_cons_zero, List.set_cons_succ]
          refine L_ready (rs := [7]) (by kernel_rfl) (by simp) ?_
          refine ReadyL.cons rfl (fun K hK => ?_) ?_
          · skip
            refine step_append_lies _ (by rfl) (.tmp 21) (.tmp 22) 28 (by rfl) w.heap.size 3 i0 _ 1 8 Try.underlying28 I.out.1 I.out.2.1 I.out.2.2.1 I.out.2.2.2 rfl (by omega) vU U.length U (by rfl) ?_ _ 1 1 [.int .i64 (-1)] (by rfl) (by rfl) (World.news_of_block (cs := #[.int .i64 (-1)]) (t := 3) (fr := (0, 0)) ?_) (by simp [Value.oneCell']) (by omega) (by unfold maxLen; omega) (by omega) ?_ _ rfl ?_
            · (first | exact H1.out.ou | exact (H1.out.al _).ou | exact (H.out.al _).dr.ou | exact ((H.out.al _).al _).dr.ou)
            · (first | exact heap_at _ _ _ (by simp) | exact hd _ _ _ (heap_at _ _ _ (by simp)) | exact hd _ _ _ (heap_was _ _ _ _ (heap_at _ _ _ (by simp))) | exact P1.out _ _ (heap_at _ _ _ (by simp)) (fresh_box H.out.ou _ (by simp <;> omega)) | exact P1.out _ _ (heap_at _ _ _ (by simp)) (fresh_box H.out.ov _ (by simp <;> omega)) | exact P1.out _ _ (hd _ _ _ (heap_at _ _ _ (by simp))) (fresh_box H.out.ou _ (by simp <;> omega)) | exact P1.out _ _ (hd _ _ _ (heap_at _ _ _ (by simp))) (fresh_box H.out.ov _ (by simp <;> omega)) | exact P1.out _ _ (hd _ _ _ (heap_was _ _ _ _ (heap_at _ _ _ (by simp)))) (fresh_box H.out.ou _ (by simp <;> omega)) | exact P1.out _ _ (hd _ _ _ (heap_was _ _ _ _ (heap_at _ _ _ (by simp)))) (fresh_box H.out.ov _ (by simp <;> omega)))
            · (first | exact H1.out.below.size | exact (H1.out.al _).below.size | exact (H.out.al _).dr.below.size | exact ((H.out.al _).al _).dr.below.size)
            intro gg cap w1 hown1 hgrow hat hlt
            have HN := Bx.mk (by (first | exact H1.out.growU hgrow hown1 hat | exact (H1.out.al _).growU hgrow hown1 hat | exact (H.out.al _).dr.growU hgrow hown1 hat | exact ((H.out.al _).al _).dr.growU hgrow hown1 hat))
            have P1 := Bx.mk (box_all hgrow)
            clear hown1 hgrow hat hlt
            have H1 := HN
            clear HN
            refine hK.out _ _ ?_ (fun hHeld => ?_)
            · first | exact ⟨H1.out.c0, H1.out.c1⟩ | exact ⟨(H1.out.al _).c0, (H1.out.al _).c1⟩ | exact ⟨(H.out.al _).dr.c0, (H.out.al _).dr.c1⟩ | exact ⟨((H.out.al _).al _).dr.c0, ((H.out.al _).al _).dr.c1⟩
            clear hK K
            try simp only [Act.put, List.setIfInBounds_toArray, List.set_cons_zero, List.set_cons_succ]
            refine L_ready (rs := [13]) (by kernel_rfl) (by simp) ?_
            refine ReadyL.cons rfl (fun K hK => ?_) ?_
            · skip
              refine step_append_lies _ (by rfl) (.tmp 27) (.tmp 28) 28 (by rfl) w.heap.size 3 i0 _ 1 8 Try.underlying28 I.out.1 I.out.2.1 I.out.2.2.1 I.out.2.2.2 rfl (by omega) vV V.length V (by rfl) ?_ _ 1 1 [.int .i64 0] (by rfl) (by rfl) (World.news_of_block (cs := #[.int .i64 0]) (t := 3) (fr := (0, 0)) ?_) (by simp [Value.oneCell']) (by omega) (by unfold maxLen; omega) (by omega) ?_ _ rfl ?_
              · (first | exact H1.out.ov | exact (H1.out.al _).ov | exact (H.out.al _).dr.ov | exact ((H.out.al _).al _).dr.ov)
              · (first | exact heap_at _ _ _ (by simp) | exact hd _ _ _ (heap_at _ _ _ (by simp)) | exact hd _ _ _ (heap_was _ _ _ _ (heap_at _ _ _ (by simp))) | exact P1.out _ _ (heap_at _ _ _ (by simp)) (fresh_box H.out.ou _ (by simp <;> omega)) | exact P1.out _ _ (heap_at _ _ _ (by simp)) (fresh_box H.out.ov _ (by simp <;> omega)) | exact P1.out _ _ (hd _ _ _ (heap_at _ _ _ (by simp))) (fresh_box H.out.ou _ (by simp <;> omega)) | exact P1.out _ _ (hd _ _ _ (heap_at _ _ _ (by simp))) (fresh_box H.out.ov _ (by simp <;> omega)) | exact P1.out _ _ (hd _ _ _ (heap_was _ _ _ _ (heap_at _ _ _ (by simp)))) (fresh_box H.out.ou _ (by simp <;> omega)) | exact P1.out _ _ (hd _ _ _ (heap_was _ _ _ _ (heap_at _ _ _ (by simp)))) (fresh_box H.out.ov _ (by simp <;> omega)))
              · (first | exact H1.out.below.size | exact (H1.out.al _).below.size | exact (H.out.al _).dr.below.size | exact ((H.out.al _).al _).dr.below.size)
              intro gg cap w1 hown1 hgrow hat hlt
              have HN := Bx.mk (by (first | exact H1.out.growV hgrow hown1 hat | exact (H1.out.al _).growV hgrow hown1 hat | exact (H.out.al _).dr.growV hgrow hown1 hat | exact ((H.out.al _).al _).dr.growV hgrow hown1 hat))
              have P1 := Bx.mk (box_all hgrow)
              clear hown1 hgrow hat hlt
              have H1 := HN
              clear HN
              refine hK.out _ _ ?_ (fun hHeld => ?_)
              · first | exact ⟨H1.out.c0, H1.out.c1⟩ | exact ⟨(H1.out.al _).c0, (H1.out.al _).c1⟩ | exact ⟨(H.out.al _).dr.c0, (H.out.al _).dr.c1⟩ | exact ⟨((H.out.al _).al _).dr.c0, ((H.out.al _).al _).dr.c1⟩
              clear hK K
              try simp only [Act.put, List.setIfInBounds_toArray, List.set_cons_zero, List.set_cons_succ]
              refine L_take' (i := 14) (v := ?_) rfl (by kernel_rfl) (by kernel_rfl) (by kernel_rfl) (by kernel_rfl) (fun _ _ _ h => h) (Or.inl ⟨by rfl, ?_⟩) (fun _ => hHeld) ?_
              rotate_left
              · intro w hSw
                (try dsimp only at hSw)
                go_simp
                all_goals with_reducible rfl
              try simp only [Act.put, List.setIfInBounds_toArray, List.set_cons_zero, List.set_cons_succ]
              refine L_take' (i := 15) (v := ?_) rfl (by kernel_rfl) (by kernel_rfl) (by kernel_rfl) (by kernel_rfl) (fun _ _ _ h => h) (Or.inl ⟨by rfl, ?_⟩) (fun _ => hHeld) ?_
              rotate_left
              · intro w hSw
                (try dsimp only at hSw)
                go_simp
                all_goals with_reducible rfl
              try simp only [Act.put, List.setIfInBounds_toArray, List.set_cons_zero, List.set_cons_succ]
              have fz0 := H1.out.fr 0
              have fz1 := H1.out.fr 1
              have cc0 := H1.out.c0
              have cc1 := H1.out.c1
              refine L_ready (rs := [16]) (by kernel_rfl) (by simp) ?_
              refine ReadyL.cons' rfl (by kernel_rfl) (fun K hK => ?_) ReadyL.nil
              go_simp
              refine hK.out _ _ ?_
              clear hK K
              try simp only [Act.put, List.setIfInBounds_toArray, List.set_cons_zero, List.set_cons_succ]
              refine L_take' (i := 17) (v := ?_) rfl (by kernel_rfl) (by kernel_rfl) (by kernel_rfl) (by kernel_rfl) (fun _ _ _ h => h) (Or.inl ⟨by rfl, ?_⟩) (fun h => by cases h) ?_
              rotate_left
              · intro w hSw
                (try dsimp only at hSw)
                go_simp
                all_goals with_reducible rfl
              try simp only [Act.put, List.setIfInBounds_toArray, List.set_cons_zero, List.set_cons_succ]
              refine L_take' (i := 18) (v := ?_) rfl (by kernel_rfl) (by kernel_rfl) (by kernel_rfl) (by kernel_rfl) (fun _ _ _ h => h) (Or.inl ⟨by rfl, ?_⟩) (fun h => by cases h) ?_
              rotate_left
              · intro w hSw
                (try dsimp only at hSw)
                go_simp
                all_goals with_reducible rfl
              try simp only [Act.put, List.setIfInBounds_toArray, List.set_cons_zero, List.set_cons_succ]
              refine L_ready (rs := [19]) (by kernel_rfl) (by simp) ?_
              refine ReadyL.cons' rfl (by kernel_rfl) (fun K hK => ?_) ReadyL.nil
              go_simp
              refine hK.out _ _ ?_
              clear hK K
              try simp only [Act.put, List.setIfInBounds_toArray, List.set_cons_zero, List.set_cons_succ]
              refine L_done (by kernel_rfl) ?_ _
              clear cc0 cc1 fz0 fz1 hHeld
              have HS := Bx.mk H1.out.stored
              have EU := Bx.mk (show U ++ [.int .i64 (-1)] = nums (zeros (-1) (k + 1)) by rw [UV.out.1, nums_zeros_succ])
              have EV := Bx.mk (show V ++ [.int .i64 0] = nums (zeros 0 (k + 1)) by rw [UV.out.2, nums_zeros_succ])
              go_wp2
              have hq := Q.out
              go_roundg (m - (k + 1))
              case rel => exact ⟨k + 1, rfl, by go_num, by omega, _, _, by have h := HS.out; rw [EU.out, EV.out] at h; exact h⟩
              case measure => omega
            exact ReadyL.nil
          exact ReadyL.nil
        exact ReadyL.nil
      refine ReadyL.cons rfl (fun K hK => ?_) ?_
      · go_simp
        refine hK.out _ _ ?_ (fun hHeld => ?_)
        · first | exact ⟨H1.out.c0, H1.out.c1⟩ | exact ⟨(H1.out.al _).c0, (H1.out.al _).c1⟩ | exact ⟨(H.out.al _).dr.c0, (H.out.al _).dr.c1⟩ | exact ⟨((H.out.al _).al _).dr.c0, ((H.out.al _).al _).dr.c1⟩
        clear hK K
        try simp only [Act.put, List.setIfInBounds_toArray, List.set_cons_zero, List.set_cons_succ]
        refine L_ready (rs := [6]) (by kernel_rfl) (by simp) ?_
        refine ReadyL.cons rfl (fun K hK => ?_) ?_
        · go_simp
          refine hK.out _ _ ?_ (fun hHeld => ?_)
          · first | exact ⟨H1.out.c0, H1.out.c1⟩ | exact ⟨(H1.out.al _).c0, (H1.out.al _).c1⟩ | exact ⟨(H.out.al _).dr.c0, (H.out.al _).dr.c1⟩ | exact ⟨((H.out.al _).al _).dr.c0, ((H.out.al _).al _).dr.c1⟩
          clear hK K
          try simp only [Act.put, List.setIfInBounds_toArray, List.set_cons_zero, List.set_cons_succ]
          refine L_ready (rs := [7]) (by kernel_rfl) (by simp) ?_
          refine ReadyL.cons rfl (fun K hK => ?_) ?_
          · skip
            refine step_append_lies _ (by rfl) (.tmp 21) (.tmp 22) 28 (by rfl) w.heap.size 3 i0 _ 1 8 Try.underlying28 I.out.1 I.out.2.1 I.out.2.2.1 I.out.2.2.2 rfl (by omega) vU U.length U (by rfl) ?_ _ 1 1 [.int .i64 (-1)] (by rfl) (by rfl) (World.news_of_block (cs := #[.int .i64 (-1)]) (t := 3) (fr := (0, 0)) ?_) (by simp [Value.oneCell']) (by omega) (by unfold maxLen; omega) (by omega) ?_ _ rfl ?_
            · (first | exact H1.out.ou | exact (H1.out.al _).ou | exact (H.out.al _).dr.ou | exact ((H.out.al _).al _).dr.ou)
            · (first | exact heap_at _ _ _ (by simp) | exact hd _ _ _ (heap_at _ _ _ (by simp)) | exact hd _ _ _ (heap_was _ _ _ _ (heap_at _ _ _ (by simp))) | exact P1.out _ _ (heap_at _ _ _ (by simp)) (fresh_box H.out.ou _ (by simp <;> omega)) | exact P1.out _ _ (heap_at _ _ _ (by simp)) (fresh_box H.out.ov _ (by simp <;> omega)) | exact P1.out _ _ (hd _ _ _ (heap_at _ _ _ (by simp))) (fresh_box H.out.ou _ (by simp <;> omega)) | exact P1.out _ _ (hd _ _ _ (heap_at _ _ _ (by simp))) (fresh_box H.out.ov _ (by simp <;> omega)) | exact P1.out _ _ (hd _ _ _ (heap_was _ _ _ _ (heap_at _ _ _ (by simp)))) (fresh_box H.out.ou _ (by simp <;> omega)) | exact P1.out _ _ (hd _ _ _ (heap_was _ _ _ _ (heap_at _ _ _ (by simp)))) (fresh_box H.out.ov _ (by simp <;> omega)))
            · (first | exact H1.out.below.size | exact (H1.out.al _).below.size | exact (H.out.al _).dr.below.size | exact ((H.out.al _).al _).dr.below.size)
            intro gg cap w1 hown1 hgrow hat hlt
            have HN := Bx.mk (by (first | exact H1.out.growU hgrow hown1 hat | exact (H1.out.al _).growU hgrow hown1 hat | exact (H.out.al _).dr.growU hgrow hown1 hat | exact ((H.out.al _).al _).dr.growU hgrow hown1 hat))
            have P1 := Bx.mk (box_all hgrow)
            clear hown1 hgrow hat hlt
            have H1 := HN
            clear HN
            refine hK.out _ _ ?_ (fun hHeld => ?_)
            · first | exact ⟨H1.out.c0, H1.out.c1⟩ | exact ⟨(H1.out.al _).c0, (H1.out.al _).c1⟩ | exact ⟨(H.out.al _).dr.c0, (H.out.al _).dr.c1⟩ | exact ⟨((H.out.al _).al _).dr.c0, ((H.out.al _).al _).dr.c1⟩
            clear hK K
            try simp only [Act.put, List.setIfInBounds_toArray, List.set_cons_zero, List.set_cons_succ]
            refine L_ready (rs := [13]) (by kernel_rfl) (by simp) ?_
            refine ReadyL.cons rfl (fun K hK => ?_) ?_
            · skip
              refine step_append_lies _ (by rfl) (.tmp 27) (.tmp 28) 28 (by rfl) w.heap.size 3 i0 _ 1 8 Try.underlying28 I.out.1 I.out.2.1 I.out.2.2.1 I.out.2.2.2 rfl (by omega) vV V.length V (by rfl) ?_ _ 1 1 [.int .i64 0] (by rfl) (by rfl) (World.news_of_block (cs := #[.int .i64 0]) (t := 3) (fr := (0, 0)) ?_) (by simp [Value.oneCell']) (by omega) (by unfold maxLen; omega) (by omega) ?_ _ rfl ?_
              · (first | exact H1.out.ov | exact (H1.out.al _).ov | exact (H.out.al _).dr.ov | exact ((H.out.al _).al _).dr.ov)
              · (first | exact heap_at _ _ _ (by simp) | exact hd _ _ _ (heap_at _ _ _ (by simp)) | exact hd _ _ _ (heap_was _ _ _ _ (heap_at _ _ _ (by simp))) | exact P1.out _ _ (heap_at _ _ _ (by simp)) (fresh_box H.out.ou _ (by simp <;> omega)) | exact P1.out _ _ (heap_at _ _ _ (by simp)) (fresh_box H.out.ov _ (by simp <;> omega)) | exact P1.out _ _ (hd _ _ _ (heap_at _ _ _ (by simp))) (fresh_box H.out.ou _ (by simp <;> omega)) | exact P1.out _ _ (hd _ _ _ (heap_at _ _ _ (by simp))) (fresh_box H.out.ov _ (by simp <;> omega)) | exact P1.out _ _ (hd _ _ _ (heap_was _ _ _ _ (heap_at _ _ _ (by simp)))) (fresh_box H.out.ou _ (by simp <;> omega)) | exact P1.out _ _ (hd _ _ _ (heap_was _ _ _ _ (heap_at _ _ _ (by simp)))) (fresh_box H.out.ov _ (by simp <;> omega)))
              · (first | exact H1.out.below.size | exact (H1.out.al _).below.size | exact (H.out.al _).dr.below.size | exact ((H.out.al _).al _).dr.below.size)
              intro gg cap w1 hown1 hgrow hat hlt
              have HN := Bx.mk (by (first | exact H1.out.growV hgrow hown1 hat | exact (H1.out.al _).growV hgrow hown1 hat | exact (H.out.al _).dr.growV hgrow hown1 hat | exact ((H.out.al _).al _).dr.growV hgrow hown1 hat))
              have P1 := Bx.mk (box_all hgrow)
              clear hown1 hgrow hat hlt
              have H1 := HN
              clear HN
              refine hK.out _ _ ?_ (fun hHeld => ?_)
              · first | exact ⟨H1.out.c0, H1.out.c1⟩ | exact ⟨(H1.out.al _).c0, (H1.out.al _).c1⟩ | exact ⟨(H.out.al _).dr.c0, (H.out.al _).dr.c1⟩ | exact ⟨((H.out.al _).al _).dr.c0, ((H.out.al _).al _).dr.c1⟩
              clear hK K
              try simp only [Act.put, List.setIfInBounds_toArray, List.set_cons_zero, List.set_cons_succ]
              refine L_take' (i := 14) (v := ?_) rfl (by kernel_rfl) (by kernel_rfl) (by kernel_rfl) (by kernel_rfl) (fun _ _ _ h => h) (Or.inl ⟨by rfl, ?_⟩) (fun _ => hHeld) ?_
              rotate_left
              · intro w hSw
                (try dsimp only at hSw)
                go_simp
                all_goals with_reducible rfl
              try simp only [Act.put, List.setIfInBounds_toArray, List.set_cons_zero, List.set_cons_succ]
              refine L_take' (i := 15) (v := ?_) rfl (by kernel_rfl) (by kernel_rfl) (by kernel_rfl) (by kernel_rfl) (fun _ _ _ h => h) (Or.inl ⟨by rfl, ?_⟩) (fun _ => hHeld) ?_
              rotate_left
              · intro w hSw
                (try dsimp only at hSw)
                go_simp
                all_goals with_reducible rfl
              try simp only [Act.put, List.setIfInBounds_toArray, List.set_cons_zero, List.set_cons_succ]
              have fz0 := H1.out.fr 0
              have fz1 := H1.out.fr 1
              have cc0 := H1.out.c0
              have cc1 := H1.out.c1
              refine L_ready (rs := [16]) (by kernel_rfl) (by simp) ?_
              refine ReadyL.cons' rfl (by kernel_rfl) (fun K hK => ?_) ReadyL.nil
              go_simp
              refine hK.out _ _ ?_
              clear hK K
              try simp only [Act.put, List.setIfInBounds_toArray, List.set_cons_zero, List.set_cons_succ]
              refine L_take' (i := 17) (v := ?_) rfl (by kernel_rfl) (by kernel_rfl) (by kernel_rfl) (by kernel_rfl) (fun _ _ _ h => h) (Or.inl ⟨by rfl, ?_⟩) (fun h => by cases h) ?_
              rotate_left
              · intro w hSw
                (try dsimp only at hSw)
                go_simp
                all_goals with_reducible rfl
              try simp only [Act.put, List.setIfInBounds_toArray, List.set_cons_zero, List.set_cons_succ]
              refine L_take' (i := 18) (v := ?_) rfl (by kernel_rfl) (by kernel_rfl) (by kernel_rfl) (by kernel_rfl) (fun _ _ _ h => h) (Or.inl ⟨by rfl, ?_⟩) (fun h => by cases h) ?_
              rotate_left
              · intro w hSw
                (try dsimp only at hSw)
                go_simp
                all_goals with_reducible rfl
              try simp only [Act.put, List.setIfInBounds_toArray, List.set_cons_zero, List.set_cons_succ]
              refine L_ready (rs := [19]) (by kernel_rfl) (by simp) ?_
              refine ReadyL.cons' rfl (by kernel_rfl) (fun K hK => ?_) ReadyL.nil
              go_simp
              refine hK.out _ _ ?_
              clear hK K
              try simp only [Act.put, List.setIfInBounds_toArray, List.set_cons_zero, List.set_cons_succ]
              refine L_done (by kernel_rfl) ?_ _
              clear cc0 cc1 fz0 fz1 hHeld
              have HS := Bx.mk H1.out.stored
              have EU := Bx.mk (show U ++ [.int .i64 (-1)] = nums (zeros (-1) (k + 1)) by rw [UV.out.1, nums_zeros_succ])
              have EV := Bx.mk (show V ++ [.int .i64 0] = nums (zeros 0 (k + 1)) by rw [UV.out.2, nums_zeros_succ])
              go_wp2
              have hq := Q.out
              go_roundg (m - (k + 1))
              case rel => exact ⟨k + 1, rfl, by go_num, by omega, _, _, by have h := HS.out; rw [EU.out, EV.out] at h; exact h⟩
              case measure => omega
            exact ReadyL.nil
          exact ReadyL.nil
        exact ReadyL.nil
      exact ReadyL.nil
    · go_wp2
      go_ret
      obtain rfl : k = m := by omega
      exact h.made hm0 hm
end Go.Proofs.Ytjicapkhlfbgjaa
