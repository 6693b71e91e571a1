/- Regions in whatever order, a condition on the world kept up to the first store alone. -/
import Derived.OrdersHeld
import Derived.RegionTactic
import Derived.Deep.RegionHeld3
namespace Go.Proofs.Ytidcofjadlfahaa

section
variable {P : Program} {ops : Array Oper} {Q : Exit → Act → World → Prop} {md : Region.Mode} {C : World → Prop} {s : Nat}

/-- Whatever order is picked from here on; until number s (a store) has come up, C holds behind every operation. -/
def AnyL (P : Program) (md : Region.Mode) (ops : Array Oper) (Q : Exit → Act → World → Prop) (C : World → Prop) (s : Nat) : Nat → Array Bool → Act → World → Prop
  | 0, listed, a, w => Region.ready md ops listed = [] ∧ Q .normal a w
  | fuel + 1, listed, a, w =>
    (Region.ready md ops listed = [] → Q .normal a w) ∧
    ∀ i ∈ Region.ready md ops listed, wpOp P ops Q i (fun a' w' => (listed.getD s true = false → i ≠ s → C w') ∧ AnyL P md ops Q C s fuel (listed.setIfInBounds i true) a' w') a w

theorem any_of_L : ∀ (fuel : Nat) (listed : Array Bool) (a : Act) (w : World), AnyL P md ops Q C s fuel listed a w → wpAny P md ops Q fuel listed a w
  | 0, _, _, _, h => h
  | fuel + 1, _, _, _, h => ⟨h.1, fun i hi => wpOp_mono (fun a' w' h' => any_of_L fuel _ a' w' h'.2) (h.2 i hi)⟩

theorem unlisted {i : Nat} {listed : Array Bool} (h : i ∈ Region.ready md ops listed) : listed.getD i true = false := (mem_ready.1 h).1

theorem waits {i j : Nat} {oj : Oper} {listed : Array Bool} (hi : i ∈ Region.ready md ops listed) (hj : j ∈ Region.ready md ops listed) (hoj : ops[j]? = some oj) : ∀ e ∈ oj.after, Region.binds md e = true → e.on ≠ i := by
  intro e he hb heq
  obtain ⟨_, o', ho', hall⟩ := mem_ready.1 hj
  rw [hoj] at ho'
  injection ho' with ho'
  subst ho'
  have h1 := hall e he hb
  have h0 := unlisted hi
  rw [heq] at h1
  rcases Nat.lt_or_ge i listed.size with h' | h'
  · simp [h'] at h0 h1
    rw [h0] at h1
    cases h1
  · simp [Array.getElem?_eq_none h'] at h1

/-- An operation that yields its value in every world that meets C, and for which the store waits, may be taken first. -/
theorem L_first {i : Nat} {oi os : Oper} {v : Value} (hi : ops[i]? = some oi) (hos : ops[s]? = some os) (hw : ∃ e ∈ os.after, Region.binds md e = true ∧ e.on = i)
    (hsel : ∀ (j : Nat) (o : Oper) cs b, ops[j]? = some o → o.op ≠ .select cs b) (hQ : ∀ c a w, Q (.panic c) (a.put oi.dst v) w → Q (.panic c) a w) :
    ∀ (fuel : Nat) (listed : Array Bool) (a : Act) (w : World),
      (∀ j oj, ops[j]? = some oj → j ≠ i → listed.getD j true = false → (∀ e ∈ oj.after, Region.binds md e = true → e.on ≠ i) → oi.apart ops oj = true) →
      i ∈ Region.ready md ops listed → YieldsIf P ops C oi v a → C w → listed.getD s true = false → i ≠ s →
      AnyL P md ops Q C s fuel (listed.setIfInBounds i true) (a.put oi.dst v) w → AnyL P md ops Q C s (fuel + 1) listed a w := by
  intro fuel
  induction fuel with
  | zero =>
    intro listed a w _ hr hy hC _ _ H
    refine ⟨fun h => (by rw [h] at hr; cases hr), fun j hj => ?_⟩
    by_cases hji : j = i
    · subst hji
      exact hy.wpOp hi hC ⟨fun _ _ => hC, H⟩
    · have := ready_mono hj hji
      rw [H.1] at this
      cases this
  | succ fuel ih =>
    intro listed a w hfree hr hy hC hs his H
    refine ⟨fun h => (by rw [h] at hr; cases hr), fun j hj => ?_⟩
    by_cases hji : j = i
    · subst hji
      exact hy.wpOp hi hC ⟨fun _ _ => hC, H⟩
    · have hjs : j ≠ s := by
        rintro rfl
        obtain ⟨e, he, hb, heq⟩ := hw
        exact waits hr hj hos e he hb heq
      obtain ⟨hjun, oj, hoj, _⟩ := mem_ready.1 hj
      have h1 := H.2 j (ready_mono hj hji)
      have h2 := wpOp_putIf hoj (hfree j oj hoj hji hjun (waits hr hj hoj)) (fun cs b => hsel i oi cs b hi) (fun cs b => hsel j oj cs b hoj) hQ hy h1
      have hfree' : ∀ k ok, ops[k]? = some ok → k ≠ i → (listed.setIfInBounds j true).getD k true = false →
          (∀ e ∈ ok.after, Region.binds md e = true → e.on ≠ i) → oi.apart ops ok = true := by
        intro k ok hk hki hun hno
        refine hfree k ok hk hki ?_ hno
        by_cases hjk : j = k
        · subst hjk; exact hjun
        · rwa [getD_set_ne true hjk] at hun
      have hs1 : (listed.setIfInBounds i true).getD s true = false := by rw [getD_set_ne true his]; exact hs
      have hs2 : (listed.setIfInBounds j true).getD s true = false := by rw [getD_set_ne true hjs]; exact hs
      refine wpOp_mono (fun a' w' h3 => ?_) h2
      have hC' : C w' := h3.2.1 hs1 hjs
      refine ⟨fun _ _ => hC', ih (listed.setIfInBounds j true) a' w' hfree' (ready_mono hr (Ne.symm hji)) h3.1 hC' hs2 his ?_⟩
      rw [Array.setIfInBounds_comm _ _ hji]
      exact h3.2.2

theorem L_take {i : Nat} {oi : Oper} {v : Value} {fuel : Nat} {listed : Array Bool} {a : Act} {w : World} (hi : ops[i]? = some oi)
    (hw : ((ops[s]?).map fun o => o.after.any fun e => Region.binds md e && e.on == i) = some true) (hs : Region.noSelect ops = true) (hf : Region.free md ops listed i = true) (hr : (Region.ready md ops listed).contains i = true)
    (hu : listed.getD s true = false) (his : (i == s) = false)
    (hQ : ∀ c a w, Q (.panic c) (a.put oi.dst v) w → Q (.panic c) a w) (hy : YieldsIf P ops C oi v a) (hC : C w)
    (h : AnyL P md ops Q C s fuel (listed.setIfInBounds i true) (a.put oi.dst v) w) : AnyL P md ops Q C s (fuel + 1) listed a w := by
  obtain ⟨os, hos, hany⟩ := Option.map_eq_some_iff.1 hw
  obtain ⟨e, he, hb⟩ := Array.any_eq_true'.1 hany
  simp only [Bool.and_eq_true, beq_iff_eq] at hb
  exact L_first hi hos ⟨e, he, hb.1, hb.2⟩ (Region.noSelect_spec hs) hQ fuel listed a w (Region.free_spec hi hf) (by simpa using hr) hy hC hu (by simpa using his) h

/-- The same of an operation that yields its value in whatever world: no store need wait for it. -/
theorem L_first' {i : Nat} {oi : Oper} {v : Value} (hi : ops[i]? = some oi)
    (hsel : ∀ (j : Nat) (o : Oper) cs b, ops[j]? = some o → o.op ≠ .select cs b) (hQ : ∀ c a w, Q (.panic c) (a.put oi.dst v) w → Q (.panic c) a w) :
    ∀ (fuel : Nat) (listed : Array Bool) (a : Act) (w : World),
      (∀ j oj, ops[j]? = some oj → j ≠ i → listed.getD j true = false → (∀ e ∈ oj.after, Region.binds md e = true → e.on ≠ i) → oi.apart ops oj = true) →
      i ∈ Region.ready md ops listed → YieldsIf P ops (fun _ => True) oi v a → (listed.getD s true = false → C w) → i ≠ s →
      AnyL P md ops Q C s fuel (listed.setIfInBounds i true) (a.put oi.dst v) w → AnyL P md ops Q C s (fuel + 1) listed a w := by
  intro fuel
  induction fuel with
  | zero =>
    intro listed a w _ hr hy hC _ H
    refine ⟨fun h => (by rw [h] at hr; cases hr), fun j hj => ?_⟩
    by_cases hji : j = i
    · subst hji
      exact hy.wpOp hi trivial ⟨fun h1 _ => hC h1, H⟩
    · have := ready_mono hj hji
      rw [H.1] at this
      cases this
  | succ fuel ih =>
    intro listed a w hfree hr hy hC his H
    refine ⟨fun h => (by rw [h] at hr; cases hr), fun j hj => ?_⟩
    by_cases hji : j = i
    · subst hji
      exact hy.wpOp hi trivial ⟨fun h1 _ => hC h1, H⟩
    · obtain ⟨hjun, oj, hoj, _⟩ := mem_ready.1 hj
      have h1 := H.2 j (ready_mono hj hji)
      have h2 := wpOp_putIf hoj (hfree j oj hoj hji hjun (waits hr hj hoj)) (fun cs b => hsel i oi cs b hi) (fun cs b => hsel j oj cs b hoj) hQ hy h1
      have hfree' : ∀ k ok, ops[k]? = some ok → k ≠ i → (listed.setIfInBounds j true).getD k true = false →
          (∀ e ∈ ok.after, Region.binds md e = true → e.on ≠ i) → oi.apart ops ok = true := by
        intro k ok hk hki hun hno
        refine hfree k ok hk hki ?_ hno
        by_cases hjk : j = k
        · subst hjk; exact hjun
        · rwa [getD_set_ne true hjk] at hun
      have hs1 : listed.getD s true = false → (listed.setIfInBounds i true).getD s true = false := by intro hs; rw [getD_set_ne true his]; exact hs
      refine wpOp_mono (fun a' w' h3 => ?_) h2
      refine ⟨fun h4 h5 => h3.2.1 (hs1 h4) h5, ih (listed.setIfInBounds j true) a' w' hfree' (ready_mono hr (Ne.symm hji)) h3.1 (fun h4 => ?_) his ?_⟩
      · by_cases hjs : j = s
        · subst hjs
          have := unlisted hj
          rw [Array.getD_eq_getD_getElem?] at h4 this
          rcases Nat.lt_or_ge j listed.size with h' | h'
          · simp [h'] at h4
          · simp [Array.getElem?_eq_none h'] at this
        · rw [getD_set_ne true hjs] at h4
          exact h3.2.1 (hs1 h4) hjs
      · rw [Array.setIfInBounds_comm _ _ hji]
        exact h3.2.2
theorem L_take' {i : Nat} {oi : Oper} {v : Value} {fuel : Nat} {listed : Array Bool} {a : Act} {w : World} (hi : ops[i]? = some oi)
    (hs : Region.noSelect ops = true) (hf : Region.free md ops listed i = true) (hr : (Region.ready md ops listed).contains i = true) (his : (i == s) = false)
    (hQ : ∀ c a w, Q (.panic c) (a.put oi.dst v) w → Q (.panic c) a w) (hy : YieldsIf P ops (fun _ => True) oi v a) (hC : listed.getD s true = false → C w)
    (h : AnyL P md ops Q C s fuel (listed.setIfInBounds i true) (a.put oi.dst v) w) : AnyL P md ops Q C s (fuel + 1) listed a w :=
  L_first' hi (Region.noSelect_spec hs) hQ fuel listed a w (Region.free_spec hi hf) (by simpa using hr) hy hC (by simpa using his) h

def ReadyL (P : Program) (md : Region.Mode) (ops : Array Oper) (Q : Exit → Act → World → Prop) (C : World → Prop) (s : Nat) (fuel : Nat) (listed : Array Bool) (a : Act) (w : World) (rs : List Nat) : Prop :=
  ∀ i ∈ rs, wpOp P ops Q i (fun a' w' => (listed.getD s true = false → i ≠ s → C w') ∧ AnyL P md ops Q C s fuel (listed.setIfInBounds i true) a' w') a w
theorem ReadyL.nil {fuel : Nat} {listed : Array Bool} {a : Act} {w : World} : ReadyL P md ops Q C s fuel listed a w [] := fun _ h => by cases h
theorem ReadyL.cons {fuel : Nat} {listed : Array Bool} {a : Act} {w : World} {i : Nat} {o : Oper} {rs : List Nat} (ho : ops[i]? = some o)
    (h : ∀ K' : Act → World → Prop, Shut (∀ a w, C w → (C w → AnyL P md ops Q C s fuel (listed.setIfInBounds i true) a w) → K' a w) → if Region.wanted o (yielded ops a.tmps) = true then Oper.wp P o a w K' Q else K' (a.put o.dst undef) w)
    (hs : ReadyL P md ops Q C s fuel listed a w rs) : ReadyL P md ops Q C s fuel listed a w (i :: rs) := fun j hj => by
  rcases List.mem_cons.1 hj with rfl | hj
  · exact wpOp_step ho (fun K' hK => h K' (fun a w hC hW => hK a w ⟨fun _ _ => hC, hW hC⟩))
  · exact hs j hj
/-- A store, or what comes behind it: nothing is to be kept. -/
theorem ReadyL.cons' {fuel : Nat} {listed : Array Bool} {a : Act} {w : World} {i : Nat} {o : Oper} {rs : List Nat} (ho : ops[i]? = some o) (hx : (listed.getD s true || i == s) = true)
    (h : ∀ K' : Act → World → Prop, Shut (∀ a w, AnyL P md ops Q C s fuel (listed.setIfInBounds i true) a w → K' a w) → if Region.wanted o (yielded ops a.tmps) = true then Oper.wp P o a w K' Q else K' (a.put o.dst undef) w)
    (hs : ReadyL P md ops Q C s fuel listed a w rs) : ReadyL P md ops Q C s fuel listed a w (i :: rs) := fun j hj => by
  rcases List.mem_cons.1 hj with rfl | hj
  · refine wpOp_step ho (fun K' hK => h K' (fun a w hW => hK a w ⟨fun h1 h2 => ?_, hW⟩))
    simp only [h1, Bool.false_or, beq_iff_eq] at hx
    exact absurd hx h2
  · exact hs j hj
theorem L_ready {rs : List Nat} {fuel : Nat} {listed : Array Bool} {a : Act} {w : World} (hr : Region.ready md ops listed = rs) (hne : rs ≠ [])
    (h : ReadyL P md ops Q C s fuel listed a w rs) : AnyL P md ops Q C s (fuel + 1) listed a w := ⟨fun h0 => absurd (hr ▸ h0) hne, hr ▸ h⟩
theorem L_done {listed : Array Bool} {a : Act} {w : World} (hr : Region.ready md ops listed = []) (h : Q .normal a w) : ∀ fuel, AnyL P md ops Q C s fuel listed a w
  | 0 => ⟨hr, h⟩
  | _ + 1 => ⟨fun _ => h, by rw [hr]; simp⟩
theorem wp_region_L {id : Nat} {a : Act} {w : World} (hm : P.follows .mixedOrders = true) (hC : C w.drew)
    (h : C w.drew → AnyL P .any ops Q C s ops.size (Array.replicate ops.size false) a w.drew) : (Code.region id ops true).wp P Q a w :=
  wp_region_any hm (any_of_L _ _ _ _ (h hC))
end
end Go.Proofs.Ytidcofjadlfahaa
