/- Rounds of a step, gone round one by one: what the walk of orbits needs. No Go in sight. -/
import Derived.Test.YtidcofjadlfahaaTf
set_option linter.unusedVariables false
namespace Go.Proofs.Ytidcofjadlfahaa
open Go.RowKit

/-- The head of what is left, or where it all began. -/
def hdOr (l : List Int) (d : Int) : Int := match l with | [] => d | y :: _ => y
theorem Ch.head {f : Int → Int} {d e : Int} : ∀ {l : List Int}, Ch f d e l → e = hdOr l d
  | [], h => h
  | x :: l, h => h.1.symm
theorem Ch.step {f : Int → Int} {d : Int} : ∀ {pre : List Int} {e x : Int} {suf : List Int}, Ch f d e (pre ++ x :: suf) → f x = hdOr suf d
  | [], e, x, suf, h => by
    obtain ⟨rfl, _, h⟩ := h
    exact h.head
  | y :: pre, e, x, suf, h => Ch.step (pre := pre) h.2.2
theorem ring_step {f : Int → Int} {d : Int} {l pre suf : List Int} {x : Int} (h : Ch f d (f d) l) (hl : d :: l = pre ++ x :: suf) : f x = hdOr suf d := by
  cases pre with
  | nil =>
    rw [List.nil_append] at hl
    injection hl with a b
    subst a b
    exact h.head
  | cons y pre =>
    rw [List.cons_append] at hl
    injection hl with a b
    subst b
    exact h.step
theorem Ch.suffix {f : Int → Int} {d : Int} : ∀ {pre : List Int} {e x : Int} {suf : List Int}, Ch f d e (pre ++ x :: suf) → Ch f d x (x :: suf)
  | [], e, x, suf, h => by
    obtain ⟨rfl, a, b⟩ := h
    exact ⟨rfl, a, b⟩
  | y :: pre, e, x, suf, h => Ch.suffix (pre := pre) h.2.2
theorem Ch.nodup {f : Int → Int} {d : Int} : ∀ {l : List Int} {e : Int}, Ch f d e l → l.Nodup
  | [], _, _ => List.nodup_nil
  | x :: l, e, h => by
    rw [List.nodup_cons]
    refine ⟨fun hm => ?_, Ch.nodup h.2.2⟩
    obtain ⟨a, b, rfl⟩ := List.append_of_mem hm
    obtain ⟨rfl, h3, h4⟩ := h
    have h1 : Ch f d x (x :: (a ++ x :: b)) := ⟨rfl, h3, h4⟩
    have h2 := Ch.suffix (pre := x :: a) h1
    have := congrArg List.length (h1.det h2)
    simp at this
    omega
theorem Ch.off {f : Int → Int} {d : Int} : ∀ {l : List Int} {e : Int}, Ch f d e l → d ∉ l
  | [], _, _ => by simp
  | x :: l, e, h => by
    rw [List.mem_cons]
    rintro (k | k)
    · exact h.2.1 (by rw [← h.1, k])
    · exact h.2.2.off k
theorem ring_nodup {f : Int → Int} {d : Int} {l : List Int} (h : Ch f d (f d) l) : (d :: l).Nodup := by
  rw [List.nodup_cons]
  exact ⟨h.off, h.nodup⟩
/-- None of a round that is not numbered yet has a number. -/
theorem FS.fresh {Y : List Int} {j : Nat} {of : List Int} {k : Int} (F : FS Y j of k) (hpp : Perm Y.length (phi Y)) (hj : j < Y.length) (c : ¬ 0 ≤ rd of j) {l : List Int} (hch : Ch (phi Y) (j : Int) (phi Y j) l) (hin : ∀ e, e ∈ (j : Int) :: l → 0 ≤ e ∧ e < Y.length) : ∀ z, z ∈ (j : Int) :: l → ¬ 0 ≤ rd of z := by
  obtain ⟨q1, q2, q3⟩ := hch.closed
  have closed_of : ∀ (i : Nat) (z : Int), 0 ≤ z → z < Y.length → 0 ≤ rd of z → 0 ≤ rd of (itr (phi Y) z i) := fun i => by
    induction i with
    | zero => exact fun z _ _ h => h
    | succ i ihi =>
      intro z h0 h1 h
      have a := ihi z h0 h1 h
      have b := hpp.itr_rng h0 h1 i
      show 0 ≤ rd of (phi Y (itr (phi Y) z i))
      rw [F.inv _ b.1 b.2 a]
      exact a
  have per : ∃ n, 0 < n ∧ itr (phi Y) (j : Int) n = j := by
    obtain ⟨i, hi⟩ := q3
    exact ⟨1 + i, by omega, by rw [itr_add']; exact hi⟩
  intro z hz h
  rcases List.mem_cons.1 hz with rfl | hz'
  · exact c h
  · obtain ⟨i, hi⟩ := q2 z hz'
    have hi' : itr (phi Y) (j : Int) (1 + i) = z := by rw [itr_add']; exact hi
    obtain ⟨n, hn, hp⟩ := per
    have mul : ∀ t, itr (phi Y) (j : Int) (t * n) = j := fun t => by
      induction t with
      | zero => rw [Nat.zero_mul]; rfl
      | succ t iht => rw [Nat.succ_mul, itr_add', iht, hp]
    have hle : 1 + i ≤ (1 + i) * n := Nat.le_mul_of_pos_right _ hn
    have hzr := hin z hz
    have hb := closed_of ((1 + i) * n - (1 + i)) z hzr.1 hzr.2 h
    rw [← hi', ← itr_add', show 1 + i + ((1 + i) * n - (1 + i)) = (1 + i) * n from by omega, mul] at hb
    exact c hb
/-- The row whose faces are the rounds of X itself. -/
def swp (X : List Int) : List Int := (List.range X.length).map fun (d : Nat) => rd X (ot d)
theorem swp_length (X : List Int) : (swp X).length = X.length := by simp [swp]
theorem phi_swp {X : List Int} (he : (X.length : Int) % 2 = 0) {d : Int} (h0 : 0 ≤ d) (h1 : d < X.length) : phi (swp X) d = rd X d := by
  have hr := ot_rng d X.length h0 h1 he
  unfold phi
  have e : rd (swp X) (ot d) = rd X (ot (ot d)) := by
    unfold swp
    obtain ⟨n, hn⟩ : ∃ n : Nat, ot d = n := ⟨(ot d).toNat, by omega⟩
    rw [hn]
    show (((List.range X.length).map fun (d : Nat) => rd X (ot d)).getD n 0) = _
    rw [List.getD_eq_getElem?_getD, List.getElem?_map, List.getElem?_range (by omega)]
    rfl
  rw [e, ot_ot]
theorem swp_perm {X : List Int} (h : Perm X.length (rd X)) (he : (X.length : Int) % 2 = 0) : Perm (swp X).length (rd (swp X)) := by
  rw [swp_length]
  have e : ∀ d : Int, 0 ≤ d → d < X.length → rd (swp X) d = rd X (ot d) := fun d h0 h1 => by
    have hr := ot_rng d X.length h0 h1 he
    have := phi_swp he hr.1 hr.2
    unfold phi at this
    rwa [ot_ot] at this
  refine ⟨fun d h0 h1 => ?_, fun d z a b a' b' k => ?_⟩
  · rw [e d h0 h1]
    have hr := ot_rng d X.length h0 h1 he
    exact h.rng _ hr.1 hr.2
  · rw [e d a b, e z a' b'] at k
    have h1 := ot_rng d X.length a b he
    have h2 := ot_rng z X.length a' b' he
    have := h.inj _ _ h1.1 h1.2 h2.1 h2.2 k
    rw [← ot_ot d, this, ot_ot]
end Go.Proofs.Ytidcofjadlfahaa
