/- Flows that are made greater along a way: what they are. No Go in sight. -/
import Derived.Test.YtidcofjadlfahaaU12
set_option linter.unusedVariables false
namespace Go.Proofs.Ytidcofjadlfahaa
open Go.RowKit

theorem ot_ne (d : Int) : ot d ≠ d := by unfold ot; split <;> omega
/-- From v on by the darts by which each was found, till s comes. -/
def Way (T by_ : List Int) (s : Int) : Int → List Int → Prop
  | v, [] => v = s
  | v, d :: l => v ≠ s ∧ d = rd by_ v ∧ Way T by_ s (rd T d) l
theorem Way.det {T by_ : List Int} {s : Int} : ∀ {P Q : List Int} {v : Int}, Way T by_ s v P → Way T by_ s v Q → P = Q
  | [], [], _, _, _ => rfl
  | [], d :: Q, v, h, k => absurd h k.1
  | d :: P, [], v, h, k => absurd k h.1
  | d :: P, e :: Q, v, h, k => by
    obtain ⟨_, rfl, h⟩ := h
    obtain ⟨_, rfl, k⟩ := k
    rw [Way.det h k]
/-- What is known of a way's darts. -/
structure WayOk (T : List Int) (ok : Int → Bool) (n : Nat) (P : List Int) : Prop where
  rng : ∀ d, d ∈ P → 0 ≤ d ∧ d < n ∧ ok d = true
  nd : P.Nodup
  no : ∀ d, d ∈ P → ot d ∉ P
section
variable {T : List Int} {ok : Int → Bool} {m n : Nat} {s : Int} {S : BS}
theorem Found.way (F : Found T ok m n s S) : ∀ (b : Nat) (k : Int), 0 ≤ k → k < S.q.length → k ≤ b → ∃ P, Way T S.by_ s (rd S.q k) P ∧ P.length ≤ k.toNat ∧ (∀ d, d ∈ P → ∃ i l : Int, 0 ≤ l ∧ l < i ∧ i ≤ k ∧ d = rd S.by_ (rd S.q i) ∧ 0 ≤ d ∧ d < n ∧ ok d = true ∧ rd T (ot d) = rd S.q i ∧ rd T d = rd S.q l) ∧ P.Nodup
  | 0, k, k0, k1, kb => by
    obtain rfl : k = 0 := by omega
    exact ⟨[], F.qr, by simp, (fun d hd => by cases hd), List.nodup_nil⟩
  | b + 1, k, k0, k1, kb => by
    by_cases e : k = 0
    · subst e
      exact ⟨[], F.qr, by simp, (fun d hd => by cases hd), List.nodup_nil⟩
    · obtain ⟨a1, a2, a3, a4, l, a5, a6, a7⟩ := F.tr k (by omega) k1
      obtain ⟨P, p1, p2, p3, p4⟩ := F.way b l a5 (by omega) (by omega)
      have hl1 : l < S.q.length := by omega
      refine ⟨rd S.by_ (rd S.q k) :: P, ⟨fun h => ?_, rfl, by rw [← a7]; exact p1⟩, by simp; omega, fun d hd => ?_, ?_⟩
      · have hz := F.qr
        rw [← hz] at h
        have := rd_inj F.nd k0 k1 (by omega) (by have := F.q0; omega) h
        omega
      · rcases List.mem_cons.1 hd with rfl | hd
        · exact ⟨k, l, a5, a6, Int.le_refl _, rfl, a1, a2, a3, a4, a7.symm⟩
        · obtain ⟨i, j, b1, b2, b3, b4⟩ := p3 d hd
          exact ⟨i, j, b1, b2, by omega, b4⟩
      · rw [List.nodup_cons]
        refine ⟨fun hm => ?_, p4⟩
        obtain ⟨i, j, b1, b2, b3, b4, b5, b6, b7, b8, b9⟩ := p3 _ hm
        rw [a4] at b8
        have := rd_inj F.nd k0 k1 (by omega) (by omega) b8
        omega
theorem Found.wayOk (F : Found T ok m n s S) {v : Int} (hv : v ∈ S.q) : ∃ P, Way T S.by_ s v P ∧ P.length < m ∧ WayOk T ok n P := by
  obtain ⟨k, k0, k1, rfl⟩ := mem_rd hv
  obtain ⟨P, p1, p2, p3, p4⟩ := F.way k.toNat k k0 k1 (by omega)
  have hl := F.len
  refine ⟨P, p1, by omega, ⟨fun d hd => ?_, p4, fun d hd hm => ?_⟩⟩
  · obtain ⟨i, j, b1, b2, b3, b4, b5, b6, b7, _⟩ := p3 d hd
    exact ⟨b5, b6, b7⟩
  · obtain ⟨i, l, b1, b2, b3, b4, b5, b6, b7, b8, b9⟩ := p3 d hd
    obtain ⟨i', l', c1, c2, c3, c4, c5, c6, c7, c8, c9⟩ := p3 _ hm
    rw [ot_ot] at c8
    have e1 := rd_inj F.nd (i := l) (j := i') b1 (by omega) (by omega) (by omega) (by rw [← b9, ← c8])
    have e2 := rd_inj F.nd (i := i) (j := l') (by omega) (by omega) c1 (by omega) (by rw [← b8, ← c9])
    omega
end
/-- One dart's flow made greater by x, its other one's less. -/
def aug1 (f : List Int) (x d : Int) : List Int := st (st f d (rd f d + x)) (ot d) (rd (st f d (rd f d + x)) (ot d) - x)
def aug (f : List Int) (x : Int) : List Int → List Int
  | [] => f
  | d :: l => aug (aug1 f x d) x l
theorem aug1_length (f : List Int) (x d : Int) : (aug1 f x d).length = f.length := by unfold aug1; rw [st_length, st_length]
theorem aug_length (x : Int) : ∀ (P f : List Int), (aug f x P).length = f.length
  | [], f => rfl
  | d :: l, f => by rw [aug, aug_length x l, aug1_length]
theorem rd_aug1 {f : List Int} {x d z : Int} {n : Nat} (hl : f.length = n) (he : (n : Int) % 2 = 0) (d0 : 0 ≤ d) (d1 : d < n) (z0 : 0 ≤ z) : rd (aug1 f x d) z = rd f z + (if z = d then x else 0) - (if z = ot d then x else 0) := by
  have ho := ot_rng d n d0 d1 he
  have hne := ot_ne d
  unfold aug1
  rw [rd_st _ _ _ _ ho.1 (by rw [st_length, hl]; exact ho.2) z0, rd_st _ _ _ _ d0 (by rw [hl]; exact d1) ho.1, rd_st _ _ _ _ d0 (by rw [hl]; exact d1) z0]
  rw [if_neg hne]
  by_cases a : z = ot d
  · rw [if_pos a, if_pos a, if_neg (by omega), a]; omega
  · rw [if_neg a, if_neg a]
    split
    · rename_i e; rw [e]; omega
    · omega
/-- How often a dart stands in a row, as a number. -/
def oft (z : Int) : List Int → Int
  | [] => 0
  | d :: l => (if z = d then 1 else 0) + oft z l
theorem oft_no {z : Int} : ∀ {l : List Int}, z ∉ l → oft z l = 0
  | [], _ => rfl
  | d :: l, h => by
    rw [oft, if_neg (fun e => h (by simp [e])), oft_no (fun m => h (by simp [m]))]
    rfl
theorem oft_one {z : Int} : ∀ {l : List Int}, l.Nodup → z ∈ l → oft z l = 1
  | [], _, h => by cases h
  | d :: l, hn, h => by
    rw [List.nodup_cons] at hn
    rw [oft]
    by_cases e : z = d
    · rw [if_pos e, oft_no (by rw [e]; exact hn.1)]; rfl
    · rw [if_neg e, oft_one hn.2 (by rcases List.mem_cons.1 h with k | k; exact absurd k e; exact k)]
      rfl
theorem rd_aug {x : Int} {n : Nat} (he : (n : Int) % 2 = 0) {z : Int} (z0 : 0 ≤ z) : ∀ (P f : List Int), f.length = n → (∀ d, d ∈ P → 0 ≤ d ∧ d < n) → rd (aug f x P) z = rd f z + x * oft z P - x * oft (ot z) P
  | [], f, _, _ => by simp [aug, oft]
  | d :: l, f, hl, hP => by
    have hd := hP d (by simp)
    rw [aug, rd_aug he z0 l (aug1 f x d) (by rw [aug1_length]; exact hl) (fun e h => hP e (by simp [h])), rd_aug1 hl he hd.1 hd.2 z0, oft, oft]
    have e1 : (ot z = d) ↔ (z = ot d) := ⟨fun h => by rw [← h, ot_ot], fun h => by rw [h, ot_ot]⟩
    have e2 : ∀ c k : Int, x * (c + k) = x * c + x * k := fun c k => Int.mul_add x c k
    rw [e2, e2]
    by_cases a : z = d
    · by_cases b : z = ot d
      · exact absurd (a.symm.trans b) (fun h => ot_ne d h.symm)
      · rw [if_pos a, if_neg b, if_pos a, if_neg (fun h => b (e1.1 h))]; omega
    · by_cases b : z = ot d
      · rw [if_neg a, if_pos b, if_neg a, if_pos (e1.2 b)]; omega
      · rw [if_neg a, if_neg b, if_neg a, if_neg (fun h => b (e1.1 h))]; omega
/-- A flow: no more than is held, even, kept at each vertex but two. -/
structure FlowOk (m n : Nat) (T C : List Int) (s t : Int) (f : List Int) : Prop where
  len : f.length = n
  cap : ∀ d : Int, 0 ≤ d → d < n → rd f d ≤ rd C d
  odd : ∀ d : Int, 0 ≤ d → d < n → rd f (ot d) = - rd f d
  keep : ∀ v : Int, v ≠ s → v ≠ t → valF T f v n = 0
theorem FlowOk.mid {m n : Nat} {T X C : List Int} {s t : Int} {f : List Int} (G : Good m n T X C) (F : FlowOk m n T C s t f) : Mid n f := fun d d0 d1 => by
  have h1 := F.cap d d0 d1
  have h2 := G.c d d0 d1
  have ho := ot_rng d n d0 d1 G.ev
  have h3 := F.cap (ot d) ho.1 ho.2
  have h4 := G.c (ot d) ho.1 ho.2
  have h5 := F.odd d d0 d1
  omega
theorem valF_st {T f : List Int} {u d y : Int} {n : Nat} (hl : f.length = n) (d0 : 0 ≤ d) (d1 : d < n) : ∀ j : Nat, j ≤ n → valF T (st f d y) u j = valF T f u j + (if d < j ∧ rd T d = u then y - rd f d else 0)
  | 0, _ => by
    rw [valF, valF, if_neg (by omega)]; rfl
  | j + 1, h => by
    have ih := valF_st (T := T) (u := u) (y := y) hl d0 d1 j (by omega)
    rw [valF, valF, ih, rd_st _ _ _ _ d0 (by rw [hl]; exact d1) (by omega)]
    by_cases a : rd T j = u
    · rw [if_pos a, if_pos a]
      by_cases b : (j : Int) = d
      · rw [if_pos b, if_neg (by omega), if_pos ⟨by omega, by rw [← b]; exact a⟩, b]
        omega
      · rw [if_neg b]
        by_cases c : d < j ∧ rd T d = u
        · rw [if_pos c, if_pos ⟨by omega, c.2⟩]; omega
        · rw [if_neg c, if_neg (fun k => c ⟨by omega, k.2⟩)]; omega
    · rw [if_neg a, if_neg a]
      by_cases c : d < j ∧ rd T d = u
      · rw [if_pos c, if_pos ⟨by omega, c.2⟩]
      · rw [if_neg c, if_neg (fun k => c ⟨by
          have : d ≠ j := fun e => a (by rw [← e]; exact k.2)
          omega, k.2⟩)]
theorem valF_aug1 {T f : List Int} {u d x : Int} {n : Nat} (hl : f.length = n) (he : (n : Int) % 2 = 0) (d0 : 0 ≤ d) (d1 : d < n) : valF T (aug1 f x d) u n = valF T f u n + (if rd T d = u then x else 0) - (if rd T (ot d) = u then x else 0) := by
  have ho := ot_rng d n d0 d1 he
  unfold aug1
  rw [valF_st (by rw [st_length]; exact hl) ho.1 ho.2 n (Nat.le_refl _), valF_st hl d0 d1 n (Nat.le_refl _)]
  by_cases a : rd T d = u
  · rw [if_pos ⟨d1, a⟩, if_pos a]
    by_cases b : rd T (ot d) = u
    · rw [if_pos ⟨ho.2, b⟩, if_pos b]; omega
    · rw [if_neg (fun k => b k.2), if_neg b]; omega
  · rw [if_neg (fun k => a k.2), if_neg a]
    by_cases b : rd T (ot d) = u
    · rw [if_pos ⟨ho.2, b⟩, if_pos b]; omega
    · rw [if_neg (fun k => b k.2), if_neg b]; omega
theorem Found.above {T : List Int} {ok : Int → Bool} {m n : Nat} {s : Int} {S : BS} (F : Found T ok m n s S) {v : Int} (hv : v ∈ S.q) (hs : v ≠ s) : 0 ≤ rd S.by_ v ∧ rd S.by_ v < n ∧ ok (rd S.by_ v) = true ∧ rd T (ot (rd S.by_ v)) = v ∧ rd T (rd S.by_ v) ∈ S.q := by
  obtain ⟨k, k0, k1, rfl⟩ := mem_rd hv
  have hk : 0 < k := by
    rcases Int.lt_or_le 0 k with h | h
    · exact h
    · obtain rfl : k = 0 := by omega
      exact absurd F.qr hs
  obtain ⟨a1, a2, a3, a4, l, a5, a6, a7⟩ := F.tr k hk k1
  exact ⟨a1, a2, a3, a4, by rw [← a7]; exact rd_mem a5 (by omega)⟩
theorem valF_aug {T : List Int} {ok : Int → Bool} {m n : Nat} {s u x : Int} {S : BS} (F : Found T ok m n s S) (he : (n : Int) % 2 = 0) : ∀ (P f : List Int) (v : Int), f.length = n → v ∈ S.q → Way T S.by_ s v P → valF T (aug f x P) u n = valF T f u n + (if u = s then x else 0) - (if u = v then x else 0)
  | [], f, v, hl, _, hw => by
    have : v = s := hw
    rw [aug, this]
    split <;> omega
  | d :: l, f, v, hl, hv, hw => by
    obtain ⟨a, b, c⟩ := hw
    obtain ⟨d0, d1, _, hh, hn⟩ := F.above hv a
    rw [← b] at d0 d1 hh hn
    rw [aug, valF_aug F he l (aug1 f x d) (rd T d) (by rw [aug1_length]; exact hl) hn c, valF_aug1 hl he d0 d1, hh]
    by_cases p : rd T d = u
    · rw [if_pos p, if_pos p.symm]
      by_cases q : v = u
      · rw [if_pos q, if_pos q.symm]; omega
      · rw [if_neg q, if_neg (Ne.symm q)]; omega
    · rw [if_neg p, if_neg (Ne.symm p)]
      by_cases q : v = u
      · rw [if_pos q, if_pos q.symm]; omega
      · rw [if_neg q, if_neg (Ne.symm q)]; omega
/-- The least room along a row of darts, from the first on. -/
def leastR (C f : List Int) : List Int → Int
  | [] => 1
  | [d] => rd C d - rd f d
  | d :: l => min (rd C d - rd f d) (leastR C f l)
theorem leastR_le {C f : List Int} : ∀ {P : List Int} {d : Int}, d ∈ P → leastR C f P ≤ rd C d - rd f d
  | [d], e, h => by
    simp at h
    rw [h]
    exact Int.le_refl _
  | d :: d' :: l, e, h => by
    have hh : leastR C f (d :: d' :: l) = min (rd C d - rd f d) (leastR C f (d' :: l)) := rfl
    rw [hh]
    rcases List.mem_cons.1 h with rfl | h
    · omega
    · have := leastR_le (C := C) (f := f) h; omega
theorem leastR_pos {C f : List Int} : ∀ {P : List Int}, (∀ d, d ∈ P → 0 < rd C d - rd f d) → 0 < leastR C f P
  | [], _ => by show (0 : Int) < 1; decide
  | [d], h => h d (by simp)
  | d :: d' :: l, h => by
    have hh : leastR C f (d :: d' :: l) = min (rd C d - rd f d) (leastR C f (d' :: l)) := rfl
    rw [hh]
    have := h d (by simp)
    have := leastR_pos (P := d' :: l) (fun e he => h e (by simp only [List.mem_cons] at he ⊢; exact .inr he))
    omega
theorem leastR_app {C f : List Int} : ∀ {P : List Int} {d : Int}, P ≠ [] → leastR C f (P ++ [d]) = min (leastR C f P) (rd C d - rd f d)
  | [], d, h => absurd rfl h
  | [e], d, _ => rfl
  | e :: e' :: l, d, _ => by
    have hh : leastR C f (e :: e' :: l) = min (rd C e - rd f e) (leastR C f (e' :: l)) := rfl
    have hk : leastR C f ((e :: e' :: l) ++ [d]) = min (rd C e - rd f e) (leastR C f ((e' :: l) ++ [d])) := rfl
    rw [hh, hk, leastR_app (by simp)]
    omega
/-- The flow behind one more way. -/
theorem FlowOk.grow {m n : Nat} {T X C : List Int} {s t : Int} {f P : List Int} {S : BS} (G : Good m n T X C) (K : FlowOk m n T C s t f) (F : Found T (okR C f) m n s S) (ht : t ∈ S.q) (hP : Way T S.by_ s t P) (W : WayOk T (okR C f) n P) (hst : s ≠ t) :
    FlowOk m n T C s t (aug f (leastR C f P) P) ∧ valF T (aug f (leastR C f P) P) s n = valF T f s n + leastR C f P ∧ 0 < leastR C f P := by
  have hroom : ∀ d, d ∈ P → 0 < rd C d - rd f d := fun d hd => of_decide_eq_true (W.rng d hd).2.2
  have hx := leastR_pos hroom
  have hr : ∀ d, d ∈ P → 0 ≤ d ∧ d < n := fun d hd => ⟨(W.rng d hd).1, (W.rng d hd).2.1⟩
  have hv := fun u => valF_aug (u := u) (x := leastR C f P) F G.ev P f t K.len ht hP
  refine ⟨⟨by rw [aug_length]; exact K.len, fun d d0 d1 => ?_, fun d d0 d1 => ?_, fun v h1 h2 => ?_⟩, ?_, hx⟩
  · rw [rd_aug G.ev d0 P f K.len hr]
    by_cases a : d ∈ P
    · rw [oft_one W.nd a, oft_no (W.no d a)]
      have := leastR_le (C := C) (f := f) a
      omega
    · rw [oft_no a]
      by_cases b : ot d ∈ P
      · rw [oft_one W.nd b]
        have := K.cap d d0 d1
        omega
      · rw [oft_no b]
        have := K.cap d d0 d1
        omega
  · have ho := ot_rng d n d0 d1 G.ev
    rw [rd_aug G.ev ho.1 P f K.len hr, rd_aug G.ev d0 P f K.len hr, ot_ot, K.odd d d0 d1]
    omega
  · rw [hv v, if_neg h1, if_neg h2, K.keep v h1 h2]
    rfl
  · rw [hv s, if_pos rfl, if_neg hst]
    omega
theorem FlowOk.zero {m n : Nat} {T X C : List Int} {s t : Int} (G : Good m n T X C) : FlowOk m n T C s t (List.replicate n 0) := by
  have hz : ∀ d : Int, 0 ≤ d → d < n → rd (List.replicate n (0 : Int)) d = 0 := fun d d0 d1 => rep_rd _ _ _ d0 d1
  have hv : ∀ (u : Int) (j : Nat), j ≤ n → valF T (List.replicate n 0) u j = 0 := fun u j => by
    induction j with
    | zero => intro _; rfl
    | succ j ih =>
      intro h
      rw [valF, ih (by omega), hz j (by omega) (by omega)]
      split <;> rfl
  refine ⟨by simp, fun d d0 d1 => ?_, fun d d0 d1 => ?_, fun v _ _ => hv v n (Nat.le_refl _)⟩
  · rw [hz d d0 d1]; exact (G.c d d0 d1).1
  · have ho := ot_rng d n d0 d1 G.ev
    rw [hz d d0 d1, hz _ ho.1 ho.2]
    rfl
theorem valF_zero {T : List Int} {n : Nat} (u : Int) : ∀ j, j ≤ n → valF T (List.replicate n 0) u j = 0
  | 0, _ => rfl
  | j + 1, h => by
    rw [valF, valF_zero u j (by omega), rep_rd _ _ _ (by omega) (by omega)]
    split <;> rfl
theorem FlowOk.bound {m n : Nat} {T X C : List Int} {s t : Int} {f : List Int} (G : Good m n T X C) (K : FlowOk m n T C s t f) (u : Int) : ∀ j, j ≤ n → valF T f u j ≤ 2147483648 * (j : Int)
  | 0, _ => by simp [valF]
  | j + 1, h => by
    have ih := K.bound G u j (by omega)
    have h1 := K.cap j (by omega) (by omega)
    have h2 := G.c j (by omega) (by omega)
    rw [valF]
    split <;> omega
/-- The way along which the flow is made greater. -/
noncomputable def wayOf (T by_ : List Int) (s t : Int) : List Int := by
  classical
  exact if h : ∃ P, Way T by_ s t P then h.choose else []
theorem wayOf_eq {T by_ : List Int} {s t : Int} {P : List Int} (h : Way T by_ s t P) : wayOf T by_ s t = P := by
  have hx : ∃ P, Way T by_ s t P := ⟨P, h⟩
  unfold wayOf
  rw [dif_pos hx]
  exact hx.choose_spec.det h
/-- By which dart each vertex is found, as the flow stands. -/
def byOf (T C f : List Int) (m n : Nat) (s : Int) : List Int := (bEnd T (okR C f) m n s).by_
noncomputable def mStep (T C : List Int) (m n : Nat) (s t : Int) (f : List Int) : List Int :=
  if 0 ≤ rd (byOf T C f m n s) t then aug f (leastR C f (wayOf T (byOf T C f m n s) s t)) (wayOf T (byOf T C f m n s) s t) else f
noncomputable def mIt (T C : List Int) (m n : Nat) (s t : Int) : Nat → List Int
  | 0 => List.replicate n 0
  | k + 1 => mStep T C m n s t (mIt T C m n s t k)
/-- A greatest flow, as it is found. -/
def MostIs (T C : List Int) (m n : Nat) (s t : Int) (f : List Int) : Prop := rd (byOf T C f m n s) t < 0 ∧ ∃ k, f = mIt T C m n s t k
theorem mIt_stop {T C : List Int} {m n : Nat} {s t : Int} {k : Nat} (h : rd (byOf T C (mIt T C m n s t k) m n s) t < 0) : ∀ j, mIt T C m n s t (k + j) = mIt T C m n s t k
  | 0 => rfl
  | j + 1 => by
    have ih := mIt_stop h j
    show mStep T C m n s t (mIt T C m n s t (k + j)) = _
    rw [ih, mStep, if_neg (by omega)]
theorem MostIs.det {T C : List Int} {m n : Nat} {s t : Int} {f g : List Int} (h : MostIs T C m n s t f) (k : MostIs T C m n s t g) : f = g := by
  obtain ⟨h1, a, rfl⟩ := h
  obtain ⟨k1, b, rfl⟩ := k
  rcases Nat.le_total a b with hab | hab
  · have := mIt_stop h1 (b - a)
    rw [show a + (b - a) = b from by omega] at this
    exact this.symm
  · have := mIt_stop k1 (a - b)
    rw [show b + (a - b) = a from by omega] at this
    exact this
section
variable {m n : Nat} {T X C : List Int} {s t : Int}
/-- One step: the way, what it brings. -/
theorem step_ok (G : Good m n T X C) (hs0 : 0 ≤ s) (hs1 : s < m) (ht0 : 0 ≤ t) (ht1 : t < m) (hst : s ≠ t) {f : List Int} (K : FlowOk m n T C s t f) (hb : 0 ≤ rd (byOf T C f m n s) t) :
    ∃ P, Way T (byOf T C f m n s) s t P ∧ P.length < m ∧ WayOk T (okR C f) n P ∧ mStep T C m n s t f = aug f (leastR C f P) P ∧ FlowOk m n T C s t (aug f (leastR C f P) P) ∧ valF T (aug f (leastR C f P) P) s n = valF T f s n + leastR C f P ∧ 0 < leastR C f P := by
  have F := bEnd_found (ok := okR C f) G.ev G.t hs0 hs1
  have ht : t ∈ (bEnd T (okR C f) m n s).q := (F.fq t ht0 ht1).1 hb
  obtain ⟨P, p1, p2, p3⟩ := F.wayOk ht
  have hw : wayOf T (byOf T C f m n s) s t = P := wayOf_eq p1
  obtain ⟨g1, g2, g3⟩ := K.grow G F ht p1 p3 hst
  exact ⟨P, p1, p2, p3, by rw [mStep, if_pos hb, hw], g1, g2, g3⟩
theorem mIt_ok (G : Good m n T X C) (hs0 : 0 ≤ s) (hs1 : s < m) (ht0 : 0 ≤ t) (ht1 : t < m) (hst : s ≠ t) : ∀ k, FlowOk m n T C s t (mIt T C m n s t k)
  | 0 => FlowOk.zero G
  | k + 1 => by
    have K := mIt_ok G hs0 hs1 ht0 ht1 hst k
    by_cases hb : 0 ≤ rd (byOf T C (mIt T C m n s t k) m n s) t
    · obtain ⟨P, _, _, _, e, g, _⟩ := step_ok G hs0 hs1 ht0 ht1 hst K hb
      rw [mIt, e]
      exact g
    · rw [mIt, mStep, if_neg hb]
      exact K
theorem MostIs.flow (G : Good m n T X C) (hs0 : 0 ≤ s) (hs1 : s < m) (ht0 : 0 ≤ t) (ht1 : t < m) (hst : s ≠ t) {f : List Int} (h : MostIs T C m n s t f) : FlowOk m n T C s t f := by
  obtain ⟨_, k, rfl⟩ := h
  exact mIt_ok G hs0 hs1 ht0 ht1 hst k
end
end Go.Proofs.Ytidcofjadlfahaa
