/- Plain laws of cuts: sums across a cut, about a vertex; what is even about each face falls; the least cut's sides hang together, its darts are one round. No Go in sight. -/
import Derived.Test.YtidcofjadlfahaaU17
import Derived.Test.YtidcofjadlfahaaTc
import Derived.Test.YtidcofjadlfahaaTj
import Derived.Test.YtidcofjadlfahaaTq
set_option linter.unusedVariables false
set_option linter.unusedSimpArgs false
namespace Go.Proofs.Ytidcofjadlfahaa
open Go.RowKit

/-- The sum along a row. -/
def sumL (q : Int → Int) : List Int → Int
  | [] => 0
  | d :: l => q d + sumL q l
theorem sumC_L (C : List Int) : ∀ l, sumC C l = sumL (rd C) l
  | [] => rfl
  | d :: l => by rw [sumC, sumL, sumC_L C l]
theorem sumL_erase (q : Int → Int) : ∀ {l : List Int} {d : Int}, d ∈ l → sumL q l = q d + sumL q (l.erase d)
  | [], d, h => by cases h
  | x :: l, d, h => by
    by_cases e : x = d
    · rw [e, List.erase_cons_head, sumL]
    · have h2 : d ∈ l := by
        rcases List.mem_cons.1 h with k | k
        · exact absurd k.symm e
        · exact k
      rw [List.erase_cons_tail (by simpa using e), sumL, sumL, sumL_erase q h2]
      omega
theorem perm_sum (q : Int → Int) : ∀ {L Z : List Int}, L.Nodup → (∀ x, x ∈ L → x ∈ Z) → Z.length ≤ L.length → sumL q Z = sumL q L
  | [], Z, _, _, h => by
    have : Z = [] := List.length_eq_zero_iff.1 (by simpa using h)
    rw [this]
  | d :: l, Z, hn, hs, hl => by
    have hn' := List.nodup_cons.1 hn
    have hd := hs d (by simp)
    have hle := List.length_erase_of_mem hd
    have hp : 0 < Z.length := List.length_pos_of_mem hd
    have ih := perm_sum q (L := l) (Z := Z.erase d) hn'.2 (fun x hx => (List.mem_erase_of_ne (fun e => hn'.1 (by rw [← e]; exact hx))).2 (hs x (by simp [hx]))) (by simp at hl; omega)
    rw [sumL_erase q hd, sumL, ih]
theorem sumL_zero {q : Int → Int} : ∀ {L : List Int}, (∀ x, x ∈ L → q x = 0) → sumL q L = 0
  | [], _ => rfl
  | d :: l, h => by
    rw [sumL, h d (by simp), sumL_zero (fun x hx => h x (by simp [hx]))]
    rfl
theorem sum_one {q : Int → Int} {L : List Int} {d : Int} (hn : L.Nodup) (hd : d ∈ L) (h : ∀ x, x ∈ L → x ≠ d → q x = 0) : sumL q L = q d := by
  rw [sumL_erase q hd, sumL_zero (fun x hx => h x (List.mem_of_mem_erase hx) (fun e => by
    subst e
    exact (List.Nodup.not_mem_erase hn) hx))]
  omega
theorem sumL_le {q p : Int → Int} : ∀ {L : List Int}, (∀ x, x ∈ L → q x ≤ p x) → sumL q L ≤ sumL p L
  | [], _ => Int.le_refl _
  | d :: l, h => by
    have := h d (by simp)
    have := sumL_le (L := l) (fun x hx => h x (by simp [hx]))
    rw [sumL, sumL]
    omega
theorem sumL_congr {q p : Int → Int} : ∀ {L : List Int}, (∀ x, x ∈ L → q x = p x) → sumL q L = sumL p L
  | [], _ => rfl
  | d :: l, h => by rw [sumL, sumL, h d (by simp), sumL_congr (fun x hx => h x (by simp [hx]))]
theorem sumL_map (q : Int → Int) (g : Int → Int) : ∀ L : List Int, sumL q (L.map g) = sumL (fun d => q (g d)) L
  | [] => rfl
  | d :: l => by rw [List.map_cons, sumL, sumL, sumL_map q g l]
theorem outL_nodup (T : List Int) (inb : List Bool) : ∀ j, (outL T inb j).Nodup
  | 0 => by simp [outL]
  | j + 1 => by
    have ih := outL_nodup T inb j
    rw [outL]
    split
    · refine List.nodup_append.2 ⟨ih, by simp, fun a ha b hb => ?_⟩
      have h := (outL_mem.1 ha).2.1
      rw [List.mem_singleton] at hb
      omega
    · exact ih
/-- What begins at vertices that are in. -/
def inF (T f : List Int) (inb : List Bool) : Nat → Int
  | 0 => 0
  | j + 1 => if rb inb (rd T j) = true then inF T f inb j + rd f j else inF T f inb j
def inV (T f : List Int) (inb : List Bool) (j : Nat) : Nat → Int
  | 0 => 0
  | u + 1 => if rb inb u = true then inV T f inb j u + valF T f u j else inV T f inb j u
theorem inV_zero (T f : List Int) (inb : List Bool) : ∀ u, inV T f inb 0 u = 0
  | 0 => rfl
  | u + 1 => by
    rw [inV, inV_zero T f inb u]
    split <;> rfl
theorem inV_next (T f : List Int) (inb : List Bool) (j : Nat) : ∀ u : Nat, inV T f inb (j + 1) u = inV T f inb j u + (if 0 ≤ rd T j ∧ rd T j < u ∧ rb inb (rd T j) = true then rd f j else 0)
  | 0 => by rw [inV, inV, if_neg (by omega)]; rfl
  | u + 1 => by
    have ih := inV_next T f inb j u
    rw [inV, inV, ih]
    by_cases b : rb inb u = true
    · rw [if_pos b, if_pos b, valF]
      by_cases e : rd T j = u
      · rw [if_pos e, if_neg (by omega), if_pos ⟨by omega, by omega, by rw [e]; exact b⟩]
        omega
      · rw [if_neg e]
        by_cases c : 0 ≤ rd T j ∧ rd T j < u ∧ rb inb (rd T j) = true
        · rw [if_pos c, if_pos ⟨c.1, by omega, c.2.2⟩]; omega
        · rw [if_neg c, if_neg (fun k => c ⟨k.1, by omega, k.2.2⟩)]; omega
    · rw [if_neg b, if_neg b]
      by_cases c : 0 ≤ rd T j ∧ rd T j < u ∧ rb inb (rd T j) = true
      · rw [if_pos c, if_pos ⟨c.1, by omega, c.2.2⟩]
      · rw [if_neg c, if_neg (fun k => c ⟨k.1, by
          have : rd T j ≠ u := fun e => b (by rw [← e]; exact k.2.2)
          omega, k.2.2⟩)]
theorem inV_inF {T f : List Int} {inb : List Bool} {n m : Nat} (ht : ∀ d : Int, 0 ≤ d → d < n → 0 ≤ rd T d ∧ rd T d < m) : ∀ j, j ≤ n → inV T f inb j m = inF T f inb j
  | 0, _ => inV_zero T f inb m
  | j + 1, h => by
    have ih := inV_inF (f := f) (inb := inb) ht j (by omega)
    have hr := ht j (by omega) (by omega)
    rw [inV_next, inF, ih]
    by_cases b : rb inb (rd T j) = true
    · rw [if_pos b, if_pos ⟨hr.1, hr.2, b⟩]
    · rw [if_neg b, if_neg (fun k => b k.2.2)]; omega
theorem inF_out {T f : List Int} {inb : List Bool} {n : Nat} (odd : ∀ d : Int, 0 ≤ d → d < n → rd f (ot d) = - rd f d) : ∀ k : Nat, 2 * k ≤ n → inF T f inb (2 * k) = sumC f (outL T inb (2 * k))
  | 0, _ => rfl
  | k + 1, h => by
    have ih := inF_out (T := T) (inb := inb) odd k (by omega)
    have e0 : ot ((2 * k : Nat) : Int) = ((2 * k + 1 : Nat) : Int) := by unfold ot; rw [if_pos (by omega)]; omega
    have e1 : ot ((2 * k + 1 : Nat) : Int) = ((2 * k : Nat) : Int) := by unfold ot; rw [if_neg (by omega)]; omega
    have ho := odd ((2 * k : Nat) : Int) (by omega) (by omega)
    rw [e0] at ho
    have a1 : outL T inb (2 * k + 1) = if rb inb (rd T ((2 * k : Nat) : Int)) = true ∧ rb inb (rd T (ot ((2 * k : Nat) : Int))) = false then outL T inb (2 * k) ++ [((2 * k : Nat) : Int)] else outL T inb (2 * k) := rfl
    have a2 : outL T inb (2 * k + 1 + 1) = if rb inb (rd T ((2 * k + 1 : Nat) : Int)) = true ∧ rb inb (rd T (ot ((2 * k + 1 : Nat) : Int))) = false then outL T inb (2 * k + 1) ++ [((2 * k + 1 : Nat) : Int)] else outL T inb (2 * k + 1) := rfl
    have b1 : inF T f inb (2 * k + 1) = if rb inb (rd T ((2 * k : Nat) : Int)) = true then inF T f inb (2 * k) + rd f ((2 * k : Nat) : Int) else inF T f inb (2 * k) := rfl
    have b2 : inF T f inb (2 * k + 1 + 1) = if rb inb (rd T ((2 * k + 1 : Nat) : Int)) = true then inF T f inb (2 * k + 1) + rd f ((2 * k + 1 : Nat) : Int) else inF T f inb (2 * k + 1) := rfl
    rw [e0] at a1
    rw [e1] at a2
    rw [show 2 * (k + 1) = 2 * k + 1 + 1 from by omega, a2, b2, a1, b1]
    have sn : ∀ (l : List Int) (d : Int), sumC f (l ++ [d]) = sumC f l + rd f d := fun l d => by
      rw [sumC_app]
      simp [sumC]
    obtain ⟨p, hp⟩ : ∃ p, rd f ((2 * k : Nat) : Int) = p := ⟨_, rfl⟩
    obtain ⟨q, hq⟩ : ∃ q, rd f ((2 * k + 1 : Nat) : Int) = q := ⟨_, rfl⟩
    obtain ⟨x, hx⟩ : ∃ x, rb inb (rd T ((2 * k : Nat) : Int)) = x := ⟨_, rfl⟩
    obtain ⟨y, hy⟩ : ∃ y, rb inb (rd T ((2 * k + 1 : Nat) : Int)) = y := ⟨_, rfl⟩
    rw [hp, hq] at ho
    rw [hx, hy, ih, hp, hq]
    obtain ⟨z0, h0⟩ : ∃ z, ((2 * k : Nat) : Int) = z := ⟨_, rfl⟩
    obtain ⟨z1, h1⟩ : ∃ z, ((2 * k + 1 : Nat) : Int) = z := ⟨_, rfl⟩
    rw [h0] at hp ⊢
    rw [h1] at hq ⊢
    cases x <;> cases y <;> simp [sn, hp, hq] <;> omega
/-- What begins at vertices that are in runs out of them. -/
theorem cross {T f : List Int} {inb : List Bool} {n m : Nat} (he : (n : Int) % 2 = 0) (ht : ∀ d : Int, 0 ≤ d → d < n → 0 ≤ rd T d ∧ rd T d < m) (odd : ∀ d : Int, 0 ≤ d → d < n → rd f (ot d) = - rd f d) : inV T f inb n m = sumC f (outL T inb n) := by
  have h := inF_out (T := T) (inb := inb) odd (n / 2) (by omega)
  rw [show 2 * (n / 2) = n from by omega] at h
  rw [inV_inF ht n (Nat.le_refl _), h]
theorem inV_all {T f : List Int} {inb : List Bool} {n : Nat} (h : ∀ v : Int, valF T f v n = 0) : ∀ u, inV T f inb n u = 0
  | 0 => rfl
  | u + 1 => by
    rw [inV, inV_all h u, h]
    split <;> rfl
theorem inV_flow {T f : List Int} {inb : List Bool} {n : Nat} {s t : Int} (keep : ∀ v : Int, v ≠ s → v ≠ t → valF T f v n = 0) (hs0 : 0 ≤ s) (hs : rb inb s = true) (ht : rb inb t = false) : ∀ u : Nat, inV T f inb n u = if s < u then valF T f s n else 0
  | 0 => by rw [inV, if_neg (by omega)]
  | u + 1 => by
    have ih := inV_flow keep hs0 hs ht u
    rw [inV, ih]
    by_cases e : (u : Int) = s
    · rw [if_pos (by rw [e]; exact hs), if_neg (by omega), if_pos (by omega), e]; omega
    · by_cases b : rb inb u = true
      · rw [if_pos b, keep u e (fun k => by rw [k, ht] at b; cases b)]
        by_cases c : s < (u : Int)
        · rw [if_pos c, if_pos (by omega)]; omega
        · rw [if_neg c, if_neg (by omega)]; rfl
      · rw [if_neg b]
        by_cases c : s < (u : Int)
        · rw [if_pos c, if_pos (by omega)]
        · rw [if_neg c, if_neg (by omega)]
/-- What runs out of a side with the one, without the other one. -/
theorem FlowOk.across {m n : Nat} {T X C : List Int} {s t : Int} {f : List Int} {inb : List Bool} (G : Good m n T X C) (K : FlowOk m n T C s t f) (hs0 : 0 ≤ s) (hs1 : s < m) (hs : rb inb s = true) (ht : rb inb t = false) : valF T f s n = sumC f (outL T inb n) := by
  rw [← cross G.ev G.t K.odd, inV_flow K.keep hs0 hs ht, if_pos hs1]
theorem FlowOk.weak {m n : Nat} {T X C : List Int} {s t : Int} {f : List Int} {inb : List Bool} (G : Good m n T X C) (K : FlowOk m n T C s t f) (hs0 : 0 ≤ s) (hs1 : s < m) (hs : rb inb s = true) (ht : rb inb t = false) : valF T f s n ≤ cutSum T C inb n := by
  rw [K.across G hs0 hs1 hs ht, cutSum, sumC_L, sumC_L]
  exact sumL_le (fun x hx => K.cap x (outL_mem.1 hx).1 (outL_mem.1 hx).2.1)
/-- A sum about a vertex. -/
def sumQ (T : List Int) (q : Int → Int) (v : Int) : Nat → Int
  | 0 => 0
  | j + 1 => if rd T j = v then sumQ T q v j + q j else sumQ T q v j
def aboutL (T : List Int) (v : Int) : Nat → List Int
  | 0 => []
  | j + 1 => if rd T j = v then aboutL T v j ++ [(j : Int)] else aboutL T v j
theorem sumL_app (q : Int → Int) : ∀ l k : List Int, sumL q (l ++ k) = sumL q l + sumL q k
  | [], k => by simp [sumL]
  | d :: l, k => by rw [List.cons_append, sumL, sumL, sumL_app q l k]; omega
theorem sumQ_L (T : List Int) (q : Int → Int) (v : Int) : ∀ j, sumQ T q v j = sumL q (aboutL T v j)
  | 0 => rfl
  | j + 1 => by
    rw [sumQ, aboutL, sumQ_L T q v j]
    split
    · rw [sumL_app]; simp [sumL]
    · rfl
theorem valF_Q (T f : List Int) (v : Int) : ∀ j, valF T f v j = sumQ T (rd f) v j
  | 0 => rfl
  | j + 1 => by rw [valF, sumQ, valF_Q T f v j]
theorem about_mem {T : List Int} {v d : Int} : ∀ {j : Nat}, d ∈ aboutL T v j ↔ 0 ≤ d ∧ d < j ∧ rd T d = v
  | 0 => by simp [aboutL]; omega
  | j + 1 => by
    have ih := about_mem (T := T) (v := v) (d := d) (j := j)
    rw [aboutL]
    split
    · rename_i h
      rw [List.mem_append, ih, List.mem_singleton]
      constructor
      · rintro (k | rfl)
        · exact ⟨k.1, by omega, k.2.2⟩
        · exact ⟨by omega, by omega, h⟩
      · rintro ⟨a, b, c⟩
        by_cases e : d = j
        · exact .inr e
        · exact .inl ⟨a, by omega, c⟩
    · rename_i h
      rw [ih]
      constructor
      · rintro k
        exact ⟨k.1, by omega, k.2.2⟩
      · rintro ⟨a, b, c⟩
        by_cases e : d = j
        · subst e; exact absurd c h
        · exact ⟨a, by omega, c⟩
theorem about_nodup (T : List Int) (v : Int) : ∀ j, (aboutL T v j).Nodup
  | 0 => by simp [aboutL]
  | j + 1 => by
    have ih := about_nodup T v j
    rw [aboutL]
    split
    · refine List.nodup_append.2 ⟨ih, by simp, fun a ha b hb => ?_⟩
      have h := (about_mem.1 ha).2.1
      rw [List.mem_singleton] at hb
      omega
    · exact ih
theorem sumQ_congr {T : List Int} {q p : Int → Int} {v : Int} {j : Nat} (h : ∀ d : Int, 0 ≤ d → d < j → rd T d = v → q d = p d) : sumQ T q v j = sumQ T p v j := by
  rw [sumQ_L, sumQ_L]
  exact sumL_congr (fun x hx => h x (about_mem.1 hx).1 (about_mem.1 hx).2.1 (about_mem.1 hx).2.2)
/-- Turned about a vertex a sum stays. -/
theorem sumQ_turn {T : List Int} {n : Nat} {g : Int → Int} (hp : Perm n g) (hg : ∀ d : Int, 0 ≤ d → d < n → rd T (g d) = rd T d) (q : Int → Int) (v : Int) : sumQ T (fun d => q (g d)) v n = sumQ T q v n := by
  rw [sumQ_L, sumQ_L, ← sumL_map]
  refine (perm_sum q (L := (aboutL T v n).map g) (Z := aboutL T v n) ?_ ?_ (by simp)).symm
  · refine nodup_map_of (about_nodup T v n) (fun x y hx hy e => ?_)
    have hx := about_mem.1 hx
    have hy := about_mem.1 hy
    exact hp.inj x y hx.1 hx.2.1 hy.1 hy.2.1 e
  · intro x hx
    obtain ⟨y, hy, rfl⟩ := List.mem_map.1 hx
    have hy := about_mem.1 hy
    have hr := hp.rng y hy.1 hy.2.1
    exact about_mem.2 ⟨hr.1, hr.2, by rw [hg y hy.1 hy.2.1]; exact hy.2.2⟩
/-- A flow that falls from height to height changes nothing about a vertex. -/
theorem valF_fall {T f g : List Int} {n : Nat} {q p : Int → Int} {v : Int} : ∀ j, j ≤ n → (∀ d : Int, 0 ≤ d → d < n → rd g d = rd f d + q d - p d) → valF T g v j = valF T f v j + sumQ T q v j - sumQ T p v j
  | 0, _, _ => rfl
  | j + 1, h, hg => by
    have ih := valF_fall (T := T) (v := v) j (by omega) hg
    rw [valF, valF, sumQ, sumQ, ih, hg j (by omega) (by omega)]
    split <;> omega
theorem fall_keep {m n : Nat} {T X C : List Int} (G : Good m n T X C) {f g : List Int} {h : Int → Int} (hg : ∀ d : Int, 0 ≤ d → d < n → rd g d = rd f d + h (rd (facesOf X) d) - h (rd (facesOf X) (ot d))) (v : Int) : valF T g v n = valF T f v n := by
  have heX : (X.length : Int) % 2 = 0 := by rw [G.lX]; exact G.ev
  have F := faces_all (X := X) (by rw [G.lX]; exact G.px) heX
  have h1 := valF_fall (T := T) (v := v) n (Nat.le_refl _) (q := fun d => h (rd (facesOf X) d)) (p := fun d => h (rd (facesOf X) (ot d))) hg
  have h2 : sumQ T (fun d => h (rd (facesOf X) (ot d))) v n = sumQ T (fun d => h (rd (facesOf X) (rd X d))) v n := sumQ_congr (fun d d0 d1 _ => by
    have ho := ot_rng d n d0 d1 G.ev
    have := F.inv (ot d) ho.1 (by rw [G.lX]; exact ho.2) (F.don _ ho.1 (by rw [G.lX]; exact ho.2) (by rw [G.lX]; exact ho.2))
    rw [phi, ot_ot] at this
    rw [this])
  have h3 := sumQ_turn G.px G.tu (fun d => h (rd (facesOf X) d)) v
  rw [h1, h2, h3]
  omega

theorem rd_of {α : Type} (g : Nat → Int) (N : Nat) (d : Int) (d0 : 0 ≤ d) (d1 : d < N) : rd ((List.range N).map g) d = g d.toNat := by
  have h : d.toNat < N := by omega
  unfold rd
  rw [List.getD_eq_getElem?_getD, List.getElem?_map, List.getElem?_range h]
  rfl
theorem rb_of (g : Nat → Bool) (N : Nat) (d : Int) (d0 : 0 ≤ d) (d1 : d < N) : rb ((List.range N).map g) d = g d.toNat := by
  have h : d.toNat < N := by omega
  unfold rb
  rw [List.getD_eq_getElem?_getD, List.getElem?_map, List.getElem?_range h]
  rfl
section
variable {n : PNet} {up : List Int} {m : Nat} {r : Int}
theorem left_or (hF : Fine n) {z : Int} (z0 : 0 ≤ z) (z1 : z < n.T.length) (h1 : z ∉ up) (h2 : ot z ∉ up) : z ∈ leftL n.T up ∨ ot z ∈ leftL n.T up := by
  have hev := hF.ev
  by_cases c : z % 2 = 0
  · have ho : ot z = z + 1 := by unfold ot; rw [if_pos c]
    rw [ho] at h2 ⊢
    refine .inl (left_mem.2 ⟨(z / 2).toNat, by omega, by omega, ?_, ?_⟩)
    · rw [show 2 * (((z / 2).toNat : Nat) : Int) = z from by omega]
      exact decide_eq_false h1
    · rw [show 2 * (((z / 2).toNat : Nat) : Int) = z from by omega]
      exact decide_eq_false h2
  · have ho : ot z = z - 1 := by unfold ot; rw [if_neg c]
    rw [ho] at h2 ⊢
    exact .inr (left_mem.2 ⟨(z / 2).toNat, by omega, by omega, by
      rw [show 2 * (((z / 2).toNat : Nat) : Int) = z - 1 from by omega]
      exact decide_eq_false h2, by
      rw [show 2 * (((z / 2).toNat : Nat) : Int) + 1 = z from by omega]
      exact decide_eq_false h1⟩)
/-- What is even about each face, and nothing on the tree, is nothing. -/
theorem left_zero (hF : Fine n) (hM : Map n) (hN : n.N = m) (hpos : 0 < n.T.length) (Y : IsTree n.T up m r) {c : List Int} {N : Nat} (hl : n.T.length = N)
    (odd : ∀ d : Int, 0 ≤ d → d < N → rd c (ot d) = - rd c d) (cir : ∀ v : Int, valF (facesOf n.X) c v N = 0) (off : ∀ z : Int, 0 ≤ z → z < N → z ∈ up ∨ ot z ∈ up → rd c z = 0) :
    ∀ z : Int, 0 ≤ z → z < N → rd c z = 0 := by
  have hlx := hF.lx
  have hev := hF.ev
  have heX : (n.X.length : Int) % 2 = 0 := by rw [hlx]; exact hev
  have F := faces_all hF.px heX
  have heN : (N : Int) % 2 = 0 := by rw [← hl]; exact hev
  obtain ⟨k, hk⟩ : ∃ k : Nat, faceN n.X = k := ⟨(faceN n.X).toNat, by have := F.k0; omega⟩
  obtain ⟨_, LT⟩ := left_tree hF hM hN hpos Y hk
  have LO := fun (z : Int) (z0 : 0 ≤ z) (z1 : z < n.T.length) (h1 : z ∉ up) (h2 : ot z ∉ up) => left_or (up := up) hF z0 z1 h1 h2
  obtain ⟨fs, hfs⟩ : ∃ fs, facesOf n.X = fs := ⟨_, rfl⟩
  have LR : ∀ i : Nat, i < (leftL n.T up).length → 0 ≤ rd (leftL n.T up) i ∧ rd (leftL n.T up) i + 1 < n.T.length ∧ ot (rd (leftL n.T up) i) = rd (leftL n.T up) i + 1 := fun i hi => left_rng (rd_mem (by omega) (by omega))
  obtain ⟨l, hll⟩ : ∃ l, leftL n.T up = l := ⟨_, rfl⟩
  rw [hfs] at F LT cir
  rw [hll] at LT LO LR
  have frng : ∀ z : Int, 0 ≤ z → z < N → 0 ≤ rd fs z ∧ rd fs z < k := fun z z0 z1 => by
    have hz : z < n.X.length := by rw [hlx, hl]; exact z1
    have a := F.don z z0 hz hz
    rcases F.rng z z0 hz with h | h
    · omega
    · omega
  have keyz : ∀ (t i : Nat), i < l.length → l.length - i ≤ t → rd c (rd l i) = 0 := by
    intro t
    induction t with
    | zero => intro i hi ht; omega
    | succ t ih =>
      intro i hi ht
      obtain ⟨l0, l1, lo⟩ := LR i hi
      have l1' : rd l i < N := by omega
      obtain ⟨inb, hinb⟩ : ∃ inb : List Bool, inb = (List.range k).map (fun (v : Nat) => decide (rd (uf fs l k i) v = rd (uf fs l k i) (rd fs (rd l i)))) := ⟨_, rfl⟩
      have hb : ∀ v : Int, 0 ≤ v → v < k → (rb inb v = true ↔ rd (uf fs l k i) v = rd (uf fs l k i) (rd fs (rd l i))) := fun v v0 v1 => by
        rw [hinb, rb_of _ _ _ v0 v1, show ((v.toNat : Nat) : Int) = v from by omega, decide_eq_true_eq]
      have cr := cross (T := fs) (f := c) (inb := inb) (m := k) heN frng odd
      rw [inV_all cir] at cr
      have g0 := frng (rd l i) l0 l1'
      have g1 := frng (rd l i + 1) (by omega) (by omega)
      have nb : rb inb (rd fs (rd l i + 1)) = false := by
        cases h : rb inb (rd fs (rd l i + 1)) with
        | false => rfl
        | true => exact absurd ((hb _ g1.1 g1.2).1 h).symm (LT i hi)
      have yb : rb inb (rd fs (rd l i)) = true := (hb _ g0.1 g0.2).2 rfl
      have hm : rd l i ∈ outL fs inb N := outL_mem.2 ⟨l0, l1', yb, by rw [lo]; exact nb⟩
      rw [sumC_L, sum_one (outL_nodup fs inb N) hm (fun x hx hne => ?_)] at cr
      · exact cr.symm
      · obtain ⟨x0, x1, xa, xb⟩ := outL_mem.1 hx
        have xo := ot_rng x N x0 x1 heN
        by_cases u1 : x ∈ up
        · exact off x x0 x1 (.inl u1)
        · by_cases u2 : ot x ∈ up
          · exact off x x0 x1 (.inr u2)
          · have fx := frng x x0 x1
            have fo := frng (ot x) xo.1 xo.2
            -- a dart of an edge that is left
            have key2 : ∀ j : Nat, j < l.length → (x = rd l j ∨ ot x = rd l j) → rd c x = 0 := by
              intro j hj hx2
              obtain ⟨j0, j1, jo⟩ := LR j hj
              rcases Nat.lt_trichotomy j i with h | h | h
              · exfalso
                have f0 := frng (rd l j) j0 (by omega)
                have f1 := frng (rd l j + 1) (by omega) (by omega)
                have e := uf_keep fs l k f0.1 f0.2 f1.1 f1.2 (uf_joins fs l k (i := j) f0 f1) (i - (j + 1))
                rw [show j + 1 + (i - (j + 1)) = i from by omega, ← jo] at e
                have xa' := (hb _ fx.1 fx.2).1 xa
                have xb' : ¬ rd (uf fs l k i) (rd fs (ot x)) = rd (uf fs l k i) (rd fs (rd l i)) := fun h => by rw [(hb _ fo.1 fo.2).2 h] at xb; cases xb
                rcases hx2 with h2 | h2
                · rw [← h2] at e
                  exact xb' (e.symm.trans xa')
                · rw [← h2, ot_ot] at e
                  exact xb' (e.trans xa')
              · subst h
                rcases hx2 with h2 | h2
                · exact absurd h2 hne
                · rw [h2, yb] at xb
                  cases xb
              · have z := ih j hj (by omega)
                rcases hx2 with h2 | h2
                · rw [h2]; exact z
                · have := odd x x0 x1
                  rw [h2, z] at this
                  omega
            rcases LO x x0 (by omega) u1 u2 with h | h
            · obtain ⟨j, j0, j1, e⟩ := mem_rd h
              exact key2 j.toNat (by omega) (.inl (by rw [show ((j.toNat : Nat) : Int) = j from by omega]; exact e.symm))
            · obtain ⟨j, j0, j1, e⟩ := mem_rd h
              exact key2 j.toNat (by omega) (.inr (by rw [show ((j.toNat : Nat) : Int) = j from by omega]; exact e.symm))
  intro x x0 x1
  by_cases u1 : x ∈ up
  · exact off x x0 x1 (.inl u1)
  · by_cases u2 : ot x ∈ up
    · exact off x x0 x1 (.inr u2)
    · rcases LO x x0 (by omega) u1 u2 with h | h
      · obtain ⟨j, j0, j1, e⟩ := mem_rd h
        have := keyz l.length j.toNat (by omega) (by omega)
        rwa [show ((j.toNat : Nat) : Int) = j from by omega, e] at this
      · obtain ⟨j, j0, j1, e⟩ := mem_rd h
        have := keyz l.length j.toNat (by omega) (by omega)
        rw [show ((j.toNat : Nat) : Int) = j from by omega, e] at this
        have := odd x x0 x1
        omega
/-- What is even about each face falls from vertex to vertex. -/
theorem falls (hF : Fine n) (hM : Map n) (hN : n.N = m) (hpos : 0 < n.T.length) (Y : IsTree n.T up m r) {C : List Int} {N : Nat} (hl : n.T.length = N) (G : Good m N n.T n.X C) {c : List Int}
    (odd : ∀ d : Int, 0 ≤ d → d < N → rd c (ot d) = - rd c d) (cir : ∀ v : Int, valF (facesOf n.X) c v N = 0) :
    ∃ p : Int → Int, ∀ d : Int, 0 ≤ d → d < N → rd c d = p (rd n.T d) - p (rd n.T (ot d)) := by
  have hev := hF.ev
  have htr : ∀ d : Int, 0 ≤ d → d < n.T.length → 0 ≤ rd n.T d ∧ rd n.T d < m := by have := hF.tr; rwa [hN] at this
  obtain ⟨p, hp⟩ : ∃ p : Int → Int, p = fun v => sumC c (wayL n.T up m v) := ⟨_, rfl⟩
  refine ⟨p, ?_⟩
  have heX : (n.X.length : Int) % 2 = 0 := by rw [G.lX]; exact G.ev
  have F := faces_all (X := n.X) (by rw [G.lX]; exact G.px) heX
  -- the tree's darts
  have tree : ∀ z : Int, 0 ≤ z → z < N → z ∈ up → rd c z = p (rd n.T z) - p (rd n.T (ot z)) := by
    intro z z0 z1 hz
    obtain ⟨u, u0, u1, hu⟩ := mem_rd hz
    rw [Y.len] at u1
    have hur : u ≠ r := fun e => by
      have := (Y.ok u u0 u1).1 e
      omega
    have h3 := ((Y.ok u u0 u1).2 hur).2.2
    have hw := Y.way hev htr u0 u1 hur
    have hc : climb n.T up r u = rd n.T (ot z) := by rw [climb, if_neg hur, hu]
    rw [hu] at h3 hw
    rw [h3, hp]
    show rd c z = sumC c (wayL n.T up m u) - sumC c (wayL n.T up m (rd n.T (ot z)))
    rw [hw, hc, sumC]
    omega
  obtain ⟨c', hc'⟩ : ∃ c' : List Int, c' = (List.range N).map (fun (i : Nat) => rd c i + p (rd n.T (ot i)) - p (rd n.T i)) := ⟨_, rfl⟩
  have rc : ∀ d : Int, 0 ≤ d → d < N → rd c' d = rd c d + p (rd n.T (ot d)) - p (rd n.T d) := fun d d0 d1 => by
    rw [hc', rd_of (α := Int) _ _ _ d0 d1, show ((d.toNat : Nat) : Int) = d from by omega]
  have z := left_zero hF hM hN hpos Y hl (c := c') (fun d d0 d1 => ?_) (fun v => ?_) (fun d d0 d1 h => ?_)
  · intro d d0 d1
    have a := z d d0 d1
    have b := rc d d0 d1
    omega
  · have ho := ot_rng d N d0 d1 G.ev
    have := odd d d0 d1
    rw [rc _ ho.1 ho.2, rc _ d0 d1, ot_ot]
    omega
  · have h1 := valF_fall (T := facesOf n.X) (v := v) N (Nat.le_refl _) (q := fun d => p (rd n.T (ot d))) (p := fun d => p (rd n.T d)) rc
    have pp : Perm N (phi n.X) := by
      refine ⟨fun d d0 d1 => ?_, fun d e d0 d1 e0 e1 h => ?_⟩
      · have ho := ot_rng d N d0 d1 G.ev
        exact G.px.rng _ ho.1 ho.2
      · have ho := ot_rng d N d0 d1 G.ev
        have ho2 := ot_rng e N e0 e1 G.ev
        have := G.px.inj _ _ ho.1 ho.2 ho2.1 ho2.2 h
        rw [← ot_ot d, this, ot_ot]
    have h2 : sumQ (facesOf n.X) (fun d => p (rd n.T (ot d))) v N = sumQ (facesOf n.X) (fun d => p (rd n.T (phi n.X d))) v N := sumQ_congr (fun d d0 d1 _ => by
      have ho := ot_rng d N d0 d1 G.ev
      rw [phi, G.tu _ ho.1 ho.2])
    have h3 := sumQ_turn (T := facesOf n.X) pp (fun d d0 d1 => F.inv d d0 (by rw [G.lX]; exact d1) (F.don d d0 (by rw [G.lX]; exact d1) (by rw [G.lX]; exact d1))) (fun d => p (rd n.T d)) v
    rw [h1, cir, h2, h3]
    omega
  · have b := rc d d0 d1
    rcases h with h | h
    · have a := tree d d0 d1 h
      omega
    · have ho := ot_rng d N d0 d1 G.ev
      have a := tree (ot d) ho.1 ho.2 h
      rw [ot_ot] at a
      have o := odd d d0 d1
      omega
end
/-- Along a step from z on. -/
def seg (f : Int → Int) (z : Int) : Nat → List Int
  | 0 => []
  | k + 1 => z :: seg f (f z) k
theorem seg_length (f : Int → Int) : ∀ (k : Nat) (z : Int), (seg f z k).length = k
  | 0, _ => rfl
  | k + 1, z => by rw [seg, List.length_cons, seg_length f k]
theorem seg_map (f : Int → Int) : ∀ (k : Nat) (z : Int), (List.range k).map (itr f z) = seg f z k
  | 0, _ => rfl
  | k + 1, z => by
    rw [List.range_succ_eq_map, List.map_cons, List.map_map, seg, ← seg_map f k (f z)]
    congr 1
    refine List.map_congr_left (fun i _ => ?_)
    show itr f z (i + 1) = itr f (f z) i
    rw [Nat.add_comm, itr_add]
    rfl
theorem seg_in {f : Int → Int} {P : Int → Prop} (hf : ∀ z, P z → P (f z)) : ∀ (k : Nat) (z : Int), P z → ∀ x, x ∈ seg f z k → P x
  | 0, _, _, x, h => by cases h
  | k + 1, z, hz, x, h => by
    rw [seg] at h
    rcases List.mem_cons.1 h with rfl | h
    · exact hz
    · exact seg_in hf k (f z) (hf z hz) x h
theorem oft_pos {z : Int} : ∀ {l : List Int}, 0 ≤ oft z l ∧ (z ∈ l → 1 ≤ oft z l)
  | [] => ⟨Int.le_refl _, fun h => by cases h⟩
  | d :: l => by
    have ih := oft_pos (z := z) (l := l)
    rw [oft]
    refine ⟨by split <;> omega, fun h => ?_⟩
    by_cases e : z = d
    · rw [if_pos e]; omega
    · rw [if_neg e]
      rcases List.mem_cons.1 h with k | k
      · exact absurd k e
      · have := ih.2 k; omega
/-- Once along a row that goes from face to face: even about each face but the first and the last. -/
theorem valF_seg {fs L : List Int} {f : Int → Int} {n : Nat} (he : (n : Int) % 2 = 0) (hL : ∀ z, z ∈ L → 0 ≤ z ∧ z < n) (hf : ∀ z, z ∈ L → f z ∈ L ∧ rd fs (f z) = rd fs (ot z)) (u : Int) : ∀ (k : Nat) (z : Int) (c : List Int), c.length = n → z ∈ L →
    valF fs (aug c 1 (seg f z k)) u n = valF fs c u n + (if rd fs z = u then 1 else 0) - (if rd fs (itr f z k) = u then 1 else 0)
  | 0, z, c, _, _ => by
    rw [seg, aug, itr]
    omega
  | k + 1, z, c, hc, hz => by
    have hr := hL z hz
    have hn := hf z hz
    rw [seg, aug, valF_seg he hL hf u k (f z) (aug1 c 1 z) (by rw [aug1_length]; exact hc) hn.1, valF_aug1 hc he hr.1 hr.2, hn.2]
    have : itr f (f z) k = itr f z (k + 1) := by rw [Nat.add_comm k 1, itr_add]; rfl
    rw [this]
    omega
/-- The darts that run out of vertices that hang together, to vertices that do, are one round in the dual. -/
theorem one_round {fs L T : List Int} {inb : List Bool} {f : Int → Int} {n m : Nat} (he : (n : Int) % 2 = 0) (ht : ∀ d : Int, 0 ≤ d → d < n → 0 ≤ rd T d ∧ rd T d < m) (hL : outL T inb n = L) (hne : L ≠ [])
    (hf : ∀ z, z ∈ L → f z ∈ L ∧ rd fs (f z) = rd fs (ot z))
    (pot : ∀ c : List Int, (∀ d : Int, 0 ≤ d → d < n → rd c (ot d) = - rd c d) → (∀ v : Int, valF fs c v n = 0) → ∃ p : Int → Int, ∀ d : Int, 0 ≤ d → d < n → rd c d = p (rd T d) - p (rd T (ot d)))
    (con : ∀ (sd : Bool) (p : Int → Int), (∀ d : Int, 0 ≤ d → d < n → rb inb (rd T d) = sd → rb inb (rd T (ot d)) = sd → p (rd T d) = p (rd T (ot d))) → ∀ u v : Int, 0 ≤ u → u < m → 0 ≤ v → v < m → rb inb u = sd → rb inb v = sd → p u = p v)
    {z0 : Int} (hz0 : z0 ∈ L) : itr f z0 L.length = z0 ∧ ∀ q : Int → Int, sumL q (seg f z0 L.length) = sumL q L := by
  have lr : ∀ z, z ∈ L → 0 ≤ z ∧ z < n := fun z hz => by
    rw [← hL] at hz
    have := outL_mem.1 hz
    exact ⟨this.1, this.2.1⟩
  have lm : ∀ i, itr f z0 i ∈ L := fun i => by
    induction i with
    | zero => exact hz0
    | succ i ih => exact (hf _ ih).1
  have lo : ∀ z, z ∈ L → ot z ∉ L := fun z hz h => by
    rw [← hL] at hz h
    have a := (outL_mem.1 hz).2.2.1
    have b := (outL_mem.1 h).2.2.2
    rw [ot_ot, a] at b
    cases b
  -- some place comes twice
  have twice : ∃ i j : Nat, i < j ∧ j ≤ L.length ∧ itr f z0 i = itr f z0 j := by
    by_cases h : ∃ i j : Nat, i < j ∧ j ≤ L.length ∧ itr f z0 i = itr f z0 j
    · exact h
    · exfalso
      have nd := nodup_map (fun i => itr f z0 i) (L.length + 1) (fun i j hij hj e => h ⟨i, j, hij, by omega, e⟩)
      have := nodup_len nd (l2 := L) (fun x hx => by
        obtain ⟨i, _, rfl⟩ := List.mem_map.1 hx
        exact lm i)
      simp at this
      omega
  obtain ⟨i, j, hij, hj, e⟩ := twice
  have back : itr f (itr f z0 i) (j - i) = itr f z0 i := by
    rw [← itr_add, show i + (j - i) = j from by omega, e]
  obtain ⟨a, ha⟩ : ∃ a, itr f z0 i = a := ⟨_, rfl⟩
  have am : a ∈ L := by rw [← ha]; exact lm i
  rw [ha] at back
  obtain ⟨Z, hZ⟩ : ∃ Z, seg f a (j - i) = Z := ⟨_, rfl⟩
  have zl : Z.length = j - i := by rw [← hZ, seg_length]
  have zm : ∀ x, x ∈ Z → x ∈ L := fun x hx => by
    rw [← hZ] at hx
    exact seg_in (P := fun z => z ∈ L) (fun z hz => (hf z hz).1) (j - i) a am x hx
  have zr : ∀ x, x ∈ Z → 0 ≤ x ∧ x < n := fun x hx => lr x (zm x hx)
  have az : a ∈ Z := by
    rw [← hZ, show j - i = (j - i - 1) + 1 from by omega, seg]
    simp
  obtain ⟨c, hc⟩ : ∃ c, aug (List.replicate n 0) 1 Z = c := ⟨_, rfl⟩
  have rc : ∀ d : Int, 0 ≤ d → d < n → rd c d = oft d Z - oft (ot d) Z := fun d d0 d1 => by
    rw [← hc, rd_aug he d0 Z _ (by simp) zr, rep_rd _ _ _ d0 d1]
    omega
  obtain ⟨p, hp⟩ := pot c (fun d d0 d1 => by
    have ho := ot_rng d n d0 d1 he
    rw [rc _ ho.1 ho.2, rc _ d0 d1, ot_ot]
    omega) (fun v => by
    rw [← hc, ← hZ, valF_seg he lr hf v (j - i) a _ (by simp) am, back, valF_zero v n (Nat.le_refl _)]
    omega)
  have inner : ∀ d : Int, 0 ≤ d → d < n → rb inb (rd T d) = rb inb (rd T (ot d)) → p (rd T d) = p (rd T (ot d)) := fun d d0 d1 h => by
    have h1 : d ∉ Z := fun k => by
      have k2 := zm d k
      rw [← hL] at k2
      have k3 := (outL_mem.1 k2).2.2
      rw [h, k3.2] at k3
      cases k3.1
    have h2 : ot d ∉ Z := fun k => by
      have k2 := zm _ k
      rw [← hL] at k2
      have k3 := (outL_mem.1 k2).2.2
      rw [ot_ot, h, k3.1] at k3
      cases k3.2
    have a1 := hp d d0 d1
    rw [rc d d0 d1, oft_no h1, oft_no h2] at a1
    omega
  have cT := con true p (fun d d0 d1 h1 h2 => inner d d0 d1 (h1.trans h2.symm))
  have cF := con false p (fun d d0 d1 h1 h2 => inner d d0 d1 (h1.trans h2.symm))
  have all : ∀ x, x ∈ L → x ∈ Z := fun x hx => by
    have hx' := hx
    have am' := am
    rw [← hL] at hx' am'
    obtain ⟨x0, x1, x2, x3⟩ := outL_mem.1 hx'
    obtain ⟨a0, a1, a2, a3⟩ := outL_mem.1 am'
    have xo := ot_rng x n x0 x1 he
    have ao := ot_rng a n a0 a1 he
    have tx := ht x x0 x1
    have ta := ht a a0 a1
    have ux := ht _ xo.1 xo.2
    have ua := ht _ ao.1 ao.2
    have e1 := cT _ _ tx.1 tx.2 ta.1 ta.2 x2 a2
    have e2 := cF _ _ ux.1 ux.2 ua.1 ua.2 x3 a3
    have p1 := hp x x0 x1
    have p2 := hp a a0 a1
    rw [rc x x0 x1] at p1
    rw [rc a a0 a1, oft_no (fun h => lo a am (zm _ h))] at p2
    have q1 := (oft_pos (z := a) (l := Z)).2 az
    have q2 := (oft_pos (z := ot x) (l := Z)).1
    by_cases h : x ∈ Z
    · exact h
    · rw [oft_no h] at p1
      omega
  have nd : L.Nodup := by rw [← hL]; exact outL_nodup T inb n
  have le := nodup_len nd all
  obtain rfl : i = 0 := by omega
  obtain rfl : j = L.length := by omega
  have ha' : z0 = a := ha
  subst ha'
  refine ⟨by simpa using back, fun q => ?_⟩
  have hZ' : seg f z0 L.length = Z := by simpa using hZ
  rw [hZ']
  exact perm_sum q nd all (by omega)

theorem allIn_out {inb fnd : List Bool} {side : Bool} : ∀ {j : Nat}, allIn inb fnd side j = true → ∀ v : Int, 0 ≤ v → v < j → rb inb v = side → rb fnd v = true
  | 0, _, v, _, _ => by omega
  | j + 1, h, v, v0, v1 => by
    have h' : (allIn inb fnd side j && (rb fnd j || !(rb inb j == side))) = true := h
    rw [Bool.and_eq_true] at h'
    intro hv
    by_cases e : v = j
    · subst e
      have h2 := h'.2
      rw [hv] at h2
      simpa using h2
    · exact allIn_out h'.1 v v0 (by omega) hv
theorem allIn_in {inb fnd : List Bool} {side : Bool} : ∀ {j : Nat}, (∀ v : Int, 0 ≤ v → v < j → rb inb v = side → rb fnd v = true) → allIn inb fnd side j = true
  | 0, _ => rfl
  | j + 1, h => by
    show (allIn inb fnd side j && (rb fnd j || !(rb inb j == side))) = true
    rw [allIn_in (fun v v0 v1 => h v v0 (by omega)), Bool.true_and]
    cases e : rb inb j == side with
    | false => simp
    | true =>
      rw [h j (by omega) (by omega) (by simpa using e)]
      rfl
section
variable {T X C : List Int} {m n : Nat} {inb : List Bool}
theorem firstV_some {side : Bool} {v : Int} (v0 : 0 ≤ v) (v1 : v < m) (hv : rb inb v = side) : 0 ≤ firstV inb side m ∧ firstV inb side m < m ∧ rb inb (firstV inb side m) = side := by
  rcases firstV_rng inb side m with h | h
  · exact absurd hv (firstV_none h v v0 v1)
  · exact h
/-- What stays along the darts inside is one inside what hangs together. -/
theorem whole_const (G : Good m n T X C) {side : Bool} (h : wholeB T inb side m n = true) (p : Int → Int) (hp : ∀ d : Int, 0 ≤ d → d < n → rb inb (rd T d) = side → rb inb (rd T (ot d)) = side → p (rd T d) = p (rd T (ot d))) :
    ∀ u v : Int, 0 ≤ u → u < m → 0 ≤ v → v < m → rb inb u = side → rb inb v = side → p u = p v := by
  unfold wholeB at h
  rw [Bool.and_eq_true, decide_eq_true_eq] at h
  obtain ⟨h0, h1⟩ := h
  have hq : firstV inb side m < m ∧ rb inb (firstV inb side m) = side := by
    rcases firstV_rng inb side m with k | k
    · omega
    · exact k.2
  obtain ⟨q, e⟩ : ∃ q, firstV inb side m = q := ⟨_, rfl⟩
  rw [e] at h0 h1 hq
  have F := bEnd_found (ok := okS T inb q) G.ev G.t h0 hq.1
  have key : ∀ u : Int, 0 ≤ u → u < m → rb inb u = side → p u = p q := fun u u0 u1 hu => by
    have h2 := allIn_out h1 u u0 u1 hu
    rw [rb_mk1 u0 (by rw [F.lb]; exact u1), decide_eq_true_eq] at h2
    exact (F.least (fun v => rb inb v = side ∧ p v = p q) ⟨hq.2, rfl⟩ (fun d d0 d1 hd hok => by
      have ho : rb inb (rd T (ot d)) = side := by
        unfold okS at hok
        rw [beq_iff_eq, hq.2] at hok
        exact hok
      exact ⟨ho, by rw [← hp d d0 d1 hd.1 ho]; exact hd.2⟩) u ((F.fq u u0 u1).1 h2)).2
  intro u v u0 u1 v0 v1 hu hv
  rw [key u u0 u1 hu, key v v0 v1 hv]
theorem whole_mk (G : Good m n T X C) {side : Bool} (hx : ∃ v : Int, 0 ≤ v ∧ v < m ∧ rb inb v = side)
    (H : ∀ A : Int → Prop, (∃ v : Int, 0 ≤ v ∧ v < m ∧ rb inb v = side ∧ A v) → (∀ d : Int, 0 ≤ d → d < n → A (rd T d) → rb inb (rd T d) = side → rb inb (rd T (ot d)) = side → A (rd T (ot d))) → ∀ v : Int, 0 ≤ v → v < m → rb inb v = side → A v) : wholeB T inb side m n = true := by
  obtain ⟨v, v0, v1, hv⟩ := hx
  obtain ⟨f0, f1, f2⟩ := firstV_some v0 v1 hv
  unfold wholeB
  obtain ⟨q, e⟩ : ∃ q, firstV inb side m = q := ⟨_, rfl⟩
  rw [e] at f0 f1 f2 ⊢
  have F := bEnd_found (ok := okS T inb q) G.ev G.t f0 f1
  rw [decide_eq_true f0, Bool.true_and]
  refine allIn_in (fun u u0 u1 hu => ?_)
  rw [rb_mk1 u0 (by rw [F.lb]; exact u1), decide_eq_true_eq]
  refine (F.fq u u0 u1).2 (H (fun v => v ∈ (bEnd T (okS T inb q) m n q).q) ⟨q, f0, f1, f2, F.root⟩ (fun d d0 d1 hd h1 h2 => F.clo d d0 d1 hd ?_) u u0 u1 hu)
  unfold okS
  rw [h2, f2, beq_self_eq_true]
/-- What is found from one vertex, by darts that go back as well, hangs together. -/
theorem Found.joined {ok : Int → Bool} {r : Int} {S : BS} (F : Found T ok m n r S) (he : (n : Int) % 2 = 0) (A : Int → Prop) (hA : ∀ d : Int, 0 ≤ d → d < n → A (rd T d) → rd T d ∈ S.q → rd T (ot d) ∈ S.q → A (rd T (ot d))) {u : Int} (hu : u ∈ S.q) (ha : A u) : ∀ v, v ∈ S.q → A v := by
  have toR : A r := (F.least (fun v => v ∈ S.q ∧ (A v → A r)) ⟨F.root, id⟩ (fun d d0 d1 hd hok => by
    have h2 := F.clo d d0 d1 hd.1 hok
    have ho := ot_rng d n d0 d1 he
    refine ⟨h2, fun h => hd.2 ?_⟩
    have := hA (ot d) ho.1 ho.2 h h2 (by rw [ot_ot]; exact hd.1)
    rwa [ot_ot] at this) u hu).2 ha
  intro v hv
  exact (F.least (fun v => v ∈ S.q ∧ A v) ⟨F.root, toR⟩ (fun d d0 d1 hd hok => by
    have h2 := F.clo d d0 d1 hd.1 hok
    exact ⟨h2, hA d d0 d1 hd.2 hd.1 h2⟩) v hv).2
/-- The least cut: both sides hang together; what it holds is what runs. -/
theorem least_cut (G : Good m n T X C) {s t : Int} (hs0 : 0 ≤ s) (hs1 : s < m) (ht0 : 0 ≤ t) (ht1 : t < m) (hst : s ≠ t) {f : List Int} (hf : MostIs T C m n s t f) :
    rb (inOf T C f m n s t) s = true ∧ rb (inOf T C f m n s t) t = false ∧ cycB T (inOf T C f m n s t) m n = true ∧ cutSum T C (inOf T C f m n s t) n = valF T f s n := by
  have K := hf.flow G hs0 hs1 ht0 ht1 hst
  have FR := bEnd_found (ok := okR C f) G.ev G.t hs0 hs1
  have nt := hf.1
  unfold byOf at nt
  obtain ⟨R, hR⟩ : ∃ R, bEnd T (okR C f) m n s = R := ⟨_, rfl⟩
  obtain ⟨I, hI⟩ : ∃ I, inOf T C f m n s t = I := ⟨_, rfl⟩
  have hI' := hI
  unfold inOf byOf at hI'
  rw [hR] at FR nt hI'
  have tR : t ∉ R.q := fun h => by have := (FR.fq t ht0 ht1).2 h; omega
  have rR : ∀ v : Int, 0 ≤ v → v < m → (rb (mk1 R.by_) v = true ↔ v ∈ R.q) := fun v v0 v1 => by
    rw [rb_mk1 v0 (by rw [FR.lb]; exact v1), decide_eq_true_eq]
    exact FR.fq v v0 v1
  have tRf : rb (mk1 R.by_) t = false := by
    cases h : rb (mk1 R.by_) t with
    | false => rfl
    | true => exact absurd ((rR t ht0 ht1).1 h) tR
  have FP := bEnd_found (ok := okS T (mk1 R.by_) t) G.ev G.t ht0 ht1
  obtain ⟨P, hP⟩ : ∃ P, bEnd T (okS T (mk1 R.by_) t) m n t = P := ⟨_, rfl⟩
  rw [hP] at FP hI'
  have inI : ∀ v : Int, 0 ≤ v → v < m → (rb I v = false ↔ v ∈ P.q) := fun v v0 v1 => by
    rw [← hI', rb_notL v0 (by rw [mk1_length, FP.lb]; exact v1), rb_mk1 v0 (by rw [FP.lb]; exact v1)]
    rw [Bool.not_eq_false', decide_eq_true_eq]
    exact FP.fq v v0 v1
  have inT : ∀ v : Int, 0 ≤ v → v < m → (rb I v = true ↔ v ∉ P.q) := fun v v0 v1 => by
    have := inI v v0 v1
    cases h : rb I v with
    | false => simp [this.1 h]
    | true => simp only [true_iff]; intro k; rw [this.2 k] at h; cases h
  have PR : ∀ v, v ∈ P.q → v ∉ R.q := fun v hv => by
    have hr := FP.rg v hv
    have := FP.least (fun v => rb (mk1 R.by_) v = rb (mk1 R.by_) t) rfl (fun d d0 d1 hd hok => by
      unfold okS at hok
      rwa [beq_iff_eq] at hok) v hv
    intro k
    rw [(rR v hr.1 hr.2).2 k, tRf] at this
    cases this
  have Pclo : ∀ d : Int, 0 ≤ d → d < n → rd T d ∈ P.q → rd T (ot d) ∉ R.q → rd T (ot d) ∈ P.q := fun d d0 d1 h1 h2 => by
    have ho := ot_rng d n d0 d1 G.ev
    have tr := G.t _ ho.1 ho.2
    refine FP.clo d d0 d1 h1 ?_
    unfold okS
    rw [tRf]
    cases h : rb (mk1 R.by_) (rd T (ot d)) with
    | false => rfl
    | true => exact absurd ((rR _ tr.1 tr.2).1 h) h2
  have Pback : ∀ d : Int, 0 ≤ d → d < n → rd T (ot d) ∈ P.q → rd T d ∉ R.q → rd T d ∈ P.q := fun d d0 d1 h1 h2 => by
    have ho := ot_rng d n d0 d1 G.ev
    have := Pclo (ot d) ho.1 ho.2 h1 (by rw [ot_ot]; exact h2)
    rwa [ot_ot] at this
  have sI : rb I s = true := (inT s hs0 hs1).2 (fun h => PR s h FR.root)
  have tI : rb I t = false := (inI t ht0 ht1).2 FP.root
  have lT := G.lT
  rw [hI]
  refine ⟨sI, tI, ?_, ?_⟩
  · unfold cycB
    rw [Bool.and_eq_true]
    constructor
    · refine whole_mk G ⟨s, hs0, hs1, sI⟩ (fun A hx hA v v0 v1 hv => ?_)
      obtain ⟨a, a0, a1, a2, a3⟩ := hx
      by_cases c : ∃ u, u ∈ R.q ∧ A u
      · obtain ⟨u, u1, u2⟩ := c
        have RA := FR.joined G.ev A (fun d d0 d1 hd h1 h2 => by
          have ho := ot_rng d n d0 d1 G.ev
          have tr := G.t d d0 d1
          have tr2 := G.t _ ho.1 ho.2
          exact hA d d0 d1 hd ((inT _ tr.1 tr.2).2 (fun h => PR _ h h1)) ((inT _ tr2.1 tr2.2).2 (fun h => PR _ h h2))) u1 u2
        by_cases hAv : A v
        · exact hAv
        · exfalso
          have := G.conn (fun u => rb I u = true ∧ ¬ A u) ⟨v, v0, v1, hv, hAv⟩ (fun d d0 d1 hd => by
            rw [lT] at d1
            have ho := ot_rng d n d0 d1 G.ev
            have tr := G.t d d0 d1
            have tr2 := G.t _ ho.1 ho.2
            have hin : rb I (rd T (ot d)) = true := (inT _ tr2.1 tr2.2).2 (fun h => (inT _ tr.1 tr.2).1 hd.1 (Pback d d0 d1 h (fun k => hd.2 (RA _ k))))
            refine ⟨hin, fun h => hd.2 ?_⟩
            have := hA (ot d) ho.1 ho.2 h hin (by rw [ot_ot]; exact hd.1)
            rwa [ot_ot] at this) s hs0 hs1
          exact this.2 (RA s FR.root)
      · exfalso
        have := G.conn (fun u => rb I u = true ∧ A u) ⟨a, a0, a1, a2, a3⟩ (fun d d0 d1 hd => by
          rw [lT] at d1
          have ho := ot_rng d n d0 d1 G.ev
          have tr := G.t d d0 d1
          have tr2 := G.t _ ho.1 ho.2
          have hin : rb I (rd T (ot d)) = true := (inT _ tr2.1 tr2.2).2 (fun h => (inT _ tr.1 tr.2).1 hd.1 (Pback d d0 d1 h (fun k => c ⟨_, k, hd.2⟩)))
          exact ⟨hin, hA d d0 d1 hd.2 hd.1 hin⟩) s hs0 hs1
        exact c ⟨s, FR.root, this.2⟩
    · refine whole_mk G ⟨t, ht0, ht1, tI⟩ (fun A hx hA v v0 v1 hv => ?_)
      obtain ⟨a, a0, a1, a2, a3⟩ := hx
      exact FP.joined G.ev A (fun d d0 d1 hd h1 h2 => by
        have ho := ot_rng d n d0 d1 G.ev
        have tr := G.t d d0 d1
        have tr2 := G.t _ ho.1 ho.2
        exact hA d d0 d1 hd ((inI _ tr.1 tr.2).2 h1) ((inI _ tr2.1 tr2.2).2 h2)) ((inI a a0 a1).1 a2) a3 v ((inI v v0 v1).1 hv)
  · rw [K.across G hs0 hs1 sI tI, cutSum, sumC_L, sumC_L]
    refine sumL_congr (fun d hd => ?_)
    obtain ⟨d0, d1, h1, h2⟩ := outL_mem.1 hd
    have ho := ot_rng d n d0 d1 G.ev
    have tr := G.t d d0 d1
    have tr2 := G.t _ ho.1 ho.2
    have p2 := (inI _ tr2.1 tr2.2).1 h2
    have r1 : rd T d ∈ R.q := by
      by_cases k : rd T d ∈ R.q
      · exact k
      · exact absurd (Pback d d0 d1 p2 k) ((inT _ tr.1 tr.2).1 h1)
    have hcap := K.cap d d0 d1
    by_cases k : okR C f d = true
    · exact absurd (FR.clo d d0 d1 r1 k) (PR _ p2)
    · unfold okR at k
      rw [decide_eq_true_eq] at k
      omega
/-- The next dart along a cut: it lies in the face on the other side. -/
theorem next_face (G : Good m n T X C) {L : List Int} (hL : outL T inb n = L) {z : Int} (hz : z ∈ L) : nextD (facesOf X) L z ∈ L ∧ rd (facesOf X) (nextD (facesOf X) L z) = rd (facesOf X) (ot z) := by
  have hne : L ≠ [] := fun e => by rw [e] at hz; cases hz
  refine ⟨nextD_mem hne z, ?_⟩
  have heX : (X.length : Int) % 2 = 0 := by rw [G.lX]; exact G.ev
  have F := faces_all (X := X) (by rw [G.lX]; exact G.px) heX
  have hz' := hz
  rw [← hL] at hz'
  obtain ⟨z0, z1, za, zb⟩ := outL_mem.1 hz'
  have zo := ot_rng z n z0 z1 G.ev
  -- there is one
  have ex : ∃ d, d ∈ L ∧ rd (facesOf X) d = rd (facesOf X) (ot z) := by
    by_cases h : ∃ d, d ∈ L ∧ rd (facesOf X) d = rd (facesOf X) (ot z)
    · exact h
    · exfalso
      have pr : ∀ d : Int, 0 ≤ d → d < n → 0 ≤ phi X d ∧ phi X d < n := fun d d0 d1 => by
        have ho := ot_rng d n d0 d1 G.ev
        exact G.px.rng _ ho.1 ho.2
      have inv : ∀ d : Int, 0 ≤ d → d < n → rd (facesOf X) (phi X d) = rd (facesOf X) d := fun d d0 d1 => F.inv d d0 (by rw [G.lX]; exact d1) (F.don d d0 (by rw [G.lX]; exact d1) (by rw [G.lX]; exact d1))
      have step : ∀ i : Nat, 0 ≤ itr (phi X) (phi X (ot z)) i ∧ itr (phi X) (phi X (ot z)) i < n ∧ rd (facesOf X) (itr (phi X) (phi X (ot z)) i) = rd (facesOf X) (ot z) ∧ rb inb (rd T (itr (phi X) (phi X (ot z)) i)) = true := fun i => by
        induction i with
        | zero =>
          have := pr _ zo.1 zo.2
          refine ⟨this.1, this.2, inv _ zo.1 zo.2, ?_⟩
          show rb inb (rd T (phi X (ot z))) = true
          rw [phi, ot_ot, G.tu z z0 z1]
          exact za
        | succ i ih =>
          obtain ⟨a, b, c, d⟩ := ih
          have := pr _ a b
          refine ⟨this.1, this.2, (inv _ a b).trans c, ?_⟩
          have ho := ot_rng _ n a b G.ev
          show rb inb (rd T (phi X (itr (phi X) (phi X (ot z)) i))) = true
          rw [phi, G.tu _ ho.1 ho.2]
          cases k : rb inb (rd T (ot (itr (phi X) (phi X (ot z)) i))) with
          | true => rfl
          | false => exact absurd ⟨_, by rw [← hL]; exact outL_mem.2 ⟨a, b, d, k⟩, c⟩ h
      have p1 := pr _ zo.1 zo.2
      obtain ⟨i, hi⟩ := F.one (phi X (ot z)) (ot z) p1.1 (by rw [G.lX]; exact p1.2) zo.1 (by rw [G.lX]; exact zo.2) (F.don _ p1.1 (by rw [G.lX]; exact p1.2) (by rw [G.lX]; exact p1.2)) (inv _ zo.1 zo.2)
      have := (step i).2.2.2
      rw [hi, zb] at this
      cases this
  obtain ⟨d, hd, e⟩ := ex
  obtain ⟨j, j0, j1, rfl⟩ := mem_rd hd
  rcases idxTo_rng (fun d => rd (facesOf X) d == rd (facesOf X) (ot z)) L L.length with h | ⟨h1, h2, h3⟩
  · have := idxTo_none h j j0 j1
    simp [e] at this
  · unfold nextD
    rw [show max 0 (idxTo (fun d => rd (facesOf X) d == rd (facesOf X) (ot z)) L L.length) = idxTo (fun d => rd (facesOf X) d == rd (facesOf X) (ot z)) L L.length from by omega]
    simpa using h3
end
/-- The darts along the least cut of a plane net: one round; each of them comes once. -/
theorem least_round {n : PNet} {up : List Int} {m N : Nat} {r : Int} (hF : Fine n) (hM : Map n) (hN : n.N = m) (Y : IsTree n.T up m r) {C : List Int} (hl : n.T.length = N) (G : Good m N n.T n.X C) {inb : List Bool} (hc : cycB n.T inb m N = true) {L : List Int} (hL : outL n.T inb N = L) :
    L ≠ [] ∧ (∀ i : Nat, i < L.length → rd (facesOf n.X) (rd (cycL (facesOf n.X) L L.length) (((i : Int) + 1) % (L.length : Int))) = rd (facesOf n.X) (ot (rd (cycL (facesOf n.X) L L.length) i))) ∧ (∀ x, x ∈ cycL (facesOf n.X) L L.length → x ∈ L) ∧ sumC C (cycL (facesOf n.X) L L.length) = sumC C L := by
  have hne : L ≠ [] := by rw [← hL]; exact cyc_some G hc
  have hp : 0 < L.length := List.length_pos_iff.2 hne
  have hc' := hc
  unfold cycB at hc'
  rw [Bool.and_eq_true] at hc'
  have NF : ∀ z, z ∈ L → nextD (facesOf n.X) L z ∈ L ∧ rd (facesOf n.X) (nextD (facesOf n.X) L z) = rd (facesOf n.X) (ot z) := fun z hz => next_face G hL hz
  have z0m : rd L 0 ∈ L := rd_mem (by omega) (by omega)
  obtain ⟨o1, o2⟩ := one_round G.ev G.t hL hne NF (fun c odd cir => falls hF hM hN (by have := G.n2; omega) Y hl G odd cir) (fun sd => by
    cases sd with
    | true => exact fun p hp => whole_const G hc'.1 p hp
    | false => exact fun p hp => whole_const G hc'.2 p hp) z0m
  have M0 := itr_nextD_mem (F := facesOf n.X) hne
  have at' : ∀ i : Nat, i < L.length → rd (cycL (facesOf n.X) L L.length) i = itr (nextD (facesOf n.X) L) (rd L 0) i := fun i hi => by
    unfold cycL
    rw [rd_of (α := Int) _ _ _ (by omega) (by omega), Int.toNat_natCast]
  refine ⟨hne, fun i hi => ?_, fun x hx => ?_, ?_⟩
  · rw [at' i hi, ← (NF _ (M0 i)).2]
    by_cases h : i + 1 < L.length
    · rw [show ((i : Int) + 1) % (L.length : Int) = ((i + 1 : Nat) : Int) from by rw [Int.emod_eq_of_lt (by omega) (by omega)]; omega, at' (i + 1) h]
      rfl
    · have e : L.length = i + 1 := by omega
      rw [show ((i : Int) + 1) % (L.length : Int) = ((0 : Nat) : Int) from by rw [e, show (i : Int) + 1 = ((i + 1 : Nat) : Int) from by omega, Int.emod_self]; rfl, at' 0 hp]
      rw [e] at o1
      show rd (facesOf n.X) (rd L 0) = rd (facesOf n.X) (itr (nextD (facesOf n.X) L) (rd L 0) (i + 1))
      rw [o1]
  · unfold cycL at hx
    obtain ⟨i, _, rfl⟩ := List.mem_map.1 hx
    exact M0 i
  · rw [sumC_L, sumC_L, cycL, seg_map]
    exact o2 _
end Go.Proofs.Ytidcofjadlfahaa
