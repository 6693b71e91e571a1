/- The walks of IndexFunc, Cycle. -/
import Derived.Test.YtidcofjadlfahaaU12
import Derived.Shelf.Abstract
set_option linter.unusedVariables false
set_option linter.unusedSimpArgs false
namespace Go.Proofs.Ytidcofjadlfahaa
open Go.RowKit

/-- The first place of what is as said; -1: there is none. -/
def idxTo (p : Int → Bool) (L : List Int) : Nat → Int
  | 0 => -1
  | j + 1 => if 0 ≤ idxTo p L j then idxTo p L j else if p (rd L j) = true then j else -1
theorem idxTo_rng (p : Int → Bool) (L : List Int) : ∀ j, idxTo p L j = -1 ∨ (0 ≤ idxTo p L j ∧ idxTo p L j < j ∧ p (rd L (idxTo p L j)) = true)
  | 0 => .inl rfl
  | j + 1 => by
    rw [idxTo]
    rcases idxTo_rng p L j with h | ⟨a, b, c⟩
    · rw [h, if_neg (by omega)]
      split
      · rename_i k
        exact .inr ⟨by omega, by omega, k⟩
      · exact .inl rfl
    · rw [if_pos a]
      exact .inr ⟨a, by omega, c⟩
theorem idxTo_none {p : Int → Bool} {L : List Int} : ∀ {j : Nat}, idxTo p L j = -1 → ∀ v : Int, 0 ≤ v → v < j → p (rd L v) = false
  | 0, _, v, h0, h1 => by omega
  | j + 1, h, v, h0, h1 => by
    rw [idxTo] at h
    by_cases a : 0 ≤ idxTo p L j
    · rw [if_pos a] at h; omega
    · rw [if_neg a] at h
      by_cases b : p (rd L j) = true
      · rw [if_pos b] at h; omega
      · by_cases e : v = j
        · rw [e]; simpa using b
        · refine idxTo_none (j := j) ?_ v h0 (by omega)
          rcases idxTo_rng p L j with k | k
          · exact k
          · omega
theorem idxTo_stay {p : Int → Bool} {L : List Int} {j : Nat} (h : 0 ≤ idxTo p L j) : ∀ k, idxTo p L (j + k) = idxTo p L j
  | 0 => rfl
  | k + 1 => by
    have ih := idxTo_stay h k
    show idxTo p L ((j + k) + 1) = _
    rw [idxTo, ih, if_pos h]
section
variable {w : World} {aL : Option Addr} {cL l K : Nat} {L : List Int} {p7 p10 : Option Addr} {p : Int → Bool}
set_option maxHeartbeats 1600000 in
theorem indexf_any (hL : RowOf w aL L) (hl : L.length = l) (hl2 : l ≤ 1000)
    (eg : ∀ args w, (callFunc K args).run Try.prog w = .ok (.enter K args) w)
    (HS : ∀ W, Below w.heap.size w W → ∀ d, d ∈ L → Calls Try.prog K #[.int .i64 d, .pointer p7, .pointer p10] W fun e w' => ∃ k, e = .returned (.bool (p d)) ∧ w' = W.drewN k) :
    Calls Try.prog 53 #[.slice aL l cL, .func (.func K) #[] #[.pointer p7, .pointer p10]] w fun e w' => e = .returned (.int .i64 (idxTo p L l)) ∧ Below w.heap.size w w' := by
  have HL := Bx.mk hl
  have HH := Bx.mk HS
  clear hl HS
  go_enter Try.func53, Try.ntmps53
  go_wp2
  go_loopg [8] (l + 1) (fun q y wr => ∃ j : Nat, y = .int .i64 j ∧ q = l + 1 - j ∧ j ≤ l ∧ Bx (idxTo p L j = -1) ∧ Below w.heap.size w wr)
  case atStart => exact ⟨0, rfl, by omega, by omega, ⟨rfl⟩, Below.refl _ _⟩
  case round =>
    obtain ⟨j, rfl, hq, hj, IX, BW⟩ := hrel
    by_cases hjl : j < l
    · have hJ : (j : Int) < l := by omega
      obtain ⟨b, o, rfl, _, c⟩ := (hL.keep BW) j (by omega) (by rw [HL.out]; exact hJ)
      have H1 := HH.out wr BW (rd L j) (rd_mem (by omega) (by rw [HL.out]; exact hJ))
      have NX := Bx.mk (show idxTo p L (j + 1) = if p (rd L j) = true then (j : Int) else -1 from by rw [idxTo, IX.out, if_neg (by omega)])
      rw [Int.toNat_natCast] at c
      obtain ⟨d, hd⟩ : ∃ d, rd L j = d := ⟨_, rfl⟩
      rw [hd] at c H1 NX
      obtain ⟨x, hx⟩ : ∃ x, p d = x := ⟨_, rfl⟩
      rw [hx] at H1 NX
      clear hd hx
      cases x with
      | true =>
        have IM := Bx.mk (show idxTo p L l = j from by
          have e1 := NX.out
          rw [if_pos rfl] at e1
          have := idxTo_stay (p := p) (L := L) (j := j + 1) (by omega) (l - (j + 1))
          rwa [show j + 1 + (l - (j + 1)) = l from by omega, e1] at this)
        clear NX
        go_wp2_with fail
        refine H1.mono ?_
        rintro e w5 ⟨k, rfl, rfl⟩
        go_wp2
        go_ret
        exact ⟨by rw [IM.out]; rfl, below_drewN BW _⟩
      | false =>
        have N2 := Bx.mk (NX.out.trans (if_neg (by simp)))
        clear NX
        go_wp2_with fail
        refine H1.mono ?_
        rintro e w5 ⟨k, rfl, rfl⟩
        go_wp2
        go_roundg (l + 1 - (j + 1))
        case rel => exact ⟨j + 1, rfl, rfl, by omega, N2, below_drewN BW _⟩
        case measure => omega
    · have hJ : ¬ (j : Int) < l := by omega
      obtain rfl : l = j := by omega
      go_wp2
      go_ret
      exact ⟨by rw [IX.out]; rfl, BW⟩
theorem cyc1_any {w : World} {F : List Int} {n b7 b10 bF oF cF : Nat} {a : Int} (d : Int) (h7 : w.cell? ⟨b7, 0, none⟩ = some (.slice (some ⟨bF, oF, none⟩) n cF)) (h10 : w.cell? ⟨b10, 0, none⟩ = some (.int .i64 a)) (hF : RowAt w bF oF n F) (ev : (n : Int) % 2 = 0) (hn : n ≤ 240) (a0 : 0 ≤ a) (a1 : a < n) (d0 : 0 ≤ d) (d1 : d < n) :
    Calls Try.prog 54 #[.int .i64 d, .pointer (some ⟨b7, 0, none⟩), .pointer (some ⟨b10, 0, none⟩)] w fun e w' => ∃ k, e = .returned (.bool (rd F d == rd F (ot a))) ∧ w' = w.drewN k := by
  have ho := ot_rng a n a0 a1 ev
  have ho0 := ho.1
  have ho1 := ho.2
  have hx := xor_one a a0 (by omega)
  have c1 := hF.get d d0 d1
  have c2 := hF.get (ot a) ho.1 ho.2
  obtain ⟨x, hxx⟩ : ∃ x, rd F d = x := ⟨_, rfl⟩
  obtain ⟨y, hyy⟩ : ∃ y, rd F (ot a) = y := ⟨_, rfl⟩
  rw [hxx] at c1 ⊢
  rw [hyy] at c2 ⊢
  clear hxx hyy ho
  go_enter Try.func54, Try.ntmps54
  go_upto_region 1 with fail
  go_quiet (fail)
  go_wp2
  go_ret
  exact ⟨_, rfl, rfl⟩
end
/-- The dart behind one, along a cut. -/
def nextD (F L : List Int) (a : Int) : Int := rd L (max 0 (idxTo (fun d => rd F d == rd F (ot a)) L L.length))
/-- The darts along a cut, one behind the other. -/
def cycL (F L : List Int) (k : Nat) : List Int := (List.range k).map (fun i => itr (nextD F L) (rd L 0) i)
theorem cycL_next (F L : List Int) (k : Nat) : cycL F L (k + 1) = cycL F L k ++ [itr (nextD F L) (rd L 0) k] := by
  unfold cycL
  rw [List.range_succ, List.map_append, List.map_singleton]
theorem cycL_length (F L : List Int) (k : Nat) : (cycL F L k).length = k := by simp [cycL]
theorem nextD_mem {F L : List Int} (hL : L ≠ []) (a : Int) : nextD F L a ∈ L := by
  have hp : 0 < L.length := List.length_pos_iff.2 hL
  unfold nextD
  rcases idxTo_rng (fun d => rd F d == rd F (ot a)) L L.length with h | ⟨h1, h2, _⟩
  · rw [h]; exact rd_mem (by omega) (by omega)
  · exact rd_mem (by omega) (by omega)
theorem itr_nextD_mem {F L : List Int} (hL : L ≠ []) : ∀ k, itr (nextD F L) (rd L 0) k ∈ L
  | 0 => rd_mem (by omega) (by have := List.length_pos_iff.2 hL; omega)
  | k + 1 => nextD_mem hL _
/-- Where some are in and some are not, something runs out. -/
theorem outL_ne {m n : Nat} {T X C : List Int} (G : Good m n T X C) {inb : List Bool} {u v : Int} (u0 : 0 ≤ u) (u1 : u < m) (hu : rb inb u = true) (v0 : 0 ≤ v) (v1 : v < m) (hv : rb inb v = false) : outL T inb n ≠ [] := by
  intro hL
  have := G.conn (fun z => rb inb z = true) ⟨u, u0, u1, hu⟩ (fun d d0 d1 h => by
    cases e : rb inb (rd T (ot d)) with
    | true => rfl
    | false =>
      have hm : d ∈ outL T inb n := outL_mem.2 ⟨d0, by have := G.lT; omega, h, e⟩
      rw [hL] at hm
      cases hm) v v0 v1
  rw [hv] at this
  cases this
end Go.Proofs.Ytidcofjadlfahaa
