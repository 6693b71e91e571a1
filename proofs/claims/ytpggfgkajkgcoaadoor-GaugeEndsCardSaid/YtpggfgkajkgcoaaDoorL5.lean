/- The walk of GaugeEnds. -/
import Derived.Test.YtpggfgkajkgcoaaDoorL4
import Derived.StillTailTactics
import Derived.Deep.RegionHeldLaw
import Derived.BigQuiet
set_option linter.unusedVariables false
set_option linter.unusedSimpArgs false
namespace Go.Proofs.YtpggfgkajkgcoaaDoor
open Go.RowKit

def eF (nn : Nat) : List Nat := [18442240474082181120, 13830554455654793216, 9223372036854775809, 9223372036854775808, 0, 1, 4607182418800017408, 9218868437227405312, nn]
def eK : List Int := [-9218868437227405313, -4607182418800017409, -2, -1, 0, 1, 4607182418800017408, 9218868437227405312, 9223372036854775808]
theorem eF_key (nn : Nat) (hn : nanb nn = true) (k : Int) (h0 : 0 ≤ k) (h1 : k < 9) : fkey (fd (eF nn) k) = eK.getD k.toNat 0 := by
  by_cases h : k = 8
  · subst h
    show fkey nn = _
    rw [fkey_nan hn]
    rfl
  · have e : fd (eF nn) k = fd (eF 0) k := by
      rcases (by omega : k = 0 ∨ k = 1 ∨ k = 2 ∨ k = 3 ∨ k = 4 ∨ k = 5 ∨ k = 6 ∨ k = 7) with rfl | rfl | rfl | rfl | rfl | rfl | rfl | rfl <;> rfl
    rw [e]
    have := (show ∀ i : Fin 8, fkey (fd (eF 0) (i.val : Int)) = eK.getD i.val 0 from by decide +kernel) ⟨k.toNat, by omega⟩
    simp only [Int.toNat_of_nonneg h0] at this
    exact this
theorem eK_lt : ∀ i j : Fin 9, (eK.getD i.val 0 < eK.getD j.val 0) ↔ i.val < j.val := by decide +kernel
theorem eF_lt (nn : Nat) (hn : nanb nn = true) (x y : Int) (hx : 0 ≤ x ∧ x < 9) (hy : 0 ≤ y ∧ y < 9) : fkey (fd (eF nn) x) < fkey (fd (eF nn) y) ↔ x < y := by
  rw [eF_key nn hn x hx.1 hx.2, eF_key nn hn y hy.1 hy.2]
  have := eK_lt ⟨x.toNat, by omega⟩ ⟨y.toNat, by omega⟩
  simp only at this
  rw [this]
  omega
theorem eF_word (nn : Nat) (hl : nn < 18446744073709551616) : FW (eF nn) := by
  intro i
  rcases fd_mem_or (D := eF nn) i with k | k
  · generalize fd (eF nn) i = x at k ⊢
    unfold eF at k
    simp only [List.mem_cons, List.not_mem_nil, or_false] at k
    omega
  · rw [k]; omega
theorem sort_pair {p q : Nat} {ys : List Nat} (h : SortOf [p, q] ys) (hle : fkey p ≤ fkey q) : ys.length = 2 ∧ fkey (fd ys 0) = fkey p ∧ fkey (fd ys 1) = fkey q := by
  have s : SortOf [p, q] [p, q] := ⟨List.Perm.refl _, fun z h0 h1 => by
    obtain rfl : z = 0 := by simp at h1; omega
    exact hle⟩
  obtain ⟨hl, hk⟩ := sort_keys h s
  have hl2 : ys.length = 2 := hl
  exact ⟨hl2, hk 0 (by omega), hk 1 (by omega)⟩
theorem sort_pair' {p q : Nat} {ys : List Nat} (h : SortOf [p, q] ys) (hle : fkey q ≤ fkey p) : ys.length = 2 ∧ fkey (fd ys 0) = fkey q ∧ fkey (fd ys 1) = fkey p :=
  sort_pair ⟨h.perm.trans (List.Perm.swap q p []), h.srt⟩ hle
theorem less_at {a b : Nat} {c : Bool} (ha : a < 18446744073709551616) (hb : b < 18446744073709551616) (h : fless a b = c) (w : World) : Calls Tryd.prog 16 #[.float .f64 a, .float .f64 b] w fun e w' => e = .returned (.bool c) ∧ w = w' := by
  have := less_any a b ha hb w
  rwa [h] at this
set_option maxHeartbeats 16000000 in
theorem gends_walk (a : Nat) (i j : Int) (ha : a < 18446744073709551616) (w : World) (ht : Tab w) : Calls Tryd.prog 9 #[.float .f64 a, .int .i64 i, .int .i64 j] w fun e w' => e = .returned (.bool true) ∧ Below w.heap.size w w' := by
  have KN := known_any w ht
  have Q0 : ∀ w : World, (binOp .quo 22 (.float .f64 0) (.float .f64 0)).run Tryd.prog w = .ok (.float .f64 (nanAt 0 0 w)) w.drew := run_nan .quo 0 0 (.inr (.inr (.inr rfl))) (by decide +kernel)
  have Q1 : ∀ w : World, (binOp .quo 22 (.float .f64 13830554455654793216) (.float .f64 0)).run Tryd.prog w = .ok (.float .f64 18442240474082181120) w := fun w => run_float_arith w .quo 22 .f64 _ _ _ (by decide +kernel)
  have Q2 : ∀ w : World, (binOp .quo 22 (.float .f64 4607182418800017408) (.float .f64 0)).run Tryd.prog w = .ok (.float .f64 9218868437227405312) w := fun w => run_float_arith w .quo 22 .f64 _ _ _ (by decide +kernel)
  have Q3 : ∀ w : World, (binOp .sub 22 (.float .f64 0) (.float .f64 4607182418800017408)).run Tryd.prog w = .ok (.float .f64 13830554455654793216) w := fun w => run_float_arith w .sub 22 .f64 _ _ _ (by decide +kernel)
  have Q4 : ∀ w : World, (binOp .mul 22 (.float .f64 0) (.float .f64 13830554455654793216)).run Tryd.prog w = .ok (.float .f64 9223372036854775808) w := fun w => run_float_arith w .mul 22 .f64 _ _ _ (by decide +kernel)
  have NN := nanAt_nan 0 0
  generalize nanAt 0 0 = f at Q0 NN
  clear ht
  go_enter Tryd.func9, Tryd.ntmps9
  go_wp2_with fail
  refine KN.mono ?_
  rintro e w1 ⟨rfl, B1⟩
  clear KN
  go_upto_region 5 with fail
  have hb1 := (box_new w1 (flts (eF (f w1))).toArray 22).keep (Below.drew (Below.refl _ _))
  have BB := Below.drew (below_alloc B1 (.cells (flts (eF (f w1))).toArray 22))
  change Code.wp _ _ _ _ ((w1.alloc (.cells (flts (eF (f w1))).toArray 22)).drew)
  have nn := NN w1
  generalize f w1 = nx at hb1 BB nn ⊢
  generalize (World.drew _) = wz at hb1 BB ⊢
  generalize w1.heap.size = b1 at hb1 ⊢
  have hx := wi_rng i 9 (by omega)
  have hy := wi_rng j 9 (by omega)
  have WI := fun w => within12_any i 9 (by omega) (by omega) w
  have WJ := fun w => within12_any j 9 (by omega) (by omega) w
  generalize wi i 9 = x at hx WI
  generalize wi j 9 = y at hy WJ
  have c1 := hb1.cell x.toNat
  have c2 := hb1.cell y.toNat
  rw [List.getElem?_toArray, flts_at x hx.1 (show x < ((eF nx).length : Int) from hx.2)] at c1
  rw [List.getElem?_toArray, flts_at y hy.1 (show y < ((eF nx).length : Int) from hy.2)] at c2
  have LT := eF_lt nx nn.1 x y hx hy
  have GT := eF_lt nx nn.1 y x hy hx
  have lx := eF_word nx nn.2 x
  have ly := eF_word nx nn.2 y
  have hlen : (eF nx).length = 9 := rfl
  have E12 := Bx.mk (show x = y → fd (eF nx) x = fd (eF nx) y from fun h => by rw [h])
  generalize fd (eF nx) x = p at c1 LT GT lx E12
  generalize fd (eF nx) y = q at c2 LT GT ly E12
  have HB := Bx.mk hb1
  have x0 := hx.1
  have x1 := hx.2
  have y0 := hy.1
  have y1 := hy.2
  clear hb1 hx hy B1 Q1 Q2 Q3 Q4 nn
  go_wp2_with (first | (go_at_call 19; with_reducible refine (WI _).mono ?_; rintro e w' ⟨rfl, rfl⟩) | (go_at_call 19; with_reducible refine (WJ _).mono ?_; rintro e w' ⟨rfl, rfl⟩))
  go_still_tail 8, (by kernel_rfl)
  change wpList _ _ _ _ _ wz.drew
  have bD := Below.drew (Below.refl wz.heap.size wz)
  generalize wz.drew = wd at bD ⊢
  have SO := sort_any (fown_lit wd wd.heap.size [p, q] (Nat.le_refl _) (by simp)).own (by
    intro i
    rcases fd_mem_or (D := [p, q]) i with k | k
    · generalize fd [p, q] i = z at k ⊢
      simp only [List.mem_cons, List.not_mem_nil, or_false] at k
      omega
    · rw [k]; omega) (by simp) (by simp)
  have bA := below_alloc bD (.cells (flts [p, q]).toArray 22)
  go_wp2_with fail
  refine SO.mono ?_
  rintro e w5 ⟨v5, ys, rfl, O5, B5, S5⟩
  have BZ := below_below bA B5
  have BB := below_below BB BZ
  have hb5 := HB.out.keep BZ
  obtain ⟨a2, cap2, rfl, R5⟩ := O5.row
  have d1 : w5.cell? ⟨b1, x.toNat, none⟩ = some (.float .f64 p) := by rw [hb5.cell, ← HB.out.cell]; exact c1
  have d2 : w5.cell? ⟨b1, y.toNat, none⟩ = some (.float .f64 q) := by rw [hb5.cell, ← HB.out.cell]; exact c2
  have YL := FW_perm S5.perm (show FW [p, q] from by
    intro i
    rcases fd_mem_or (D := [p, q]) i with k | k
    · generalize fd [p, q] i = z at k ⊢
      simp only [List.mem_cons, List.not_mem_nil, or_false] at k
      omega
    · rw [k]; omega)
  have l0 := YL 0
  have l1 := YL 1
  have hyl : ys.length = 2 := S5.perm.length_eq
  rw [hyl]
  obtain ⟨b2, o2, rfl, lb2, e0⟩ := R5 0 (by omega) (by omega)
  obtain ⟨b3, o3, e3, _, e1⟩ := R5 1 (by omega) (by omega)
  obtain ⟨rfl, rfl⟩ : b2 = b3 ∧ o2 = o3 := by simpa using e3
  rw [show o2 + (0 : Int).toNat = o2 from rfl] at e0
  rw [show o2 + (1 : Int).toNat = o2 + 1 from rfl] at e1
  have SP := fun h => sort_pair S5 h
  have SQ := fun h => sort_pair' S5 h
  generalize fd ys 0 = s0 at e0 l0 SP SQ
  generalize fd ys 1 = s1 at e1 l1 SP SQ
  have HK : Bx (∀ W, Below w5.heap.size w5 W → Below w5.heap.size w5 W ∧ W.cell? ⟨b1, x.toNat, none⟩ = some (.float .f64 p) ∧ W.cell? ⟨b1, y.toNat, none⟩ = some (.float .f64 q) ∧ W.cell? ⟨b2, o2, none⟩ = some (.float .f64 s0) ∧ W.cell? ⟨b2, o2 + 1, none⟩ = some (.float .f64 s1)) :=
    ⟨fun W h => ⟨h, by rw [(hb5.keep h).cell, ← hb5.cell]; exact d1, by rw [(hb5.keep h).cell, ← hb5.cell]; exact d2, (cell_keep e0 lb2 h).1, (cell_keep e1 lb2 h).1⟩⟩
  have LB := fun W => less_at ha ha (show fless a a = false from decide_eq_false (by omega)) W
  have EA : (FloatKind.f64.format.order a a != some .eq) = nanb a := by rw [wne_eq, feq_self, Bool.not_not]
  have LC := fun (hn : nanb a = false) (W W' : World) => less_at ha (NN W').2 (show fless a (f W') = true from decide_eq_true (by rw [fkey_nan (NN W').1]; exact (fkey_num hn).1)) W
  have PQ := Bx.mk lx
  clear O5 B5 bA BZ hb5 d1 d2 YL hyl R5 e3 e0 e1 HB bD c1 c2 WI WJ NN S5 lb2
  go_upto_region 7 with fail
  by_cases h : x < y
  · have LA := fun W => less_at lx ly (show fless p q = true from decide_eq_true (LT.2 h)) W
    obtain ⟨_, k0, k1⟩ := SP (Int.le_of_lt (LT.2 h))
    have OA := fun W => one_yes l0 lx (show fsame s0 p = true from decide_eq_true k0) W
    have OB := fun W => one_yes l1 ly (show fsame s1 q = true from decide_eq_true k1) W
    clear SP SQ k0 k1 LT GT E12
    have hyx : ¬ y < x := by omega
    have M1 : (if y < x then y else x) = x := if_neg hyx
    have M2 : (if x < y then y else x) = y := if_pos h
    have M3 : min x y = x := by omega
    have M4 : max x y = y := by omega
    cases en : nanb a
    · rw [en] at EA
      have LC := LC en
      go_region_held_law (fun W => Below w5.heap.size w5 W ∧ W.cell? ⟨b1, x.toNat, none⟩ = some (.float .f64 p) ∧ W.cell? ⟨b1, y.toNat, none⟩ = some (.float .f64 q) ∧ W.cell? ⟨b2, o2, none⟩ = some (.float .f64 s0) ∧ W.cell? ⟨b2, o2 + 1, none⟩ = some (.float .f64 s1))
        (first | assumption | exact HK.out _ (Below.drew (Below.refl _ _)) | exact HK.out _ (Below.drew (And.left ‹_ ∧ _›)))
        (first
          | (go_at_call 16; first | (with_reducible refine (LA _).mono ?_; rintro e W5 ⟨rfl, rfl⟩) | (with_reducible refine (LB _).mono ?_; rintro e W5 ⟨rfl, rfl⟩) | (with_reducible refine (LC _ _).mono ?_; rintro e W5 ⟨rfl, rfl⟩))
          | (go_at_call 26; first | (with_reducible refine (OA _).mono ?_; rintro e W5 ⟨rfl, rfl⟩) | (with_reducible refine (OB _).mono ?_; rintro e W5 ⟨rfl, rfl⟩)))
      have BW := And.left ‹Below w5.heap.size w5 _ ∧ _›
      go_wp2
      go_ret
      exact ⟨rfl, below_below BB BW⟩
    · rw [en] at EA
      clear LC
      obtain ⟨_, g1, g2, g3, g4⟩ := HK.out w5 (Below.refl _ _)
      go_quiet (first
        | (go_at_call 16; first | (with_reducible refine (LA _).mono ?_; rintro e W5 ⟨rfl, rfl⟩; exact ⟨rfl, _, rfl⟩) | (with_reducible refine (LB _).mono ?_; rintro e W5 ⟨rfl, rfl⟩; exact ⟨rfl, _, rfl⟩))
        | (go_at_call 26; first | (with_reducible refine (OA _).mono ?_; rintro e W5 ⟨rfl, rfl⟩; exact ⟨rfl, _, rfl⟩) | (with_reducible refine (OB _).mono ?_; rintro e W5 ⟨rfl, rfl⟩; exact ⟨rfl, _, rfl⟩)))
      go_wp2
      go_ret
      exact ⟨rfl, below_drewN BB _⟩
  · have LA := fun W => less_at lx ly (show fless p q = false from decide_eq_false (fun k => h (LT.1 k))) W
    obtain ⟨_, k0, k1⟩ := SQ (Int.not_lt.1 (fun k => h (LT.1 k)))
    have OA := fun W => one_yes l0 ly (show fsame s0 q = true from decide_eq_true k0) W
    have OB := fun W => one_yes l1 lx (show fsame s1 p = true from decide_eq_true k1) W
    clear SP SQ k0 k1 LT GT E12
    have M1 : (if y < x then y else x) = y := by
      by_cases k : y < x
      · exact if_pos k
      · rw [if_neg k]; omega
    have M2 : (if x < y then y else x) = x := if_neg h
    have M3 : min x y = y := by omega
    have M4 : max x y = x := by omega
    cases en : nanb a
    · rw [en] at EA
      have LC := LC en
      go_region_held_law (fun W => Below w5.heap.size w5 W ∧ W.cell? ⟨b1, x.toNat, none⟩ = some (.float .f64 p) ∧ W.cell? ⟨b1, y.toNat, none⟩ = some (.float .f64 q) ∧ W.cell? ⟨b2, o2, none⟩ = some (.float .f64 s0) ∧ W.cell? ⟨b2, o2 + 1, none⟩ = some (.float .f64 s1))
        (first | assumption | exact HK.out _ (Below.drew (Below.refl _ _)) | exact HK.out _ (Below.drew (And.left ‹_ ∧ _›)))
        (first
          | (go_at_call 16; first | (with_reducible refine (LA _).mono ?_; rintro e W5 ⟨rfl, rfl⟩) | (with_reducible refine (LB _).mono ?_; rintro e W5 ⟨rfl, rfl⟩) | (with_reducible refine (LC _ _).mono ?_; rintro e W5 ⟨rfl, rfl⟩))
          | (go_at_call 26; first | (with_reducible refine (OA _).mono ?_; rintro e W5 ⟨rfl, rfl⟩) | (with_reducible refine (OB _).mono ?_; rintro e W5 ⟨rfl, rfl⟩)))
      have BW := And.left ‹Below w5.heap.size w5 _ ∧ _›
      go_wp2
      go_ret
      exact ⟨rfl, below_below BB BW⟩
    · rw [en] at EA
      clear LC
      obtain ⟨_, g1, g2, g3, g4⟩ := HK.out w5 (Below.refl _ _)
      go_quiet (first
        | (go_at_call 16; first | (with_reducible refine (LA _).mono ?_; rintro e W5 ⟨rfl, rfl⟩; exact ⟨rfl, _, rfl⟩) | (with_reducible refine (LB _).mono ?_; rintro e W5 ⟨rfl, rfl⟩; exact ⟨rfl, _, rfl⟩))
        | (go_at_call 26; first | (with_reducible refine (OA _).mono ?_; rintro e W5 ⟨rfl, rfl⟩; exact ⟨rfl, _, rfl⟩) | (with_reducible refine (OB _).mono ?_; rintro e W5 ⟨rfl, rfl⟩; exact ⟨rfl, _, rfl⟩)))
      go_wp2
      go_ret
      exact ⟨rfl, below_drewN BB _⟩
end Go.Proofs.YtpggfgkajkgcoaaDoor
