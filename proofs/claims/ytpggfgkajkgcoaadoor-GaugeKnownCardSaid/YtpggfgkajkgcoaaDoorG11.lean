/- The walk of GaugeKnown. -/
import Derived.Test.YtpggfgkajkgcoaaDoorG10
import Derived.Deep.RegionHeld3
set_option linter.unusedVariables false
set_option linter.unusedSimpArgs false
namespace Go.Proofs.YtpggfgkajkgcoaaDoor
open Go.RowKit

def kF (nn : Nat) : List Nat := [0, 9223372036854775808, 4607182418800017408, 13830554455654793216, 4557642822898941952, 4564398222339997696, 13781014859753717760, 13787770259194773504, 4553139223271571456, 4787326403894837248, 14010698440749613056, 4787326403894829056, nn, 9218868437227405312, 18442240474082181120, 1, 9223372036854775809, 9094988921128908188]
def kS : List (List UInt8) := [[48], [45, 48], [49, 48, 50, 52], [45, 49, 48, 50, 52], [48], [50], [48], [45, 50], [48], [98, 105, 103], [45, 98, 105, 103], [49, 49, 50, 53, 56, 57, 57, 57, 48, 54, 56, 52, 49, 54, 48, 48], [110, 97, 110], [105, 110, 102], [45, 105, 110, 102], [48], [48], [98, 105, 103]]
def kL (k : Int) : List UInt8 := kS.getD k.toNat []
theorem kF_all : ∀ k : Fin 18, textF (fd (kF 9221120237041090561) (k.val : Int)) = kL (k.val : Int) := by decide +kernel
theorem kF_text (nn : Nat) (hn : nanb nn = true) (k : Int) (h0 : 0 ≤ k) (h1 : k < 18) : textF (fd (kF nn) k) = kL k := by
  by_cases h : k = 12
  · subst h
    show textF nn = _
    unfold textF
    rw [hn]
    rfl
  · have e : fd (kF nn) k = fd (kF 9221120237041090561) k := by
      rcases (by omega : k = 0 ∨ k = 1 ∨ k = 2 ∨ k = 3 ∨ k = 4 ∨ k = 5 ∨ k = 6 ∨ k = 7 ∨ k = 8 ∨ k = 9 ∨ k = 10 ∨ k = 11 ∨ k = 13 ∨ k = 14 ∨ k = 15 ∨ k = 16 ∨ k = 17) with rfl | rfl | rfl | rfl | rfl | rfl | rfl | rfl | rfl | rfl | rfl | rfl | rfl | rfl | rfl | rfl | rfl <;> rfl
    rw [e]
    have := kF_all ⟨k.toNat, by omega⟩
    simp only [Int.toNat_of_nonneg h0] at this
    exact this
theorem kF_lt (nn : Nat) (hl : nn < 18446744073709551616) : FW (kF nn) := by
  intro i
  rcases fd_mem_or (D := kF nn) i with k | k
  · generalize fd (kF nn) i = x at k ⊢
    unfold kF at k
    simp only [List.mem_cons, List.not_mem_nil, or_false] at k
    omega
  · rw [k]; omega
set_option maxHeartbeats 1600000 in
theorem gknown_walk (a : Int) (w : World) (ht : Tab w) : Calls Tryd.prog 7 #[.int .i64 a] w fun e w' => e = .returned (.bool true) ∧ Below w.heap.size w w' := by
  have KN := known_any w ht
  have Q0 : ∀ w : World, (binOp .quo 22 (.float .f64 0) (.float .f64 0)).run Tryd.prog w = .ok (.float .f64 (nanAt 0 0 w)) w.drew := run_nan .quo 0 0 (.inr (.inr (.inr rfl))) (by decide +kernel)
  have Q1 : ∀ w : World, (binOp .quo 22 (.float .f64 13830554455654793216) (.float .f64 0)).run Tryd.prog w = .ok (.float .f64 18442240474082181120) w := fun w => run_float_arith w .quo 22 .f64 _ _ _ (by decide +kernel)
  have Q2 : ∀ w : World, (binOp .quo 22 (.float .f64 4607182418800017408) (.float .f64 0)).run Tryd.prog w = .ok (.float .f64 9218868437227405312) w := fun w => run_float_arith w .quo 22 .f64 _ _ _ (by decide +kernel)
  have Q3 : ∀ w : World, (binOp .sub 22 (.float .f64 0) (.float .f64 4607182418800017408)).run Tryd.prog w = .ok (.float .f64 13830554455654793216) w := fun w => run_float_arith w .sub 22 .f64 _ _ _ (by decide +kernel)
  have Q4 : ∀ w : World, (binOp .mul 22 (.float .f64 0) (.float .f64 13830554455654793216)).run Tryd.prog w = .ok (.float .f64 9223372036854775808) w := fun w => run_float_arith w .mul 22 .f64 _ _ _ (by decide +kernel)
  have NN := nanAt_nan 0 0
  generalize nanAt 0 0 = f at Q0 NN
  have HT := Bx.mk ht
  clear ht
  go_enter Tryd.func7, Tryd.ntmps7
  go_wp2_with fail
  refine KN.mono ?_
  rintro e w1 ⟨rfl, B1⟩
  clear KN
  go_upto_region 6 with fail
  have hb1 := ((box_new w1 (flts (kF (f w1))).toArray 22).keep (below_alloc (Below.refl _ _) (.cells (kS.map strV).toArray 9))).keep (Below.drew (Below.refl _ _))
  have hb2 := (box_new (w1.alloc (.cells (flts (kF (f w1))).toArray 22)) (kS.map strV).toArray 9).keep (Below.drew (Below.refl _ _))
  have BB := Below.drew (below_alloc (below_alloc B1 (.cells (flts (kF (f w1))).toArray 22)) (.cells (kS.map strV).toArray 9))
  change Code.wp _ _ _ _ (((w1.alloc (.cells (flts (kF (f w1))).toArray 22)).alloc (.cells (kS.map strV).toArray 9)).drew)
  rw [show (w1.alloc (.cells (flts (kF (f w1))).toArray 22)).heap.size = w1.heap.size + 1 from by simp only [World.size_alloc]] at hb2
  have nn := NN w1
  generalize f w1 = nx at hb1 hb2 BB nn ⊢
  generalize (World.drew _) = wz at hb1 hb2 BB ⊢
  generalize w1.heap.size + 1 = b2 at hb2 ⊢
  generalize w1.heap.size = b1 at hb1 ⊢
  have KT := kF_text nx nn.1
  have KL := kF_lt nx nn.2
  have hk := wi_rng a 18 (by omega)
  have WI := fun w => within12_any a 18 (by omega) (by omega) w
  generalize wi a 18 = k at hk WI
  have k0 := hk.1
  have k1 := hk.2
  have c1 := hb1.cell k.toNat
  have c2 := hb2.cell k.toNat
  have k2 : k.toNat < 18 := by omega
  rw [List.getElem?_toArray, flts_at k k0 (show k < ((kF nx).length : Int) from k1)] at c1
  rw [List.getElem?_toArray, show (kS.map strV)[k.toNat]? = some (strV (kL k)) from by
    unfold kL
    have : k.toNat < kS.length := k2
    rw [List.getElem?_map, List.getD_eq_getElem?_getD, List.getElem?_eq_getElem this]; rfl] at c2
  have TE := KT k k0 k1
  have XL := KL k
  generalize fd (kF nx) k = x at c1 TE XL
  generalize kL k = l at c2 TE
  have HTE := Bx.mk TE
  unfold strV at c2
  have TT := HT.out.keep BB
  have HK : Bx (∀ W, Below wz.heap.size wz W → Below wz.heap.size wz W ∧ W.cell? ⟨b1, k.toNat, none⟩ = some (.float .f64 x) ∧ W.cell? ⟨b2, k.toNat, none⟩ = some (.string ⟨l.toArray⟩)) :=
    ⟨fun W h => ⟨h, by rw [(hb1.keep h).cell, ← hb1.cell]; exact c1, by rw [(hb2.keep h).cell, ← hb2.cell]; exact c2⟩⟩
  have TXC := fun (W : World) (h : Tab W) => (show Calls Tryd.prog 22 #[.float .f64 x] W fun e w' => e = .returned (.string ⟨l.toArray⟩) ∧ Below W.heap.size W w' from by
    have := text_any x XL W h
    rw [TE] at this
    exact this)
  have SE : ((ByteArray.mk l.toArray).toList == (ByteArray.mk l.toArray).toList) = true := beq_self_eq_true _
  clear TE KT KL hk hb1 hb2 B1 Q0 Q1 Q2 Q3 Q4 NN nn c1 c2
  go_wp2_with (first | (go_at_call 19; refine (WI _).mono ?_; rintro e w' ⟨rfl, rfl⟩))
  go_region_held3 (fun W => Below wz.heap.size wz W ∧ W.cell? ⟨b1, k.toNat, none⟩ = some (.float .f64 x) ∧ W.cell? ⟨b2, k.toNat, none⟩ = some (.string ⟨l.toArray⟩))
    (first | assumption | exact HK.out _ (below_below (And.left ‹_ ∧ _›) hB1) | exact HK.out _ (Below.drew (Below.refl _ _)))
    (first
      | (go_at_call 22; (with_reducible refine (TXC _ (TT.keep (And.left ‹_ ∧ _›))).mono ?_); rintro e W5 ⟨rfl, hB1⟩))
  have BW := And.left ‹Below wz.heap.size wz _ ∧ _›
  go_wp2
  go_ret
  exact ⟨rfl, below_below BB BW⟩
end Go.Proofs.YtpggfgkajkgcoaaDoor
