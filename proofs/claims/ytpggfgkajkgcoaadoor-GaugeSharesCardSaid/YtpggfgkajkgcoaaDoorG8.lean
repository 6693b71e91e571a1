/- The document's digits and texts. -/
import Derived.Test.YtpggfgkajkgcoaaDoorG7
import Derived.Test.YtpggfgkajkgcoaaDoorFc
import Derived.Laws.BytesArg
set_option linter.unusedVariables false
set_option linter.unusedSimpArgs false
namespace Go.Proofs.YtpggfgkajkgcoaaDoor
open Go.RowKit

theorem digit_bound {u : Nat} (h : u < 10) : Lib.decDigits u = [UInt8.ofNat (48 + u)] := by rw [Lib.decDigits, dif_pos h]
theorem one_byte (u : Nat) (h : u < 10) (w : World) : (convert 58 9 (.slice (some ⟨w.heap.size, 0, none⟩) 1 1)).run Tryd.prog (w.alloc (.cells #[.int .u8 (48 + u)] 5)) = .ok (.string ⟨(Lib.decDigits u).toArray⟩) (w.alloc (.cells #[.int .u8 (48 + u)] 5)) := by
  rw [run_convert_bytes_arg _ 58 5 Tryd.underlying58 Tryd.underlying5 w.heap.size 0 1 1 [48 + (u : Int)] rfl (fun i hi => by
    obtain rfl : i = 0 := by omega
    have := (box_new w #[.int .u8 (48 + u)] 5).cell 0
    rw [this]; rfl) 9 Tryd.underlying9]
  rw [digit_bound h]
  unfold strOfNums
  have e : (48 + (u : Int)).toNat = 48 + u := by omega
  simp only [List.map_cons, List.map_nil, e]
theorem rdigits_small (u : Nat) (h : u < 10) (w : World) : Calls Tryd.prog 43 #[.int .i64 u] w fun e w' => e = .returned (strV (Lib.decDigits u)) ∧ Below w.heap.size w w' := by
  have h1 : ¬ (u : Int) ≥ 10 := by omega
  have y1 : IntKind.i64.wrap (48 + (u : Int)) = 48 + u := IntWalk.i64_in _ (by omega)
  have y2 : IntKind.u8.wrap (48 + (u : Int)) = 48 + u := by
    show (48 + (u : Int)) % 256 = _
    omega
  have CB := one_byte u h w
  have BW := below_alloc (Below.refl w.heap.size w) (.cells #[.int .u8 (48 + u)] 5)
  go_enter Tryd.func43, Tryd.ntmps43
  go_wp2
  go_ret
  exact ⟨rfl, BW⟩
theorem dec_len : ∀ (k u : Nat), u < 10 ^ (k + 1) → (Lib.decDigits u).length ≤ k + 1
  | 0, u, h => by rw [digit_bound (by omega)]; simp
  | k + 1, u, h => by
    by_cases hu : u < 10
    · rw [digit_bound hu]; simp
    · rw [Lib.decDigits, dif_neg hu, List.length_append]
      have := dec_len k (u / 10) (by rw [Nat.pow_succ] at h; omega)
      simp
      omega
theorem str_add (l m : List UInt8) (h : l.length + m.length ≤ 1000) (w : World) : (Op.stringOp .add ⟨l.toArray⟩ ⟨m.toArray⟩).run Tryd.prog w = .ok (strV (l ++ m)) w := by
  unfold Op.stringOp
  have hs : ¬ (((ByteArray.mk l.toArray).size + (ByteArray.mk m.toArray).size : Nat) : Int) > IntKind.i64.max := by
    have : IntKind.i64.max = 9223372036854775807 := by decide
    rw [this]
    show ¬ ((l.toArray.size + m.toArray.size : Nat) : Int) > 9223372036854775807
    simp
    omega
  simp only []
  rw [if_neg hs]
  have e : (ByteArray.mk l.toArray) ++ (ByteArray.mk m.toArray) = ⟨(l ++ m).toArray⟩ := by
    apply ByteArray.ext
    simp
  rw [e]
  rfl
theorem rdigits_any : ∀ (k u : Nat), u < 10 ^ (k + 1) → k ≤ 20 → u < 4611686018427387904 → ∀ (w : World), Calls Tryd.prog 43 #[.int .i64 u] w fun e w' => e = .returned (strV (Lib.decDigits u)) ∧ Below w.heap.size w w'
  | 0, u, h, _, _, w => rdigits_small u (by omega) w
  | k + 1, u, h, hk, hb, w => by
    by_cases hu : u < 10
    · exact rdigits_small u hu w
    · have g1 : (10 : Int) ≤ u := by omega
      have R1 : Calls Tryd.prog 43 #[.int .i64 ((u : Int) / 10)] w fun e w' => e = .returned (strV (Lib.decDigits (u / 10))) ∧ Below w.heap.size w w' := by
        have := rdigits_any k (u / 10) (by rw [Nat.pow_succ] at h; omega) (by omega) (by omega) w
        rwa [show ((u / 10 : Nat) : Int) = (u : Int) / 10 from by omega] at this
      have R2 : ∀ w, Calls Tryd.prog 43 #[.int .i64 ((u : Int) % 10)] w fun e w' => e = .returned (strV (Lib.decDigits (u % 10))) ∧ Below w.heap.size w w' := fun w => by
        have := rdigits_small (u % 10) (by omega) w
        rwa [show ((u % 10 : Nat) : Int) = (u : Int) % 10 from by omega] at this
      have D : Lib.decDigits u = Lib.decDigits (u / 10) ++ Lib.decDigits (u % 10) := by
        rw [digit_bound (u := u % 10) (by omega)]
        conv => lhs; rw [Lib.decDigits, dif_neg hu]
      have l1 := dec_len k (u / 10) (by rw [Nat.pow_succ] at h; omega)
      have l2 := dec_len 0 (u % 10) (by omega)
      have SA := str_add (Lib.decDigits (u / 10)) (Lib.decDigits (u % 10)) (by omega)
      rw [D]
      clear D h l1 l2
      generalize Lib.decDigits (u / 10) = d1 at R1 SA ⊢
      generalize Lib.decDigits (u % 10) = d2 at R2 SA ⊢
      unfold strV at R1 R2
      go_enter Tryd.func43, Tryd.ntmps43
      go_wp2_with fail

      refine R1.mono ?_
      rintro e w1 ⟨rfl, B1⟩
      clear R1
      go_wp2_with fail
      refine (R2 w1).mono ?_
      rintro e w2 ⟨rfl, B2⟩
      have BB := below_below B1 B2
      clear R2 B1 B2
      go_wp2
      go_ret
      exact ⟨rfl, BB⟩
end Go.Proofs.YtpggfgkajkgcoaaDoor
