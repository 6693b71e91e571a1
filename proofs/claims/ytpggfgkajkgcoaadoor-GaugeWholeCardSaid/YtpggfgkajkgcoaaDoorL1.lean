/- The walk of GaugeTexts. -/
import Derived.Test.YtpggfgkajkgcoaaDoorG12
set_option linter.unusedVariables false
set_option linter.unusedSimpArgs false
namespace Go.Proofs.YtpggfgkajkgcoaaDoor
open Go.RowKit

theorem text_same (a b : Nat) (ha : a < 18446744073709551616) (hb : b < 18446744073709551616) (h : fsame a b = true) : textF a = textF b := by
  rcases fsame_cases ha hb h with rfl | ⟨x, y⟩
  · rfl
  · unfold textF
    rw [x, y, if_pos rfl, if_pos rfl]
theorem text_lst (a : Nat) (l : List UInt8) (ha : a < 18446744073709551616) (hl : textF a = l) (w : World) (ht : Tab w) : Calls Tryd.prog 22 #[.float .f64 a] w fun e w' => e = .returned (.string ⟨l.toArray⟩) ∧ Below w.heap.size w w' := by
  have := text_any a ha w ht
  rw [hl] at this
  exact this
theorem rtext_lst (a : Nat) (l : List UInt8) (ha : a < 18446744073709551616) (hl : textF a = l) (w : World) : Calls Tryd.prog 23 #[.float .f64 a] w fun e w' => e = .returned (.string ⟨l.toArray⟩) ∧ Below w.heap.size w w' := by
  have := rtext_any a ha w
  rw [hl] at this
  exact this
set_option maxHeartbeats 3200000 in
theorem gtexts_walk (a : Nat) (k n m : Int) (ha : a < 18446744073709551616) (w : World) (ht : Tab w) : Calls Tryd.prog 5 #[.float .f64 a, .int .i64 k, .int .i64 n, .int .i64 m] w fun e w' => e = .returned (.bool true) ∧ Below w.heap.size w w' := by
  have KN := known_any w ht
  have HT := Bx.mk ht
  clear ht
  go_enter Tryd.func5, Tryd.ntmps5
  go_wp2_with fail
  refine KN.mono ?_
  rintro e w1 ⟨rfl, B1⟩
  clear KN
  go_wp2_with fail
  refine (real_any k n m _).mono ?_
  rintro e w2 ⟨x, rfl, B2, lx, _⟩
  have BB := below_below B1 B2
  clear B1 B2
  go_wp2_with fail
  refine (real_any 4 n m _).mono ?_
  rintro e w3 ⟨y, rfl, B3, ly, _⟩
  have BB := below_below BB B3
  clear B3
  obtain ⟨la, hla⟩ : ∃ l, textF a = l := ⟨_, rfl⟩
  obtain ⟨lx2, hlx⟩ : ∃ l, textF x = l := ⟨_, rfl⟩
  obtain ⟨ly2, hly⟩ : ∃ l, textF y = l := ⟨_, rfl⟩
  have TA := text_lst a la ha hla
  have RA := rtext_lst a la ha hla
  have TX := text_lst x lx2 lx hlx
  have RX := rtext_lst x lx2 lx hlx
  have TY := text_lst y ly2 ly hly
  have RY := rtext_lst y ly2 ly hly
  have DS := fres_run .sub (.inr (.inl rfl))
  have SE := fun (l : List UInt8) => (show ((ByteArray.mk l.toArray).toList == (ByteArray.mk l.toArray).toList) = true from beq_self_eq_true _)
  clear hla hlx hly
  go_wp2_with fail
  refine (TA _ (HT.out.keep BB)).mono ?_
  rintro e w4 ⟨rfl, B4⟩
  have BB := below_below BB B4
  clear B4 TA
  go_wp2_with fail
  refine (RA _).mono ?_
  rintro e w5 ⟨rfl, B4⟩
  have BB := below_below BB B4
  clear B4 RA
  have S1 := SE la
  go_wp2_with fail
  have BB := below_below BB (fworld_below .sub 0 a w5)
  have T0 := text_lst (fres .sub 0 a w5) (textF (opF .sub 0 a)) (fres_lt _ _ _ _) (text_same _ _ (fres_lt _ _ _ _) (opF_lt _ _ _) (fres_same _ _ _ _))
  refine (T0 _ (HT.out.keep BB)).mono ?_
  rintro e w6 ⟨rfl, B4⟩
  have BB := below_below BB B4
  clear B4 T0
  go_wp2_with fail
  have BB := below_below BB (fworld_below .sub 0 a w6)
  have T0 := rtext_lst (fres .sub 0 a w6) (textF (opF .sub 0 a)) (fres_lt _ _ _ _) (text_same _ _ (fres_lt _ _ _ _) (opF_lt _ _ _) (fres_same _ _ _ _))
  refine (T0 _).mono ?_
  rintro e w7 ⟨rfl, B4⟩
  have BB := below_below BB B4
  clear B4 T0
  have S2 := SE (textF (opF .sub 0 a))
  generalize textF (opF .sub 0 a) = l0 at S2 ⊢
  go_wp2_with fail
  refine (TX _ (HT.out.keep BB)).mono ?_
  rintro e w8 ⟨rfl, B4⟩
  have BB := below_below BB B4
  clear B4 TX
  go_wp2_with fail
  refine (RX _).mono ?_
  rintro e w9 ⟨rfl, B4⟩
  have BB := below_below BB B4
  clear B4 RX
  have S3 := SE lx2
  go_wp2_with fail
  refine (TY _ (HT.out.keep BB)).mono ?_
  rintro e wa ⟨rfl, B4⟩
  have BB := below_below BB B4
  clear B4 TY
  go_wp2_with fail
  refine (RY _).mono ?_
  rintro e wb ⟨rfl, B4⟩
  have BB := below_below BB B4
  clear B4 RY
  have S4 := SE ly2
  go_wp2
  go_ret
  exact ⟨rfl, BB⟩
end Go.Proofs.YtpggfgkajkgcoaaDoor
