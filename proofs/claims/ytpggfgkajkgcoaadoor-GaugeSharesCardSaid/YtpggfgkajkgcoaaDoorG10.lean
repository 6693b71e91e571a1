/- Shares; what is sorted is one; known. -/
import Derived.Test.YtpggfgkajkgcoaaDoorG6
import Derived.Test.YtpggfgkajkgcoaaDoorG9
set_option linter.unusedVariables false
set_option linter.unusedSimpArgs false
namespace Go.Proofs.YtpggfgkajkgcoaaDoor
open Go.RowKit

theorem map_fk (D : List Nat) (j : Nat) (h : j < D.length) : (D.map fkey)[j]'(by simpa using h) = fk D j := by
  simp [fk, fd, List.getD_eq_getElem?_getD, h]
theorem srt_keys {D : List Nat} (h : Srt D 0 D.length) : (D.map fkey).Pairwise (· ≤ ·) := by
  rw [List.pairwise_iff_getElem]
  intro i j hi hj hij
  rw [List.length_map] at hi hj
  rw [map_fk D i hi, map_fk D j hj]
  exact h.le (by omega) (by omega) (by omega)
/-- Two ways to sort the same numbers: the same keys, place for place. -/
theorem sort_one {xs ys zs : List Nat} (hy : SortOf xs ys) (hz : SortOf xs zs) : ys.map fkey = zs.map fkey :=
  List.Perm.eq_of_pairwise (le := (· ≤ ·)) (fun a b _ _ h k => Int.le_antisymm h k) (srt_keys hy.srt) (srt_keys hz.srt) ((hy.perm.trans hz.perm.symm).map fkey)
theorem sort_keys {xs ys zs : List Nat} (hy : SortOf xs ys) (hz : SortOf xs zs) : ys.length = zs.length ∧ ∀ j : Nat, j < ys.length → fk ys j = fk zs j := by
  have h := sort_one hy hz
  have hl : ys.length = zs.length := by
    have := congrArg List.length h
    simpa using this
  refine ⟨hl, fun j hj => ?_⟩
  rw [← map_fk ys j hj, ← map_fk zs j (by omega)]
  simp only [h]
theorem own_num {a b : Nat} (ha : a < 18446744073709551616) (hb : b < 18446744073709551616) (h : fkey a = fkey b) (hn : nanb b = false) : a = b := by
  rcases fsame_cases ha hb (by unfold fsame; exact decide_eq_true h) with k | ⟨_, k⟩
  · exact k
  · rw [hn] at k; cases k
theorem fsame_own {a b : Nat} (ha : a < 18446744073709551616) (hb : b < 18446744073709551616) (h : fsame a b = true) (hn : nanb b = false) : a = b := own_num ha hb (of_decide_eq_true h) hn

/-- A share. -/
def shareF (a b : Int) : Nat := opF .quo (floatOfInt .f64 a) (floatOfInt .f64 b)
theorem share_any (a b : Int) (w : World) : Calls Tryd.prog 27 #[.int .i64 a, .int .i64 b] w fun e w' => ∃ r, e = .returned (.float .f64 r) ∧ Below w.heap.size w w' ∧ r < 18446744073709551616 ∧ fsame r (shareF a b) = true := by
  have hl := opF_lt .quo (floatOfInt .f64 a) (floatOfInt .f64 b)
  have HS := Bx.mk (show shareF a b = opF .quo (floatOfInt .f64 a) (floatOfInt .f64 b) from rfl)
  rcases run_op .quo (.inr (.inr (.inr rfl))) (floatOfInt .f64 a) (floatOfInt .f64 b) with H | ⟨E, H⟩
  · go_enter Tryd.func27, Tryd.ntmps27
    go_wp2
    go_ret
    exact ⟨_, rfl, Below.refl _ _, hl, by rw [HS.out]; exact fsame_refl _⟩
  · have NN := Bx.mk (nanAt_nan (floatOfInt .f64 a) (floatOfInt .f64 b) w)
    have EE := Bx.mk E
    clear E hl
    go_enter Tryd.func27, Tryd.ntmps27
    go_wp2
    go_ret
    exact ⟨_, rfl, Below.drew (Below.refl _ _), NN.out.2, by rw [HS.out, EE.out]; exact fsame_nan NN.out.1 nan_c⟩
theorem rshare_any (a b : Int) (w : World) : Calls Tryd.prog 31 #[.int .i64 a, .int .i64 b] w fun e w' => ∃ r, e = .returned (.float .f64 r) ∧ Below w.heap.size w w' ∧ r < 18446744073709551616 ∧ fsame r (shareF a b) = true := by
  have hl := opF_lt .quo (floatOfInt .f64 a) (floatOfInt .f64 b)
  have HS := Bx.mk (show shareF a b = opF .quo (floatOfInt .f64 a) (floatOfInt .f64 b) from rfl)
  rcases run_op .quo (.inr (.inr (.inr rfl))) (floatOfInt .f64 a) (floatOfInt .f64 b) with H | ⟨E, H⟩
  · go_enter Tryd.func31, Tryd.ntmps31
    go_wp2
    go_ret
    exact ⟨_, rfl, Below.refl _ _, hl, by rw [HS.out]; exact fsame_refl _⟩
  · have NN := Bx.mk (nanAt_nan (floatOfInt .f64 a) (floatOfInt .f64 b) w)
    have EE := Bx.mk E
    clear E hl
    go_enter Tryd.func31, Tryd.ntmps31
    go_wp2
    go_ret
    exact ⟨_, rfl, Below.drew (Below.refl _ _), NN.out.2, by rw [HS.out, EE.out]; exact fsame_nan NN.out.1 nan_c⟩
theorem share_num (a b : Int) (r : Nat) (hr : shareF a b = r) (hn : nanb r = false) (w : World) : Calls Tryd.prog 27 #[.int .i64 a, .int .i64 b] w fun e w' => e = .returned (.float .f64 r) ∧ Below w.heap.size w w' := by
  refine (share_any a b w).mono ?_
  rintro e w' ⟨r', rfl, B, l, s⟩
  rw [hr] at s
  exact ⟨by rw [fsame_own l (by rw [← hr]; exact opF_lt _ _ _) s hn], B⟩

/-- The literals of the example. -/
theorem mean_two (w : World) (a : Addr) (h : FRow w (some a) [4607182418800017408, 4611686018427387904]) :
    Calls Tryd.prog 24 #[.slice (some a) 2 2] w fun e w' => e = .returned (.tuple #[.float .f64 4609434218613702656, .bool true]) ∧ Below w.heap.size w w' := by
  have hw : FW [4607182418800017408, 4611686018427387904] := by
    intro i
    rcases fd_mem_or (D := [4607182418800017408, 4611686018427387904]) i with k | k
    · simp at k
      rcases k with k | k <;> rw [k] <;> omega
    · rw [k]; omega
  refine (mean_any (cap := 2) w h hw (by simp) (by simp)).mono ?_
  rintro e w' ⟨m, rfl, B, l, s⟩
  have hm : hasMean [4607182418800017408, 4611686018427387904] = true := by decide +kernel
  have h1 := s.yes hm
  have h2 : meanF [4607182418800017408, 4611686018427387904] = 4609434218613702656 := by decide +kernel
  rw [h2] at h1
  rw [hm, fsame_own l (by omega) h1 (by decide)]
  exact ⟨rfl, B⟩
theorem cell_keep {w w' : World} {b o : Nat} {v : Option Value} (h : w.cell? ⟨b, o, none⟩ = v) (hl : b < w.heap.size) (hb : Below w.heap.size w w') : w'.cell? ⟨b, o, none⟩ = v ∧ b < w'.heap.size :=
  ⟨by rw [← h]; exact World.cell?_of_block (hb.block b hl), Nat.lt_of_lt_of_le hl hb.size⟩
theorem sort_three (w : World) (nn : Nat) (hn : nanb nn = true) (hl : nn < 18446744073709551616) {B : Nat} (v : Value) (h : FOwn w B v [4607182418800017408, nn, 18442240474082181120]) :
    Calls Tryd.prog 18 #[v] w fun e w' => ∃ b cap, e = .returned (.slice (some ⟨b, 0, none⟩) 3 cap) ∧ w'.cell? ⟨b, 1, none⟩ = some (.float .f64 4607182418800017408) ∧ b < w'.heap.size ∧ Below w.heap.size w w' := by
  have hw : FW [4607182418800017408, nn, 18442240474082181120] := by
    intro i
    rcases fd_mem_or (D := [4607182418800017408, nn, 18442240474082181120]) i with k | k
    · simp at k
      rcases k with k | k | k <;> rw [k] <;> omega
    · rw [k]; omega
  refine (sort_any h hw (by simp) (by simp)).mono ?_
  rintro e w' ⟨v', ys, rfl, o, B, s⟩
  have hz : SortOf [4607182418800017408, nn, 18442240474082181120] [18442240474082181120, 4607182418800017408, nn] := by
    refine ⟨?_, ?_⟩
    · exact (List.Perm.swap _ _ _).trans ((List.Perm.cons _ (List.Perm.swap _ _ _)))
    · intro z h0 h1
      rcases (by simp at h1; omega : z = 0 ∨ z = 1) with rfl | rfl
      · show fkey 18442240474082181120 ≤ fkey 4607182418800017408
        decide
      · show fkey 4607182418800017408 ≤ fkey nn
        rw [fkey_nan hn]
        decide
  obtain ⟨l3, k3⟩ := sort_keys s hz
  simp at l3
  rcases o with ⟨_, e0⟩ | ⟨g, c0, c1, rfl, k⟩
  · rw [e0] at l3
    cases l3
  · rw [l3] at k ⊢
    refine ⟨g, c1, rfl, ?_, k.rng.2, B⟩
    have := k.cell 1 (by omega) (by omega)
    rw [show (1 : Int).toNat = 1 from rfl] at this
    rw [this]
    have h1 := k3 1 (by omega)
    have h2 : fd ys 1 = 4607182418800017408 := own_num (FW_perm s.perm hw 1) (by omega) h1 (by decide)
    rw [h2]
set_option maxHeartbeats 3200000 in
theorem known_any (w : World) (ht : Tab w) : Calls Tryd.prog 14 #[] w fun e w' => e = .returned (.bool true) ∧ Below w.heap.size w w' := by
  have B1 := below_alloc (Below.refl w.heap.size w) (.cells (flts [4607182418800017408, 4611686018427387904]).toArray 22)
  have M := mean_two _ ⟨w.heap.size, 0, none⟩ (frow_new w [4607182418800017408, 4611686018427387904])
  have B1 := show Below w.heap.size w (w.alloc (.cells #[.float .f64 4607182418800017408, .float .f64 4611686018427387904] 22)) from B1
  have M := show Calls Tryd.prog 24 #[.slice (some ⟨w.heap.size, 0, none⟩) 2 2] (w.alloc (.cells #[.float .f64 4607182418800017408, .float .f64 4611686018427387904] 22)) _ from M
  have Q0 : ∀ w : World, (binOp .quo 22 (.float .f64 0) (.float .f64 0)).run Tryd.prog w = .ok (.float .f64 (nanAt 0 0 w)) w.drew := run_nan .quo 0 0 (.inr (.inr (.inr rfl))) (by decide +kernel)
  have Q1 : ∀ w : World, (binOp .quo 22 (.float .f64 13830554455654793216) (.float .f64 0)).run Tryd.prog w = .ok (.float .f64 18442240474082181120) w := fun w => run_float_arith w .quo 22 .f64 _ _ _ (by decide +kernel)
  have NN := nanAt_nan 0 0
  generalize nanAt 0 0 = f at Q0 NN
  have S3 := fun (wx : World) => sort_three ((wx.drew).alloc (.cells (flts [4607182418800017408, f wx, 18442240474082181120]).toArray 22)) (f wx) (NN wx).1 (NN wx).2 (B := wx.heap.size) _ (fown_lit wx.drew wx.heap.size [4607182418800017408, f wx, 18442240474082181120] (Nat.le_refl _) (by simp)).own
  have S3 := fun (wx : World) => show Calls Tryd.prog 18 #[.slice (some ⟨wx.heap.size, 0, none⟩) 3 3] ((wx.alloc (.cells #[.float .f64 4607182418800017408, .float .f64 (f wx), .float .f64 18442240474082181120] 22)).drew) _ from S3 wx
  have S3B := fun (wx : World) => show Below wx.heap.size wx ((wx.alloc (.cells #[.float .f64 4607182418800017408, .float .f64 (f wx), .float .f64 18442240474082181120] 22)).drew) from Below.drew (below_alloc (Below.refl _ _) _)
  have SH := share_num 1 2 4602678819172646912 (by decide +kernel) (by decide)
  have L1 : ∀ wx : World, Calls Tryd.prog 16 #[.float .f64 18442240474082181120, .float .f64 0] wx fun e w' => e = .returned (.bool true) ∧ wx = w' := fun wx => less_any _ _ (by omega) (by omega) wx
  have L2 : ∀ (u : Nat) (wx : World), nanb u = true → u < 18446744073709551616 → Calls Tryd.prog 16 #[.float .f64 u, .float .f64 4607182418800017408] wx fun e w' => e = .returned (.bool false) ∧ wx = w' := fun u wx h1 h2 => by
    have := less_any u 4607182418800017408 h2 (by omega) wx
    rwa [show fless u 4607182418800017408 = false from by rw [fless_nan (.inl h1), h1]; rfl] at this
  have TX : ∀ wx : World, Tab wx → Calls Tryd.prog 22 #[.float .f64 4602678819172646912] wx fun e w' => e = .returned (.string ⟨#[53, 49, 50]⟩) ∧ Below wx.heap.size wx w' := fun wx hx => by
    have := text_any 4602678819172646912 (by omega) wx hx
    rwa [show strV (textF 4602678819172646912) = .string ⟨#[53, 49, 50]⟩ from by
      have e1 : textF 4602678819172646912 = Lib.itoa 512 := by
        unfold textF
        rw [show nanb 4602678819172646912 = false from by decide, if_neg (by decide), if_neg (by decide), if_neg (by decide), if_neg (by decide)]
        have : sv (fsg 4602678819172646912) (rneU (1024 * mg (rung 4602678819172646912))) = 512 := by decide +kernel
        rw [this]
      rw [e1]
      have e2 : Lib.itoa 512 = [53, 49, 50] := by
        unfold Lib.itoa
        rw [if_neg (by decide)]
        show Lib.decDigits 512 = _
        rw [Lib.decDigits, dif_neg (by decide), Lib.decDigits, dif_neg (by decide), Lib.decDigits, dif_pos (by decide)]
        decide
      rw [e2]
      rfl] at this
  have HT := Bx.mk ht
  clear ht
  go_enter Tryd.func14, Tryd.ntmps14
  go_wp2_with fail
  refine M.mono ?_
  rintro e w2 ⟨rfl, B2⟩
  have B3 := below_below B1 B2
  clear M B1 B2
  have S3B2 := S3B w2
  have S3W := S3 w2
  clear S3 S3B
  go_wp2_with fail
  refine S3W.mono ?_
  rintro e w3 ⟨b, cap, rfl, c1, lb, B4⟩
  have BB := below_below B3 (below_below S3B2 B4)
  clear S3B2 B3 B4 S3W
  go_wp2_with fail
  refine (SH _).mono ?_
  rintro e w4 ⟨rfl, B4⟩
  obtain ⟨c1, lb⟩ := cell_keep c1 lb B4
  have BB := below_below BB B4
  clear B4
  go_wp2_with fail
  refine (L1 _).mono ?_
  rintro e w4 ⟨rfl, rfl⟩
  have nn := NN w4
  have B5 := Below.drew BB
  have D1 : w4.drew.cell? ⟨b, 1, none⟩ = some (.float .f64 4607182418800017408) := c1
  have lb2 : b < w4.drew.heap.size := lb
  go_wp2_with fail
  refine (L2 _ _ nn.1 nn.2).mono ?_
  rintro e w5 ⟨rfl, rfl⟩
  have TXX := TX _ (HT.out.keep B5)
  clear TX nn BB c1 lb
  go_wp2_with fail
  refine TXX.mono ?_
  rintro e w6 ⟨rfl, B6⟩
  have c2 := (cell_keep D1 lb2 B6).1
  have BB := below_below B5 B6
  clear TXX D1 lb2 B5 B6
  have SE : ((ByteArray.mk #[53, 49, 50]).toList == (ByteArray.mk #[53, 49, 50]).toList) = true := beq_self_eq_true _
  have O1 : (FloatKind.f64.format.order 4609434218613702656 4609434218613702656 == some .eq) = true := by decide +kernel
  have O2 : (FloatKind.f64.format.order 4607182418800017408 4607182418800017408 == some .eq) = true := by decide +kernel
  have O3 : (FloatKind.f64.format.order 4602678819172646912 4602678819172646912 == some .eq) = true := by decide +kernel
  go_wp2
  go_ret
  exact ⟨rfl, BB⟩
end Go.Proofs.YtpggfgkajkgcoaaDoor
