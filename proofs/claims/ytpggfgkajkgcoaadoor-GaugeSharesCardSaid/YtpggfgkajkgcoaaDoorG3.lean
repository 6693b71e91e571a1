/- Sums, means. -/
import Derived.Test.YtpggfgkajkgcoaaDoorG2
import Derived.Test.YtpggfgkajkgcoaaDoorSm
import Derived.Shelf.Abstract
set_option linter.unusedVariables false
set_option linter.unusedSimpArgs false
namespace Go.Proofs.YtpggfgkajkgcoaaDoor
open Go.RowKit

/-- What an operation gives: a number, or none (some word that is no number). -/
def opF (op : BinOp) (x y : Nat) : Nat := (floatBits op .f64 x y).getD 9221120237041090561
def nanAt (x y : Nat) (w : World) : Nat := Question.cut (.nanBits .f64 x y) (w.tape w.drawn (.nanBits .f64 x y))
theorem nanAt_nan (x y : Nat) (w : World) : nanb (nanAt x y w) = true ∧ nanAt x y w < 18446744073709551616 := by
  unfold nanAt
  show nanb ((_ % 2) * 2 ^ 63 + 0x7ff0000000000000 + 1 + (_ / 2) % (2 ^ 52 - 1)) = true ∧ (_ % 2) * 2 ^ 63 + 0x7ff0000000000000 + 1 + (_ / 2) % (2 ^ 52 - 1) < _
  generalize w.tape w.drawn (.nanBits .f64 x y) = t
  have h0 : (2 : Nat) ^ 63 = 9223372036854775808 := by decide
  have h1 : t % 2 < 2 := Nat.mod_lt _ (by omega)
  have h2 : (t / 2) % (2 ^ 52 - 1) < 2 ^ 52 - 1 := Nat.mod_lt _ (by decide)
  have h3 : (2 : Nat) ^ 52 - 1 = 4503599627370495 := by decide
  rw [h3] at h2 ⊢
  rw [h0]
  generalize t / 2 % 4503599627370495 = u at h2
  generalize t % 2 = v at h1
  refine ⟨?_, by omega⟩
  unfold nanb rung
  apply decide_eq_true
  omega
theorem run_nan (op : BinOp) (x y : Nat) (ho : op = .add ∨ op = .sub ∨ op = .mul ∨ op = .quo) (h : floatBits op .f64 x y = none) (w : World) :
    (binOp op 22 (.float .f64 x) (.float .f64 y)).run Tryd.prog w = .ok (.float .f64 (nanAt x y w)) w.drew := by
  unfold floatBits at h
  rcases ho with rfl | rfl | rfl | rfl <;> simp only at h <;> simp [binOp, Op.floatArith, h] <;> rfl
theorem opF_some {op : BinOp} {x y r : Nat} (h : floatBits op .f64 x y = some r) : opF op x y = r := by unfold opF; rw [h]; rfl
theorem opF_none {op : BinOp} {x y : Nat} (h : floatBits op .f64 x y = none) : opF op x y = 9221120237041090561 := by unfold opF; rw [h]; rfl
theorem bits_lt {op : BinOp} {x y r : Nat} (h : floatBits op .f64 x y = some r) : r < 18446744073709551616 := by
  have := floatBits_wf h
  simpa [Lit.wf] using this
theorem opF_lt (op : BinOp) (x y : Nat) : opF op x y < 18446744073709551616 := by
  cases h : floatBits op .f64 x y with
  | none => rw [opF_none h]; omega
  | some r => rw [opF_some h]; exact bits_lt h
theorem fsame_refl (a : Nat) : fsame a a = true := by unfold fsame; simp
theorem fsame_nan {a b : Nat} (ha : nanb a = true) (hb : nanb b = true) : fsame a b = true := by
  unfold fsame
  rw [fkey_nan ha, fkey_nan hb]; simp
theorem fsame_comm {a b : Nat} (h : fsame a b = true) : fsame b a = true := by
  unfold fsame at *
  simp at *
  exact h.symm
theorem fsame_trans {a b c : Nat} (h : fsame a b = true) (k : fsame b c = true) : fsame a c = true := by
  unfold fsame at *
  simp at *
  omega
theorem fsame_cases {a b : Nat} (ha : a < 18446744073709551616) (hb : b < 18446744073709551616) (h : fsame a b = true) : a = b ∨ (nanb a = true ∧ nanb b = true) := by
  unfold fsame at h
  have h := of_decide_eq_true h
  cases na : nanb a
  · cases nb : nanb b
    · left
      rw [(fkey_num na).2, (fkey_num nb).2] at h
      have h1 : fsg a = fsg b ∧ rung a = rung b := by
        cases sa : fsg a <;> cases sb : fsg b <;> simp [sa, sb] at h ⊢ <;> omega
      rw [← wd_self ha, ← wd_self hb, h1.1, h1.2]
    · rw [fkey_nan nb] at h
      have := (fkey_num na).1
      omega
  · cases nb : nanb b
    · rw [fkey_nan na] at h
      have := (fkey_num nb).1
      omega
    · exact .inr ⟨rfl, rfl⟩
theorem sum_nan_left {d e : Ieee.Datum} (h : d.isNaN = true) : d.sum e = none := by cases d <;> cases e <;> simp [Ieee.Datum.isNaN] at h ⊢ <;> rfl
theorem bits_nan_left {op : BinOp} {x y : Nat} (h : nanb x = true) : floatBits op .f64 x y = none := by
  have hr := read_nan h
  cases op <;> try rfl
  all_goals
    simp only [floatBits]
    show _ = none
  · show Ieee.double.add x y = none
    unfold Ieee.Format.add
    rw [hr]
    cases Ieee.double.read y <;> rfl
  · show Ieee.double.sub x y = none
    unfold Ieee.Format.sub
    rw [hr]
    cases Ieee.double.read y <;> rfl
  · show Ieee.double.mul x y = none
    unfold Ieee.Format.mul
    rw [hr]
    cases Ieee.double.read y <;> rfl
  · show Ieee.double.div x y = none
    unfold Ieee.Format.div
    rw [hr]
    cases Ieee.double.read y <;> rfl
/-- Whatever word stands for no number, the operation gives the same. -/
theorem opF_left {op : BinOp} {x x' y : Nat} (hx : x < 18446744073709551616) (hx' : x' < 18446744073709551616) (h : fsame x x' = true) : opF op x y = opF op x' y := by
  rcases fsame_cases hx hx' h with rfl | ⟨a, b⟩
  · rfl
  · rw [opF_none (bits_nan_left a), opF_none (bits_nan_left b)]
theorem nan_c : nanb 9221120237041090561 = true := by decide
/-- A step of the walk: whether it is a number or not. -/
theorem run_op (op : BinOp) (ho : op = .add ∨ op = .sub ∨ op = .mul ∨ op = .quo) (x y : Nat) : (∀ w : World, (binOp op 22 (.float .f64 x) (.float .f64 y)).run Tryd.prog w = .ok (.float .f64 (opF op x y)) w) ∨ (opF op x y = 9221120237041090561 ∧ ∀ w : World, (binOp op 22 (.float .f64 x) (.float .f64 y)).run Tryd.prog w = .ok (.float .f64 (nanAt x y w)) w.drew) := by
  cases h : floatBits op .f64 x y with
  | none => exact .inr ⟨opF_none h, run_nan op x y ho h⟩
  | some r =>
    rw [opF_some h]
    exact .inl fun w => run_float_arith w op 22 .f64 x y r h

/-- The place of the first that is no number. -/
theorem index_any {aX : Option Addr} {xs : List Nat} {cap : Nat} (w : World) (hX : FRow w aX xs) (hl : xs.length ≤ 100000) :
    Calls Tryd.prog 54 #[.slice aX xs.length cap, .func (.func 34) #[] #[]] w fun e w' => ∃ i : Int, e = .returned (.int .i64 i) ∧ w' = w ∧ (i < 0 ↔ ∀ j : Nat, j < xs.length → nanb (fd xs j) = false) := by
  have eg : ∀ args w, (callFunc 34 args).run Tryd.prog w = .ok (.enter 34 args) w := enters_of Tryd.func34 (by kernel_rfl) rfl
  go_enter Tryd.func54, Tryd.ntmps54
  go_wp2
  go_loopg [8] (xs.length + 1) (fun q y wr => ∃ i : Nat, y = .int .i64 i ∧ q = xs.length + 1 - i ∧ i ≤ xs.length ∧ wr = w ∧ Bx (∀ j : Nat, j < i → nanb (fd xs j) = false))
  case atStart => exact ⟨0, rfl, by omega, by omega, rfl, ⟨fun j h => by omega⟩⟩
  case round =>
    obtain ⟨i, rfl, hq, hi, rfl, NE⟩ := hrel
    by_cases hin : i < xs.length
    · have hI : (i : Int) < xs.length := by omega
      obtain ⟨b, o, rfl, _, hc⟩ := hX i (by omega) hI
      rw [Int.toNat_natCast] at hc
      obtain ⟨x, hx⟩ : ∃ x, fd xs i = x := ⟨_, rfl⟩
      rw [hx] at hc
      have HX := Bx.mk hx
      clear hx
      cases e : nanb x
      · go_wp2_with (first | (go_at_call 34; refine (isnan_any _ _).mono ?_; rintro e w' ⟨rfl, rfl⟩))
        go_roundg (xs.length + 1 - (i + 1))
        case rel => exact ⟨i + 1, rfl, rfl, by omega, rfl, ⟨fun j h => by
          by_cases hj : j = i
          · rw [hj, HX.out]; assumption
          · exact NE.out j (by omega)⟩⟩
        case measure => omega
      · go_wp2_with (first | (go_at_call 34; refine (isnan_any _ _).mono ?_; rintro e w' ⟨rfl, rfl⟩))
        go_ret
        refine ⟨i, rfl, rfl, ⟨fun h => by omega, fun h => ?_⟩⟩
        have h2 := h i hin
        rw [HX.out] at h2
        simp_all
    · have hI : ¬ (i : Int) < xs.length := by omega
      go_wp2
      go_ret
      exact ⟨-1, rfl, rfl, ⟨fun _ j hj => NE.out j (by omega), fun _ => by omega⟩⟩
def anyNan (xs : List Nat) : Bool := xs.any nanb
theorem anyNan_iff (xs : List Nat) : anyNan xs = false ↔ ∀ j : Nat, j < xs.length → nanb (fd xs j) = false := by
  unfold anyNan
  rw [List.any_eq_false]
  constructor
  · intro h j hj
    have := h (xs[j]) (List.getElem_mem hj)
    rw [fd, Int.toNat_natCast, List.getD_eq_getElem?_getD, List.getElem?_eq_getElem hj]
    simpa using this
  · intro h x hx
    obtain ⟨j, hj, rfl⟩ := List.mem_iff_getElem.1 hx
    have := h j hj
    rw [fd, Int.toNat_natCast, List.getD_eq_getElem?_getD, List.getElem?_eq_getElem hj] at this
    simpa using this
theorem contains_any {aX : Option Addr} {xs : List Nat} {cap : Nat} (w : World) (hX : FRow w aX xs) (hl : xs.length ≤ 100000) :
    Calls Tryd.prog 44 #[.slice aX xs.length cap, .func (.func 34) #[] #[]] w fun e w' => e = .returned (.bool (anyNan xs)) ∧ w' = w := by
  go_enter Tryd.func44, Tryd.ntmps44
  go_wp2_with fail
  refine (index_any w hX hl).mono ?_
  rintro e w' ⟨i, rfl, rfl, hi⟩
  rw [← anyNan_iff] at hi
  have HI := Bx.mk hi
  clear hi
  by_cases hp : 0 ≤ i
  · go_wp2
    go_ret
    refine ⟨?_, rfl⟩
    have : anyNan xs = true := by
      cases h : anyNan xs
      · have := HI.out.2 h; omega
      · rfl
    rw [this]; rfl
  · have hd : decide (0 ≤ i) = false := decide_eq_false hp
    go_wp2
    go_ret
    refine ⟨?_, rfl⟩
    rw [HI.out.1 (by omega)]; rfl
/-- Sums from the first on; the mean. -/
def sumF (xs : List Nat) : Nat → Nat
  | 0 => fd xs 0
  | i + 1 => opF .add (sumF xs i) (fd xs (i + 1))
def meanF (xs : List Nat) : Nat := opF .quo (sumF xs (xs.length - 1)) (floatOfInt .f64 xs.length)
def hasMean (xs : List Nat) : Bool := decide (xs.length ≠ 0) && !anyNan xs
/-- What is told beside whether there is a mean. -/
structure MeanIs (xs : List Nat) (m : Nat) : Prop where
  yes : hasMean xs = true → fsame m (meanF xs) = true
  no : hasMean xs = false → m = 0
theorem sumF_lt {xs : List Nat} (h : FW xs) (i : Nat) : sumF xs i < 18446744073709551616 := by
  cases i with
  | zero => exact h 0
  | succ i => exact opF_lt _ _ _
set_option maxHeartbeats 1600000 in
theorem mean_any {aX : Option Addr} {xs : List Nat} {cap : Nat} (w : World) (hX : FRow w aX xs) (hw : FW xs) (hl : xs.length ≤ 100000) (hcap : xs.length ≤ cap) :
    Calls Tryd.prog 24 #[.slice aX xs.length cap] w fun e w' => ∃ m, e = .returned (.tuple #[.float .f64 m, .bool (hasMean xs)]) ∧ Below w.heap.size w w' ∧ m < 18446744073709551616 ∧ MeanIs xs m := by
  by_cases h0 : xs.length = 0
  · have F := Bx.mk (show hasMean xs = false from by unfold hasMean; rw [decide_eq_false (by omega)]; rfl)
    obtain ⟨n, hn⟩ : ∃ n, xs.length = n := ⟨_, rfl⟩
    rw [hn] at h0 ⊢
    subst h0
    clear hn hl hcap hX
    go_enter Tryd.func24, Tryd.ntmps24
    go_wp2
    go_ret2
    rw [F.out]
    exact ⟨0, rfl, Below.refl _ _, by omega, ⟨fun h => absurd h (by rw [F.out]; decide), fun _ => rfl⟩⟩
  · have hl1 : (1 : Int) ≤ xs.length := by omega
    have E : ((xs.length : Int) == 0) = false := beq_false_of_ne (by omega)
    cases hn : anyNan xs
    · have D2 := Bx.mk hn
      have F := Bx.mk (show hasMean xs = true from by unfold hasMean; rw [decide_eq_true h0, hn]; rfl)
      clear hn
      obtain ⟨b, o, rfl, _, hc⟩ := hX 0 (by omega) (by omega)
      rw [show (0 : Int).toNat = 0 from rfl, Nat.add_zero] at hc
      go_enter Tryd.func24, Tryd.ntmps24
      go_wp2_with (first | (go_at_call 44; refine (contains_any _ hX hl).mono ?_; rintro e w' ⟨rfl, rfl⟩; rw [D2.out]))
      all_goals
        have hX' := Bx.mk hX
        have hw' := Bx.mk hw
        clear hX hw hc
        go_loopg [4, 20] (xs.length + 1) (fun q z y wr => ∃ (i s : Nat), y = .int .i64 i ∧ z = .float .f64 s ∧ q = xs.length + 1 - i ∧ i ≤ xs.length - 1 ∧ Below w'.heap.size w' wr ∧ s < 18446744073709551616 ∧ Bx (fsame s (sumF xs i) = true))
        case atStart => exact ⟨0, _, rfl, rfl, by omega, by omega, Below.refl _ _, hw'.out 0, ⟨fsame_refl _⟩⟩
        case round =>
          obtain ⟨i, s, rfl, rfl, hq, hi, BW, hs, HS⟩ := hrel
          by_cases hin : i < xs.length - 1
          · first
              | (exfalso; omega)
              | (have hI : (i : Int) < ((xs.length - 1 : Nat) : Int) := by omega
                 have hcc : wr.cell? ⟨b, o + 1 + i, none⟩ = some (.float .f64 (fd xs (i + 1))) := by
                   obtain ⟨b2, o2, e2, _, c2⟩ := (hX'.out.keep BW) ((i : Int) + 1) (by omega) (by omega)
                   obtain ⟨rfl, rfl⟩ : b = b2 ∧ o = o2 := by simpa using e2
                   rw [show o + 1 + i = o + ((i : Int) + 1).toNat from by omega]
                   exact c2
                 have hxl := hw'.out (i + 1)
                 obtain ⟨x, hx⟩ : ∃ x, fd xs (i + 1) = x := ⟨_, rfl⟩
                 rw [hx] at hcc hxl
                 have NX := Bx.mk (show sumF xs (i + 1) = opF .add (sumF xs i) x from by rw [← hx]; rfl)
                 have HL := Bx.mk (sumF_lt hw'.out i)
                 have hol := opF_lt .add s x
                 clear hx
                 rcases run_op .add (.inl rfl) s x with H | ⟨EN, H⟩
                 · have HO := Bx.mk (show fsame (opF .add s x) (sumF xs (i + 1)) = true from by rw [NX.out, opF_left hs HL.out HS.out]; exact fsame_refl _)
                   generalize opF .add s x = s2 at H hol HO
                   go_wp2
                   go_roundg (xs.length + 1 - (i + 1))
                   case rel => exact ⟨i + 1, s2, rfl, rfl, by omega, by omega, BW, hol, HO⟩
                   case measure => omega
                 · have HO := Bx.mk (show fsame (nanAt s x wr) (sumF xs (i + 1)) = true from by rw [NX.out, ← opF_left hs HL.out HS.out, EN]; exact fsame_nan (nanAt_nan _ _ _).1 nan_c)
                   have hol2 := (nanAt_nan s x wr).2
                   have H1 := H wr
                   clear H EN hol
                   generalize nanAt s x wr = s2 at H1 hol2 HO
                   go_wp2
                   go_roundg (xs.length + 1 - (i + 1))
                   case rel => exact ⟨i + 1, s2, rfl, rfl, by omega, by omega, Below.drew BW, hol2, HO⟩
                   case measure => omega)
          · have hI : ¬ (i : Int) < ((xs.length - 1 : Nat) : Int) := by omega
            obtain rfl : i = xs.length - 1 := by omega
            have HM := Bx.mk (show meanF xs = opF .quo (sumF xs (xs.length - 1)) (floatOfInt .f64 xs.length) from rfl)
            have HL := Bx.mk (sumF_lt hw'.out (xs.length - 1))
            have hol := opF_lt .quo s (floatOfInt .f64 xs.length)
            rcases run_op .quo (.inr (.inr (.inr rfl))) s (floatOfInt .f64 xs.length) with H | ⟨EN, H⟩
            · have HO := Bx.mk (show fsame (opF .quo s (floatOfInt .f64 xs.length)) (meanF xs) = true from by rw [HM.out, opF_left hs HL.out HS.out]; exact fsame_refl _)
              generalize opF .quo s (floatOfInt .f64 xs.length) = s2 at H hol HO
              go_wp2
              go_ret2
              rw [F.out]
              exact ⟨_, rfl, BW, hol, ⟨fun _ => HO.out, fun h => absurd h (by rw [F.out]; decide)⟩⟩
            · have HO := Bx.mk (show fsame (nanAt s (floatOfInt .f64 xs.length) wr) (meanF xs) = true from by rw [HM.out, ← opF_left hs HL.out HS.out, EN]; exact fsame_nan (nanAt_nan _ _ _).1 nan_c)
              have hol2 := (nanAt_nan s (floatOfInt .f64 xs.length) wr).2
              have H1 := H wr
              clear H EN hol
              generalize nanAt s (floatOfInt .f64 xs.length) wr = s2 at H1 hol2 HO
              go_wp2
              go_ret2
              rw [F.out]
              exact ⟨_, rfl, Below.drew BW, hol2, ⟨fun _ => HO.out, fun h => absurd h (by rw [F.out]; decide)⟩⟩
    · have D2 := Bx.mk hn
      have F := Bx.mk (show hasMean xs = false from by unfold hasMean; rw [hn, Bool.not_true, Bool.and_false])
      clear hn
      go_enter Tryd.func24, Tryd.ntmps24
      go_wp2_with (first | (go_at_call 44; refine (contains_any _ hX hl).mono ?_; rintro e w' ⟨rfl, rfl⟩; rw [D2.out]))
      all_goals
        go_ret2
        rw [F.out]
        exact ⟨0, rfl, Below.refl _ _, by omega, ⟨fun h => absurd h (by rw [F.out]; decide), fun _ => rfl⟩⟩
set_option maxHeartbeats 1600000 in
/-- The document's own mean. -/
theorem rmean_any {aX : Option Addr} {xs : List Nat} {cap : Nat} (w : World) (hX : FRow w aX xs) (hw : FW xs) (hl : xs.length ≤ 100000) :
    Calls Tryd.prog 25 #[.slice aX xs.length cap] w fun e w' => ∃ m, e = .returned (.tuple #[.float .f64 m, .bool (hasMean xs)]) ∧ Below w.heap.size w w' ∧ m < 18446744073709551616 ∧ MeanIs xs m := by
  have HW := Bx.mk hw
  clear hw
  go_enter Tryd.func25, Tryd.ntmps25
  go_wp2
  go_loopg [4, 5] (xs.length + 1) (fun q z y wr => ∃ (i s : Nat), y = .int .i64 i ∧ z = .float .f64 s ∧ q = xs.length + 1 - i ∧ i ≤ xs.length ∧ Below w.heap.size w wr ∧ s < 18446744073709551616 ∧ Bx (∀ j : Nat, j < i → nanb (fd xs j) = false) ∧ Bx (0 < i → fsame s (sumF xs (i - 1)) = true))
  case atStart => exact ⟨0, 0, rfl, rfl, by omega, by omega, Below.refl _ _, by omega, ⟨fun j h => by omega⟩, ⟨fun h => by omega⟩⟩
  case round =>
    obtain ⟨i, s, rfl, rfl, hq, hi, BW, hs, NE, HS⟩ := hrel
    by_cases hin : i < xs.length
    · have hI : (i : Int) < xs.length := by omega
      obtain ⟨b, o, rfl, _, hc⟩ := (hX.keep BW) i (by omega) hI
      rw [Int.toNat_natCast] at hc
      have hxl := HW.out i
      obtain ⟨x, hx⟩ : ∃ x, fd xs i = x := ⟨_, rfl⟩
      rw [hx] at hc hxl
      have HX := Bx.mk hx
      clear hx
      have EX : (FloatKind.f64.format.order x x != some .eq) = nanb x := by rw [wne_eq, feq_self, Bool.not_not]
      cases e : nanb x
      · rw [e] at EX
        have EN := Bx.mk e
        clear e
        by_cases h0 : i = 0
        · have g0 : ((i : Int) == 0) = true := by rw [h0]; rfl
          have HO := Bx.mk (show fsame x (sumF xs i) = true from by rw [h0] at HX; rw [h0, show sumF xs 0 = fd xs 0 from rfl]; have := HX.out; simp at this; rw [this]; exact fsame_refl _)
          have H0 := Bx.mk h0
          clear HS h0
          go_upto_region 5 with fail
          go_quiet (fail)
          go_wp2
          go_roundg (xs.length + 1 - (i + 1))
          case rel => exact ⟨i + 1, x, rfl, rfl, by omega, by omega, below_drewN BW _, hxl, ⟨fun j h => by
            by_cases hj : j = i
            · rw [hj, HX.out]; exact EN.out
            · exact NE.out j (by omega)⟩, ⟨fun _ => HO.out⟩⟩
          case measure => omega
        · have g0 : ((i : Int) == 0) = false := beq_false_of_ne (by omega)
          have hs' := HS.out (by omega)
          have NX := Bx.mk (show sumF xs i = opF .add (sumF xs (i - 1)) x from by
            obtain ⟨k, rfl⟩ : ∃ k, i = k + 1 := ⟨i - 1, by omega⟩
            rw [← HX.out]; rfl)
          have HL := Bx.mk (sumF_lt HW.out (i - 1))
          have hol := opF_lt .add s x
          have NE2 := Bx.mk (show ∀ j : Nat, j < i + 1 → nanb (fd xs j) = false from fun j h => by
            by_cases hj : j = i
            · rw [hj, HX.out]; exact EN.out
            · exact NE.out j (by omega))
          have HS2 := Bx.mk hs'
          clear hs' HS
          rcases run_op .add (.inl rfl) s x with H | ⟨EN2, H⟩
          · have HO := Bx.mk (show fsame (opF .add s x) (sumF xs i) = true from by rw [NX.out, opF_left hs HL.out HS2.out]; exact fsame_refl _)
            generalize opF .add s x = s2 at H hol HO
            go_upto_region 5 with fail
            go_quiet (fail)
            go_wp2
            go_roundg (xs.length + 1 - (i + 1))
            case rel => exact ⟨i + 1, s2, rfl, rfl, by omega, by omega, below_drewN BW _, hol, NE2, ⟨fun _ => HO.out⟩⟩
            case measure => omega
          · have HO := Bx.mk (show ∀ w, fsame (nanAt s x w) (sumF xs i) = true from fun w => by rw [NX.out, ← opF_left hs HL.out HS2.out, EN2]; exact fsame_nan (nanAt_nan _ _ _).1 nan_c)
            have hol2 := Bx.mk (fun w => (nanAt_nan s x w).2)
            clear EN2 hol
            generalize nanAt s x = f2 at H hol2 HO
            go_upto_region 5 with fail
            go_quiet (fail)
            go_wp2
            go_roundg (xs.length + 1 - (i + 1))
            case rel => exact ⟨i + 1, _, rfl, rfl, by omega, by omega, Below.drew (below_drewN BW _), hol2.out _, NE2, ⟨fun _ => HO.out _⟩⟩
            case measure => omega
      · rw [e] at EX
        have EN := Bx.mk e
        clear e
        have F := Bx.mk (show (hasMean xs) = false from by
          unfold hasMean
          cases h : anyNan xs
          · have := (anyNan_iff xs).1 h i hin
            rw [HX.out, EN.out] at this
            cases this
          · rw [Bool.not_true, Bool.and_false])
        go_upto_region 5 with fail
        go_quiet (fail)
        go_wp2
        go_ret2
        rw [F.out]
        exact ⟨0, rfl, below_drewN BW _, by omega, ⟨fun h => absurd h (by rw [F.out]; decide), fun _ => rfl⟩⟩
    · have hI : ¬ (i : Int) < xs.length := by omega
      obtain rfl : i = xs.length := by omega
      by_cases h0 : xs.length = 0
      · have F := Bx.mk (show (hasMean xs) = false from by unfold hasMean; rw [decide_eq_false (by omega)]; rfl)
        have E : ((xs.length : Int) == 0) = true := beq_iff_eq.2 (by omega)
        clear h0 hq hin HS NE
        go_wp2
        go_ret2
        rw [F.out]
        exact ⟨0, rfl, BW, by omega, ⟨fun h => absurd h (by rw [F.out]; decide), fun _ => rfl⟩⟩
      · have F := Bx.mk (show (hasMean xs) = true from by unfold hasMean; rw [decide_eq_true (by omega), (anyNan_iff xs).2 NE.out]; rfl)
        have E : ((xs.length : Int) == 0) = false := beq_false_of_ne (by omega)
        have HM := Bx.mk (show meanF xs = opF .quo (sumF xs (xs.length - 1)) (floatOfInt .f64 xs.length) from rfl)
        have HL := Bx.mk (sumF_lt HW.out (xs.length - 1))
        have HS2 := Bx.mk (HS.out (by omega))
        have hol := opF_lt .quo s (floatOfInt .f64 xs.length)
        clear HS NE hq hin
        rcases run_op .quo (.inr (.inr (.inr rfl))) s (floatOfInt .f64 xs.length) with H | ⟨EN, H⟩
        · have HO := Bx.mk (show fsame (opF .quo s (floatOfInt .f64 xs.length)) (meanF xs) = true from by rw [HM.out, opF_left hs HL.out HS2.out]; exact fsame_refl _)
          generalize opF .quo s (floatOfInt .f64 xs.length) = s2 at H hol HO
          go_wp2
          go_ret2
          rw [F.out]
          exact ⟨_, rfl, BW, hol, ⟨fun _ => HO.out, fun h => absurd h (by rw [F.out]; decide)⟩⟩
        · have HO := Bx.mk (show fsame (nanAt s (floatOfInt .f64 xs.length) wr) (meanF xs) = true from by rw [HM.out, ← opF_left hs HL.out HS2.out, EN]; exact fsame_nan (nanAt_nan _ _ _).1 nan_c)
          have hol2 := (nanAt_nan s (floatOfInt .f64 xs.length) wr).2
          have H1 := H wr
          clear H EN hol
          generalize nanAt s (floatOfInt .f64 xs.length) wr = s2 at H1 hol2 HO
          go_wp2
          go_ret2
          rw [F.out]
          exact ⟨_, rfl, Below.drew BW, hol2, ⟨fun _ => HO.out, fun h => absurd h (by rw [F.out]; decide)⟩⟩
end Go.Proofs.YtpggfgkajkgcoaaDoor
