/- What all laws of trees begin with: a grown net in memory; tests that say yes. -/
import Derived.Test.YtjeddcijefnbfaaTq
import Derived.Test.YtjeddcijefnbfaaKn
set_option linter.unusedVariables false
set_option linter.unusedSimpArgs false
namespace Go.Proofs.Ytjeddcijefnbfaa
open Go.RowKit

theorem plane_net (a : Option Addr) (cap : Nat) (zs : List Int) (w : World) (hz : RowOf w a zs) :
    Calls Try.prog 13 #[.slice a zs.length cap] w fun r w' => ∃ (m : Nat) (aT aX aC : Option Addr) (cT cX cC : Nat), (planeOf zs).N = m ∧ r = .returned (.agg #[.int .i64 m, .slice aT (planeOf zs).T.length cT, .slice aX (planeOf zs).X.length cX, .slice aC (planeOf zs).C.length cC]) ∧ RowOf w' aT (planeOf zs).T ∧ RowOf w' aX (planeOf zs).X ∧ RowOf w' aC (planeOf zs).C ∧ Below w.heap.size w w' := by
  refine (plane_any a cap zs w hz).mono ?_
  rintro r w' ⟨vT, vX, vC, rfl, oT, oX, oC, hB⟩
  obtain ⟨aT, cT, rfl, rT⟩ := oT.row
  obtain ⟨aX, cX, rfl, rX⟩ := oX.row
  obtain ⟨aC, cC, rfl, rC⟩ := oC.row
  have hn := (plane_facts zs).1.n1
  have e : (planeOf zs).N = ((planeOf zs).N.toNat : Int) := by omega
  exact ⟨(planeOf zs).N.toNat, aT, aX, aC, cT, cX, cC, e, by rw [← e], rT, rX, rC, hB⟩
/-- A grown net, as the laws use it. -/
structure Grown (P : PNet) (m : Nat) : Prop where
  hN : P.N = m
  F : Fine P
  l48 : P.T.length ≤ 48
  m25 : m ≤ 25
  m0 : 0 < m
  C : Conn P.T m
  he : (P.T.length : Int) % 2 = 0
  ht : ∀ d : Int, 0 ≤ d → d < P.T.length → 0 ≤ rd P.T d ∧ rd P.T d < m
theorem grown_plane {zs : List Int} {m : Nat} (h : (planeOf zs).N = m) : Grown (planeOf zs) m := by
  obtain ⟨a, b, c, d⟩ := plane_facts zs
  have := a.n1
  rw [h] at c d
  exact ⟨h, a, b, by omega, by omega, d, a.ev, by have := a.tr; rwa [h] at this⟩
section
variable {aT aX aC aU : Option Addr} {cT cX cC cU : Nat} {T X C up : List Int} {m : Nat} {r : Int} {w : World}
theorem right_yes (hT : RowOf w aT T) (hU : RowOf w aU up) (he : (T.length : Int) % 2 = 0) (hl : T.length ≤ 240) (hm0 : 0 < m) (hm : m ≤ 60) (hul : up.length ≤ 1000)
    (ht : ∀ d : Int, 0 ≤ d → d < T.length → 0 ≤ rd T d ∧ rd T d < m) (hy : IsTree T up m r) :
    Calls Try.prog 18 #[.agg #[.int .i64 m, .slice aT T.length cT, .slice aX X.length cX, .slice aC C.length cC], .slice aU up.length cU, .int .i64 r] w fun e w' => e = .returned (.bool true) ∧ Below w.heap.size w w' := by
  refine (right_any hT hU he hl hm0 hm hul ht).mono ?_
  rintro e w' ⟨b, rfl, hb, hB⟩
  exact ⟨by rw [hb.2 hy], hB⟩
/-- The net's struct in memory, kept by whatever writes nothing old. -/
theorem net_held {w : World} {b : Nat} {x0 x1 x2 x3 : Value} (h : BoxN w b #[x0, x1, x2, x3] 25) : Bx (∀ W, Below w.heap.size w W → Below w.heap.size w W ∧ W.cell? ⟨b, 0, none⟩ = some x0 ∧ W.cell? ⟨b, 1, none⟩ = some x1 ∧ W.cell? ⟨b, 2, none⟩ = some x2 ∧ W.cell? ⟨b, 3, none⟩ = some x3) :=
  ⟨fun W k => ⟨k, (h.keep k).cell 0, (h.keep k).cell 1, (h.keep k).cell 2, (h.keep k).cell 3⟩⟩
end
end Go.Proofs.Ytjeddcijefnbfaa
