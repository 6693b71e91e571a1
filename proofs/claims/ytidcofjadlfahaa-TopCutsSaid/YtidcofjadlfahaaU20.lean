/- The walk of Turn. -/
import Derived.Test.YtidcofjadlfahaaU19
import Derived.Test.YtidcofjadlfahaaSl
import Derived.Deep.RegionHeldLaw
set_option linter.unusedVariables false
set_option linter.unusedSimpArgs false
namespace Go.Proofs.Ytidcofjadlfahaa
open Go.RowKit

theorem clonea_any {w : World} {b o n c : Nat} {xs : List Int} (R : RowAt w b o n xs) (hp : 0 < n) (hl : n ≤ 900) :
    Calls Try.prog 40 #[.slice (some ⟨b, o, none⟩) n c] w fun e w' => ∃ g cp, e = .returned (.slice (some ⟨g, 0, none⟩) n cp) ∧ OwnN w' w.heap.size g cp n xs ∧ Below w.heap.size w w' := by
  have hr := R.row.keep (below_alloc (Below.refl _ _) (.cells #[] 3))
  have k0 := below_alloc (Below.refl w.heap.size w) (.cells #[] 3)
  have o0 := (own_lit w w.heap.size [] (Nat.le_refl _) (by simp)).own
  have hE := fun (w : World) => Lib.run_eql_slice_nil (P := Try.prog) w 22 3 (some ⟨b, o, none⟩) n c 0 0 Try.underlying22
  have HL := Bx.mk R.len
  clear R
  go_enter Try.func40, Try.ntmps40
  go_wp2_with (at_builtin; refine app_any rfl (.tmp 5) (.tmp 6) rfl w.heap.size _ [] xs rfl o0 (some ⟨b, o, none⟩) c n HL.out rfl hr hp (by simp; omega) (by simp) n (by simp) ?_; intro g1 p1 w1 q1 gr1 _; have b1 := below_app k0 o0 (Nat.le_refl _) gr1; have q2 := Bx.mk q1; clear q1 gr1 o0 hr)
  go_ret
  exact ⟨g1, p1, rfl, by have := q2.out; simpa using this, b1⟩
theorem zero_cells {W : World} {z : Nat} {t : TypeId} (h : BoxN W z #[.int .i64 0, .slice none 0 0, .slice none 0 0, .slice none 0 0] t) : W.cell? ⟨z, 0, none⟩ = some (.int .i64 0) ∧ W.cell? ⟨z, 1, none⟩ = some (.slice none 0 0) ∧ W.cell? ⟨z, 2, none⟩ = some (.slice none 0 0) ∧ W.cell? ⟨z, 3, none⟩ = some (.slice none 0 0) ∧ W.frozen? ⟨z, 0, none⟩ = false ∧ W.frozen? ⟨z, 1, none⟩ = false ∧ W.frozen? ⟨z, 2, none⟩ = false ∧ W.frozen? ⟨z, 3, none⟩ = false :=
  ⟨h.cell 0, h.cell 1, h.cell 2, h.cell 3, h.fz 0, h.fz 1, h.fz 2, h.fz 3⟩
def TurnPost (m n : Nat) (T X C : List Int) (w : World) (e : Ending) (w' : World) : Prop :=
  ∃ (gT gX gC cT cX cC : Nat) (Y : List Int), e = .returned (.agg #[.int .i64 m, .slice (some ⟨gT, 0, none⟩) n cT, .slice (some ⟨gX, 0, none⟩) n cX, .slice (some ⟨gC, 0, none⟩) n cC]) ∧ Y.length = n ∧ (∀ d : Int, 0 ≤ d → d < n → rd Y (rd X d) = d) ∧ Rows3 w' n gT 0 gX 0 gC 0 T Y C ∧ Below w.heap.size w w'
/-- The three rows and the box of a fresh net. -/
structure TS (wa W : World) (z n m g5 p5 g6 p6 g7 p7 : Nat) (T Y C : List Int) (ty : TypeId) : Prop where
  b : Below wa.heap.size wa W
  box : BoxN W z #[.int .i64 m, .slice (some ⟨g5, 0, none⟩) n p5, .slice (some ⟨g6, 0, none⟩) n p6, .slice (some ⟨g7, 0, none⟩) n p7] ty
  zl : wa.heap.size ≤ z
  o5 : OwnN W wa.heap.size g5 p5 n T
  o6 : OwnN W wa.heap.size g6 p6 n Y
  o7 : OwnN W wa.heap.size g7 p7 n C
  e5 : z ≠ g5
  e6 : z ≠ g6
  e7 : z ≠ g7
  e56 : g6 ≠ g5
  e67 : g6 ≠ g7
theorem TS.set {wa W : World} {z n m g5 p5 g6 p6 g7 p7 : Nat} {T Y C : List Int} {ty : TypeId} (S : TS wa W z n m g5 p5 g6 p6 g7 p7 T Y C ty) (d x : Int) : TS wa (W.setCell ⟨g6, d.toNat, none⟩ (.int .i64 x)) z n m g5 p5 g6 p6 g7 p7 T (st Y d x) C ty :=
  ⟨below_set S.b S.o6.rng.1 _, S.box.far (fun e => S.e6 e.symm) _, S.zl, S.o5.far S.e56 _, S.o6.set d x, S.o7.far S.e67 _, S.e5, S.e6, S.e7, S.e56, S.e67⟩
theorem ts_new {wa W5 W6 W7 : World} {n m g5 p5 g6 p6 g7 p7 B : Nat} {T Y C : List Int} {ty : TypeId} (hB : wa.heap.size ≤ B) (o5 : OwnN W5 B g5 p5 n T) (o6 : OwnN W6 W5.heap.size g6 p6 n Y) (o7 : OwnN W7 W6.heap.size g7 p7 n C)
    (B6 : Below W5.heap.size W5 W6) (B7 : Below W6.heap.size W6 W7) (BW : Below wa.heap.size wa W7) (b5 : wa.heap.size ≤ W5.heap.size) : TS wa (W7.alloc (.cells #[.int .i64 m, .slice (some ⟨g5, 0, none⟩) n p5, .slice (some ⟨g6, 0, none⟩) n p6, .slice (some ⟨g7, 0, none⟩) n p7] ty)) W7.heap.size n m g5 p5 g6 p6 g7 p7 T Y C ty := by
  have s1 := B6.size
  have s2 := B7.size
  have a1 := o5.rng
  have a2 := o6.rng
  have a3 := o7.rng
  have k := below_alloc (Below.refl W7.heap.size W7) (.cells #[.int .i64 m, .slice (some ⟨g5, 0, none⟩) n p5, .slice (some ⟨g6, 0, none⟩) n p6, .slice (some ⟨g7, 0, none⟩) n p7] ty)
  exact ⟨below_alloc BW _, box_new W7 _ ty, by omega, (((o5.keep B6).keep B7).keep k).low hB, ((o6.keep B7).keep k).low b5, (o7.keep k).low (by omega), by omega, by omega, by omega, by omega, by omega⟩
theorem ts_set {wa W : World} {z n m g5 p5 g6 p6 g7 p7 : Nat} {T Y C : List Int} {ty : TypeId} (o5 : OwnN W wa.heap.size g5 p5 n T) (o6 : OwnN W wa.heap.size g6 p6 n Y) (o7 : OwnN W wa.heap.size g7 p7 n C)
    (hz : BoxN W z #[.int .i64 0, .slice none 0 0, .slice none 0 0, .slice none 0 0] ty) (BW : Below wa.heap.size wa W) (zl : wa.heap.size ≤ z) (e5 : z ≠ g5) (e6 : z ≠ g6) (e7 : z ≠ g7) (e56 : g6 ≠ g5) (e67 : g6 ≠ g7) :
    TS wa ((((W.setCell ⟨z, 0, none⟩ (.int .i64 m)).setCell ⟨z, 1, none⟩ (.slice (some ⟨g5, 0, none⟩) n p5)).setCell ⟨z, 2, none⟩ (.slice (some ⟨g6, 0, none⟩) n p6)).setCell ⟨z, 3, none⟩ (.slice (some ⟨g7, 0, none⟩) n p7)) z n m g5 p5 g6 p6 g7 p7 T Y C ty :=
  ⟨below_set (below_set (below_set (below_set BW zl _) zl _) zl _) zl _, (((hz.set0 _).set1 _).set2 _).set3 _, zl, (((o5.far e5 _).far e5 _).far e5 _).far e5 _, (((o6.far e6 _).far e6 _).far e6 _).far e6 _, (((o7.far e7 _).far e7 _).far e7 _).far e7 _, e5, e6, e7, e56, e67⟩
section
variable {m n bT oT bX oX bC oC kT kX kC : Nat} {T X C : List Int} {w : World}
set_option maxHeartbeats 6400000 in
set_option maxRecDepth 100000 in
theorem turn_any (G : Good m n T X C) (R : Rows3 w n bT oT bX oX bC oC T X C) :
    Calls Try.prog 18 #[(.agg #[.int .i64 m, .slice (some ⟨bT, oT, none⟩) n kT, .slice (some ⟨bX, oX, none⟩) n kX, .slice (some ⟨bC, oC, none⟩) n kC])] w (TurnPost m n T X C w) := by
  have GG := Bx.mk G
  have RR := Bx.mk R
  have n2 := G.n2
  have n240 := G.n240
  clear G R
  have hB := below_alloc (below_alloc (Below.refl w.heap.size w) (.cells #[.int .i64 m, .slice (some ⟨bT, oT, none⟩) n kT, .slice (some ⟨bX, oX, none⟩) n kX, .slice (some ⟨bC, oC, none⟩) n kC] 25)) (.cells #[.int .i64 0, .slice none 0 0, .slice none 0 0, .slice none 0 0] 25)
  have hbox := (box_new w #[.int .i64 m, .slice (some ⟨bT, oT, none⟩) n kT, .slice (some ⟨bX, oX, none⟩) n kX, .slice (some ⟨bC, oC, none⟩) n kC] 25).keep (below_alloc (Below.refl _ _) (.cells #[.int .i64 0, .slice none 0 0, .slice none 0 0, .slice none 0 0] 25))
  have hres := box_new (w.alloc (.cells #[.int .i64 m, .slice (some ⟨bT, oT, none⟩) n kT, .slice (some ⟨bX, oX, none⟩) n kX, .slice (some ⟨bC, oC, none⟩) n kC] 25)) #[.int .i64 0, .slice none 0 0, .slice none 0 0, .slice none 0 0] 25
  rw [World.size_alloc] at hres
  have hws : w.heap.size < w.heap.size + 1 := Nat.lt_succ_self _
  go_enter Try.func18, Try.ntmps18
  go_upto_region 1 with fail
  generalize (w.alloc _).alloc _ = wa at hB hbox hres ⊢
  generalize w.heap.size + 1 = b2 at hres hws ⊢
  generalize hb0 : w.heap.size = b at hbox hws ⊢
  have HK := Bx.mk (fun W (h : Below wa.heap.size wa W) => (⟨(hbox.keep h).cell 0, (hbox.keep h).cell 1, (hbox.keep h).cell 2, (hbox.keep h).cell 3⟩ : W.cell? ⟨b, 0, none⟩ = some (.int .i64 m) ∧ W.cell? ⟨b, 1, none⟩ = some (.slice (some ⟨bT, oT, none⟩) n kT) ∧ W.cell? ⟨b, 2, none⟩ = some (.slice (some ⟨bX, oX, none⟩) n kX) ∧ W.cell? ⟨b, 3, none⟩ = some (.slice (some ⟨bC, oC, none⟩) n kC)))
  have HBW := Bx.mk (fun W (h : Below wa.heap.size wa W) => below_below hB h)
  have HRS := Bx.mk (fun W (h : Below wa.heap.size wa W) => hres.keep h)
  have hb2 := hres.lt
  have hbl := hbox.lt
  clear hbox hres
  have C1 := fun W (h : Below wa.heap.size wa W) => clonea_any (c := kT) (RR.out.keep (HBW.out W h)).T (by omega) (by omega)
  have C2 := fun W (h : Below wa.heap.size wa W) => clonea_any (c := kX) (RR.out.keep (HBW.out W h)).X (by omega) (by omega)
  have C3 := fun W (h : Below wa.heap.size wa W) => clonea_any (c := kC) (RR.out.keep (HBW.out W h)).C (by omega) (by omega)
  have HKW := Bx.mk (fun W (h : Below wa.heap.size wa W) => (⟨h, HK.out W h⟩ : Below wa.heap.size wa W ∧ W.cell? ⟨b, 0, none⟩ = some (.int .i64 m) ∧ W.cell? ⟨b, 1, none⟩ = some (.slice (some ⟨bT, oT, none⟩) n kT) ∧ W.cell? ⟨b, 2, none⟩ = some (.slice (some ⟨bX, oX, none⟩) n kX) ∧ W.cell? ⟨b, 3, none⟩ = some (.slice (some ⟨bC, oC, none⟩) n kC)))
  have CA1 := fun (W0 : World) (z : Nat) (h : Below wa.heap.size wa (W0.alloc (.cells #[.int .i64 0, .slice none 0 0, .slice none 0 0, .slice none 0 0] 25))) (hz : z = W0.heap.size) => (C1 (W0.alloc (.cells #[.int .i64 0, .slice none 0 0, .slice none 0 0, .slice none 0 0] 25)) h).mono (fun (e : Ending) w' ⟨g, c, he, o, B⟩ => (⟨g, c, he, o, B, by rw [hz]; exact (box_new W0 #[.int .i64 0, .slice none 0 0, .slice none 0 0, .slice none 0 0] 25).keep B⟩ : ∃ g c, e = Ending.returned (.slice (some ⟨g, 0, none⟩) n c) ∧ OwnN w' (W0.alloc (.cells #[.int .i64 0, .slice none 0 0, .slice none 0 0, .slice none 0 0] 25)).heap.size g c n T ∧ Below (W0.alloc (.cells #[.int .i64 0, .slice none 0 0, .slice none 0 0, .slice none 0 0] 25)).heap.size (W0.alloc (.cells #[.int .i64 0, .slice none 0 0, .slice none 0 0, .slice none 0 0] 25)) w' ∧ BoxN w' z #[.int .i64 0, .slice none 0 0, .slice none 0 0, .slice none 0 0] 25))
  have CB1 := fun (W : World) (z : Nat) (h : Below wa.heap.size wa W) (hz : BoxN W z #[.int .i64 0, .slice none 0 0, .slice none 0 0, .slice none 0 0] 25) => (C1 W h).mono (fun (e : Ending) w' ⟨g, c, he, o, B⟩ => (⟨g, c, he, o, B, hz.keep B⟩ : ∃ g c, e = Ending.returned (.slice (some ⟨g, 0, none⟩) n c) ∧ OwnN w' W.heap.size g c n T ∧ Below W.heap.size W w' ∧ BoxN w' z #[.int .i64 0, .slice none 0 0, .slice none 0 0, .slice none 0 0] 25))
  have CA2 := fun (W0 : World) (z : Nat) (h : Below wa.heap.size wa (W0.alloc (.cells #[.int .i64 0, .slice none 0 0, .slice none 0 0, .slice none 0 0] 25))) (hz : z = W0.heap.size) => (C2 (W0.alloc (.cells #[.int .i64 0, .slice none 0 0, .slice none 0 0, .slice none 0 0] 25)) h).mono (fun (e : Ending) w' ⟨g, c, he, o, B⟩ => (⟨g, c, he, o, B, by rw [hz]; exact (box_new W0 #[.int .i64 0, .slice none 0 0, .slice none 0 0, .slice none 0 0] 25).keep B⟩ : ∃ g c, e = Ending.returned (.slice (some ⟨g, 0, none⟩) n c) ∧ OwnN w' (W0.alloc (.cells #[.int .i64 0, .slice none 0 0, .slice none 0 0, .slice none 0 0] 25)).heap.size g c n X ∧ Below (W0.alloc (.cells #[.int .i64 0, .slice none 0 0, .slice none 0 0, .slice none 0 0] 25)).heap.size (W0.alloc (.cells #[.int .i64 0, .slice none 0 0, .slice none 0 0, .slice none 0 0] 25)) w' ∧ BoxN w' z #[.int .i64 0, .slice none 0 0, .slice none 0 0, .slice none 0 0] 25))
  have CB2 := fun (W : World) (z : Nat) (h : Below wa.heap.size wa W) (hz : BoxN W z #[.int .i64 0, .slice none 0 0, .slice none 0 0, .slice none 0 0] 25) => (C2 W h).mono (fun (e : Ending) w' ⟨g, c, he, o, B⟩ => (⟨g, c, he, o, B, hz.keep B⟩ : ∃ g c, e = Ending.returned (.slice (some ⟨g, 0, none⟩) n c) ∧ OwnN w' W.heap.size g c n X ∧ Below W.heap.size W w' ∧ BoxN w' z #[.int .i64 0, .slice none 0 0, .slice none 0 0, .slice none 0 0] 25))
  have CA3 := fun (W0 : World) (z : Nat) (h : Below wa.heap.size wa (W0.alloc (.cells #[.int .i64 0, .slice none 0 0, .slice none 0 0, .slice none 0 0] 25))) (hz : z = W0.heap.size) => (C3 (W0.alloc (.cells #[.int .i64 0, .slice none 0 0, .slice none 0 0, .slice none 0 0] 25)) h).mono (fun (e : Ending) w' ⟨g, c, he, o, B⟩ => (⟨g, c, he, o, B, by rw [hz]; exact (box_new W0 #[.int .i64 0, .slice none 0 0, .slice none 0 0, .slice none 0 0] 25).keep B⟩ : ∃ g c, e = Ending.returned (.slice (some ⟨g, 0, none⟩) n c) ∧ OwnN w' (W0.alloc (.cells #[.int .i64 0, .slice none 0 0, .slice none 0 0, .slice none 0 0] 25)).heap.size g c n C ∧ Below (W0.alloc (.cells #[.int .i64 0, .slice none 0 0, .slice none 0 0, .slice none 0 0] 25)).heap.size (W0.alloc (.cells #[.int .i64 0, .slice none 0 0, .slice none 0 0, .slice none 0 0] 25)) w' ∧ BoxN w' z #[.int .i64 0, .slice none 0 0, .slice none 0 0, .slice none 0 0] 25))
  have CB3 := fun (W : World) (z : Nat) (h : Below wa.heap.size wa W) (hz : BoxN W z #[.int .i64 0, .slice none 0 0, .slice none 0 0, .slice none 0 0] 25) => (C3 W h).mono (fun (e : Ending) w' ⟨g, c, he, o, B⟩ => (⟨g, c, he, o, B, hz.keep B⟩ : ∃ g c, e = Ending.returned (.slice (some ⟨g, 0, none⟩) n c) ∧ OwnN w' W.heap.size g c n C ∧ Below W.heap.size W w' ∧ BoxN w' z #[.int .i64 0, .slice none 0 0, .slice none 0 0, .slice none 0 0] 25))
  have hzw : BoxN (wa.alloc (.cells #[.int .i64 0, .slice none 0 0, .slice none 0 0, .slice none 0 0] 25)).drew wa.heap.size #[.int .i64 0, .slice none 0 0, .slice none 0 0, .slice none 0 0] 25 := (box_new wa #[.int .i64 0, .slice none 0 0, .slice none 0 0, .slice none 0 0] 25).keep (Below.drew (Below.refl _ _))
  go_region_held_law (fun W => Below wa.heap.size wa W ∧ W.cell? ⟨b, 0, none⟩ = some (.int .i64 m) ∧ W.cell? ⟨b, 1, none⟩ = some (.slice (some ⟨bT, oT, none⟩) n kT) ∧ W.cell? ⟨b, 2, none⟩ = some (.slice (some ⟨bX, oX, none⟩) n kX) ∧ W.cell? ⟨b, 3, none⟩ = some (.slice (some ⟨bC, oC, none⟩) n kC))
    (first | assumption | exact HKW.out _ (Below.drew (Below.refl _ _)) | exact HKW.out _ B5 | exact HKW.out _ B6 | exact HKW.out _ B7 | exact HKW.out _ (below_alloc B7 _) | exact HKW.out _ (below_set (below_set (below_set (below_set B7 hz1 _) hz1 _) hz1 _) hz1 _) | exact HKW.out _ (below_alloc (And.left ‹_ ∧ _›) _))
    (first
      | (go_at_call 40; (with_reducible refine (CB1 _ wa.heap.size (And.left ‹_ ∧ _›) hzw).mono ?_); rintro e W5 ⟨g5, p5, rfl, o5, B5', hz⟩; obtain ⟨d0, d1, d2, d3, f0, f1, f2, f3⟩ := zero_cells hz; have hz1 := Nat.le_refl wa.heap.size; have B5 := below_below (And.left ‹_ ∧ _›) B5')
      | (go_at_call 40; (with_reducible refine (CB1 _ _ (And.left ‹_ ∧ _›) hz).mono ?_); clear hz d0 d1 d2 d3 f0 f1 f2 f3; rintro e W5 ⟨g5, p5, rfl, o5, B5', hz⟩; obtain ⟨d0, d1, d2, d3, f0, f1, f2, f3⟩ := zero_cells hz; have B5 := below_below (And.left ‹_ ∧ _›) B5')
      | (go_at_call 40; (with_reducible refine (C1 _ (And.left ‹_ ∧ _›)).mono ?_); rintro e W5 ⟨g5, p5, rfl, o5, B5'⟩; have B5 := below_below (And.left ‹_ ∧ _›) B5')
      | (go_at_call 40; (with_reducible refine (CA2 _ _ (And.left ‹_ ∧ _›) rfl).mono ?_); rintro e W6 ⟨g6, p6, rfl, o6, B6', hz⟩; (try simp only [World.size_drew] at hz); obtain ⟨d0, d1, d2, d3, f0, f1, f2, f3⟩ := zero_cells hz; have hz1 := B5.size; have B6 := below_below (And.left ‹_ ∧ _›) B6')
      | (go_at_call 40; (with_reducible refine (CB2 _ _ (And.left ‹_ ∧ _›) hz).mono ?_); clear hz d0 d1 d2 d3 f0 f1 f2 f3; rintro e W6 ⟨g6, p6, rfl, o6, B6', hz⟩; obtain ⟨d0, d1, d2, d3, f0, f1, f2, f3⟩ := zero_cells hz; have B6 := below_below (And.left ‹_ ∧ _›) B6')
      | (go_at_call 40; (with_reducible refine (C2 _ (And.left ‹_ ∧ _›)).mono ?_); rintro e W6 ⟨g6, p6, rfl, o6, B6'⟩; have B6 := below_below (And.left ‹_ ∧ _›) B6')
      | (go_at_call 40; (with_reducible refine (CA3 _ _ (And.left ‹_ ∧ _›) rfl).mono ?_); rintro e W7 ⟨g7, p7, rfl, o7, B7', hz⟩; (try simp only [World.size_drew] at hz); obtain ⟨d0, d1, d2, d3, f0, f1, f2, f3⟩ := zero_cells hz; have hz1 := B6.size; have B7 := below_below (And.left ‹_ ∧ _›) B7')
      | (go_at_call 40; (with_reducible refine (CB3 _ _ (And.left ‹_ ∧ _›) hz).mono ?_); clear hz d0 d1 d2 d3 f0 f1 f2 f3; rintro e W7 ⟨g7, p7, rfl, o7, B7', hz⟩; obtain ⟨d0, d1, d2, d3, f0, f1, f2, f3⟩ := zero_cells hz; have B7 := below_below (And.left ‹_ ∧ _›) B7')
      | (go_at_call 40; (with_reducible refine (C3 _ (And.left ‹_ ∧ _›)).mono ?_); rintro e W7 ⟨g7, p7, rfl, o7, B7'⟩; have B7 := below_below (And.left ‹_ ∧ _›) B7'))
  · have K := ts_new (m := m) (ty := 25) (Nat.le_of_eq (World.size_drew wa).symm) o5 o6 o7 B6' B7' B7 B5.size
    generalize W7.alloc _ = wz at K ⊢
    generalize W7.heap.size = z at K ⊢
    clear o5 o6 o7 B5 B6 B7 B5' B6' B7' C1 C2 C3 CA1 CA2 CA3 CB1 CB2 CB3 HKW hzw
    obtain ⟨k0, k1, k2, k3⟩ := HK.out _ K.b
    go_wp2
    go_loopg [21] (n + 1) (fun q y wr => ∃ (j : Nat) (Y : List Int), y = .int .i64 j ∧ q = n + 1 - j ∧ j ≤ n ∧ TS wa wr z n m g5 p5 g6 p6 g7 p7 T Y C 25 ∧ Bx (∀ d : Int, 0 ≤ d → d < j → rd Y (rd X d) = d))
    case atStart => exact ⟨0, X, rfl, by omega, by omega, K, ⟨fun d d0 d1 => by omega⟩⟩
    case round =>
      clear K
      obtain ⟨j, Y, rfl, hq, hj, K, HY⟩ := hrel
      by_cases hjn : j < n
      · have hjI : (j : Int) < n := by omega
        have cx := (RR.out.keep (HBW.out _ K.b)).X.get j (by omega) hjI
        have hr := GG.out.px.rng j (by omega) hjI
        have K2 := K.set (rd X j) j
        have HY2 := Bx.mk (show ∀ d : Int, 0 ≤ d → d < ((j + 1 : Nat) : Int) → rd (st Y (rd X j) j) (rd X d) = d from fun d d0 d1 => by
          have hd := GG.out.px.rng d d0 (by omega)
          rw [rd_st _ _ _ _ hr.1 (by rw [K.o6.1]; exact hr.2) hd.1]
          by_cases e : d = j
          · rw [if_pos (by rw [e]), e]
          · rw [if_neg (fun h => e (GG.out.px.inj d j d0 (by omega) (by omega) hjI h)), HY.out d d0 (by omega)])
        obtain ⟨x, hx⟩ : ∃ x, rd X j = x := ⟨_, rfl⟩
        rw [hx] at cx hr K2 HY2
        obtain ⟨x0, x1⟩ := hr
        have c6 := K.o6.cell x x0 x1
        have f6 := K.o6.fz x
        have z2 : wr.cell? ⟨z, 2, none⟩ = some (.slice (some ⟨g6, 0, none⟩) n p6) := K.box.cell 2
        have t0 : decide (0 ≤ x) = true := by simpa using x0
        have t1 : decide (x < n) = true := by simpa using x1
        rw [Int.toNat_natCast] at cx
        clear hx K HY k0 k1 k2 k3
        go_wp2
        go_roundg (n + 1 - (j + 1))
        case rel => exact ⟨j + 1, _, rfl, rfl, by omega, K2, HY2⟩
        case measure => omega
      · have hjI : ¬ (j : Int) < n := by omega
        obtain rfl : n = j := by omega
        have z0 : wr.cell? ⟨z, 0, none⟩ = some (.int .i64 m) := K.box.cell 0
        have z1 : wr.cell? ⟨z, 1, none⟩ = some (.slice (some ⟨g5, 0, none⟩) n p5) := K.box.cell 1
        have z2 : wr.cell? ⟨z, 2, none⟩ = some (.slice (some ⟨g6, 0, none⟩) n p6) := K.box.cell 2
        have z3 : wr.cell? ⟨z, 3, none⟩ = some (.slice (some ⟨g7, 0, none⟩) n p7) := K.box.cell 3
        have rz := HRS.out _ K.b
        have KB := Bx.mk K
        clear K k0 k1 k2 k3
        go_wp2_with (refine store4 (by rfl) (by rfl) (.tmp 2) (.tmp 41) (by rfl) b2 (by rfl) m (some ⟨g5, 0, none⟩) (some ⟨g6, 0, none⟩) (some ⟨g7, 0, none⟩) n p5 n p6 n p7 (by rfl) _ _ _ _ 25 rz ?_; intro w1 hb1 hg1)
        have d0 : w1.cell? ⟨b2, 0, none⟩ = some (.int .i64 m) := hb1.cell 0
        have d1 : w1.cell? ⟨b2, 1, none⟩ = some (.slice (some ⟨g5, 0, none⟩) n p5) := hb1.cell 1
        have d2 : w1.cell? ⟨b2, 2, none⟩ = some (.slice (some ⟨g6, 0, none⟩) n p6) := hb1.cell 2
        have d3 : w1.cell? ⟨b2, 3, none⟩ = some (.slice (some ⟨g7, 0, none⟩) n p7) := hb1.cell 3
        try simp only [Exit.inBlock, Exit.then]
        refine bodyPost_ret (v := .agg #[.int .i64 m, .slice (some ⟨g5, 0, none⟩) n p5, .slice (some ⟨g6, 0, none⟩) n p6, .slice (some ⟨g7, 0, none⟩) n p7]) (by simp [results, Try.results18, go_sem, d0, d1, d2, d3]) rfl ?_
        have K := KB.out
        have a1 := K.o5.rng
        have a2 := K.o6.rng
        have a3 := K.o7.rng
        have j1 := K.o5.grown hg1 (by simp; omega)
        have j2 := K.o6.grown hg1 (by simp; omega)
        have j3 := K.o7.grown hg1 (by simp; omega)
        exact ⟨g5, g6, g7, p5, p6, p7, Y, rfl, K.o6.1, HY.out, ⟨j1.at', j2.at', j3.at'⟩, below_grown (HBW.out _ K.b) hg1 (fun k hk => by injection hk with hk; omega)⟩
  · have s1 := B6'.size
    have s2 := B7'.size
    have a1 := o5.rng
    have a2 := o6.rng
    have a3 := o7.rng
    simp only [World.size_alloc, World.size_drew] at a1 a2 a3 s1 s2
    have hb5 := B5.size
    have k1 := below_alloc (Below.refl W6.heap.size W6) (.cells #[.int .i64 0, .slice none 0 0, .slice none 0 0, .slice none 0 0] 25)
    have K := ts_set (m := m) (ty := 25) ((((o5.keep B6').keep k1).keep B7').low (B' := wa.heap.size) (by simp only [World.size_drew]; omega)) (((o6.keep k1).keep B7').low (B' := wa.heap.size) (by omega)) (o7.low (B' := wa.heap.size) (by simp only [World.size_alloc]; omega)) hz B7 hz1 (by omega) (by omega) (by omega) (by omega) (by omega)
    generalize World.setCell (World.setCell (World.setCell (World.setCell W7 _ _) _ _) _ _) _ _ = wz at K ⊢
    generalize W6.heap.size = z at K ⊢
    clear o5 o6 o7 B5 B6 B7 B5' B6' B7' C1 C2 C3 CA1 CA2 CA3 CB1 CB2 CB3 HKW hzw
    obtain ⟨k0, k1, k2, k3⟩ := HK.out _ K.b
    go_wp2
    go_loopg [21] (n + 1) (fun q y wr => ∃ (j : Nat) (Y : List Int), y = .int .i64 j ∧ q = n + 1 - j ∧ j ≤ n ∧ TS wa wr z n m g5 p5 g6 p6 g7 p7 T Y C 25 ∧ Bx (∀ d : Int, 0 ≤ d → d < j → rd Y (rd X d) = d))
    case atStart => exact ⟨0, X, rfl, by omega, by omega, K, ⟨fun d d0 d1 => by omega⟩⟩
    case round =>
      clear K
      obtain ⟨j, Y, rfl, hq, hj, K, HY⟩ := hrel
      by_cases hjn : j < n
      · have hjI : (j : Int) < n := by omega
        have cx := (RR.out.keep (HBW.out _ K.b)).X.get j (by omega) hjI
        have hr := GG.out.px.rng j (by omega) hjI
        have K2 := K.set (rd X j) j
        have HY2 := Bx.mk (show ∀ d : Int, 0 ≤ d → d < ((j + 1 : Nat) : Int) → rd (st Y (rd X j) j) (rd X d) = d from fun d d0 d1 => by
          have hd := GG.out.px.rng d d0 (by omega)
          rw [rd_st _ _ _ _ hr.1 (by rw [K.o6.1]; exact hr.2) hd.1]
          by_cases e : d = j
          · rw [if_pos (by rw [e]), e]
          · rw [if_neg (fun h => e (GG.out.px.inj d j d0 (by omega) (by omega) hjI h)), HY.out d d0 (by omega)])
        obtain ⟨x, hx⟩ : ∃ x, rd X j = x := ⟨_, rfl⟩
        rw [hx] at cx hr K2 HY2
        obtain ⟨x0, x1⟩ := hr
        have c6 := K.o6.cell x x0 x1
        have f6 := K.o6.fz x
        have z2 : wr.cell? ⟨z, 2, none⟩ = some (.slice (some ⟨g6, 0, none⟩) n p6) := K.box.cell 2
        have t0 : decide (0 ≤ x) = true := by simpa using x0
        have t1 : decide (x < n) = true := by simpa using x1
        rw [Int.toNat_natCast] at cx
        clear hx K HY k0 k1 k2 k3
        go_wp2
        go_roundg (n + 1 - (j + 1))
        case rel => exact ⟨j + 1, _, rfl, rfl, by omega, K2, HY2⟩
        case measure => omega
      · have hjI : ¬ (j : Int) < n := by omega
        obtain rfl : n = j := by omega
        have z0 : wr.cell? ⟨z, 0, none⟩ = some (.int .i64 m) := K.box.cell 0
        have z1 : wr.cell? ⟨z, 1, none⟩ = some (.slice (some ⟨g5, 0, none⟩) n p5) := K.box.cell 1
        have z2 : wr.cell? ⟨z, 2, none⟩ = some (.slice (some ⟨g6, 0, none⟩) n p6) := K.box.cell 2
        have z3 : wr.cell? ⟨z, 3, none⟩ = some (.slice (some ⟨g7, 0, none⟩) n p7) := K.box.cell 3
        have rz := HRS.out _ K.b
        have KB := Bx.mk K
        clear K k0 k1 k2 k3
        go_wp2_with (refine store4 (by rfl) (by rfl) (.tmp 2) (.tmp 41) (by rfl) b2 (by rfl) m (some ⟨g5, 0, none⟩) (some ⟨g6, 0, none⟩) (some ⟨g7, 0, none⟩) n p5 n p6 n p7 (by rfl) _ _ _ _ 25 rz ?_; intro w1 hb1 hg1)
        have d0 : w1.cell? ⟨b2, 0, none⟩ = some (.int .i64 m) := hb1.cell 0
        have d1 : w1.cell? ⟨b2, 1, none⟩ = some (.slice (some ⟨g5, 0, none⟩) n p5) := hb1.cell 1
        have d2 : w1.cell? ⟨b2, 2, none⟩ = some (.slice (some ⟨g6, 0, none⟩) n p6) := hb1.cell 2
        have d3 : w1.cell? ⟨b2, 3, none⟩ = some (.slice (some ⟨g7, 0, none⟩) n p7) := hb1.cell 3
        try simp only [Exit.inBlock, Exit.then]
        refine bodyPost_ret (v := .agg #[.int .i64 m, .slice (some ⟨g5, 0, none⟩) n p5, .slice (some ⟨g6, 0, none⟩) n p6, .slice (some ⟨g7, 0, none⟩) n p7]) (by simp [results, Try.results18, go_sem, d0, d1, d2, d3]) rfl ?_
        have K := KB.out
        have a1 := K.o5.rng
        have a2 := K.o6.rng
        have a3 := K.o7.rng
        have j1 := K.o5.grown hg1 (by simp; omega)
        have j2 := K.o6.grown hg1 (by simp; omega)
        have j3 := K.o7.grown hg1 (by simp; omega)
        exact ⟨g5, g6, g7, p5, p6, p7, Y, rfl, K.o6.1, HY.out, ⟨j1.at', j2.at', j3.at'⟩, below_grown (HBW.out _ K.b) hg1 (fun k hk => by injection hk with hk; omega)⟩
  · have s1 := B6'.size
    have s2 := B7'.size
    have a1 := o5.rng
    have a2 := o6.rng
    have a3 := o7.rng
    simp only [World.size_alloc, World.size_drew] at a1 a2 a3 s1 s2
    have hb5 := B5.size
    have k1 := below_alloc (Below.refl W5.heap.size W5) (.cells #[.int .i64 0, .slice none 0 0, .slice none 0 0, .slice none 0 0] 25)
    have K := ts_set (m := m) (ty := 25) ((((o5.keep k1).keep B6').keep B7').low (B' := wa.heap.size) (by simp only [World.size_drew]; omega)) ((o6.keep B7').low (B' := wa.heap.size) (by simp only [World.size_alloc]; omega)) (o7.low (B' := wa.heap.size) (by omega)) hz B7 hz1 (by omega) (by omega) (by omega) (by omega) (by omega)
    generalize World.setCell (World.setCell (World.setCell (World.setCell W7 _ _) _ _) _ _) _ _ = wz at K ⊢
    generalize W5.heap.size = z at K ⊢
    clear o5 o6 o7 B5 B6 B7 B5' B6' B7' C1 C2 C3 CA1 CA2 CA3 CB1 CB2 CB3 HKW hzw
    obtain ⟨k0, k1, k2, k3⟩ := HK.out _ K.b
    go_wp2
    go_loopg [21] (n + 1) (fun q y wr => ∃ (j : Nat) (Y : List Int), y = .int .i64 j ∧ q = n + 1 - j ∧ j ≤ n ∧ TS wa wr z n m g5 p5 g6 p6 g7 p7 T Y C 25 ∧ Bx (∀ d : Int, 0 ≤ d → d < j → rd Y (rd X d) = d))
    case atStart => exact ⟨0, X, rfl, by omega, by omega, K, ⟨fun d d0 d1 => by omega⟩⟩
    case round =>
      clear K
      obtain ⟨j, Y, rfl, hq, hj, K, HY⟩ := hrel
      by_cases hjn : j < n
      · have hjI : (j : Int) < n := by omega
        have cx := (RR.out.keep (HBW.out _ K.b)).X.get j (by omega) hjI
        have hr := GG.out.px.rng j (by omega) hjI
        have K2 := K.set (rd X j) j
        have HY2 := Bx.mk (show ∀ d : Int, 0 ≤ d → d < ((j + 1 : Nat) : Int) → rd (st Y (rd X j) j) (rd X d) = d from fun d d0 d1 => by
          have hd := GG.out.px.rng d d0 (by omega)
          rw [rd_st _ _ _ _ hr.1 (by rw [K.o6.1]; exact hr.2) hd.1]
          by_cases e : d = j
          · rw [if_pos (by rw [e]), e]
          · rw [if_neg (fun h => e (GG.out.px.inj d j d0 (by omega) (by omega) hjI h)), HY.out d d0 (by omega)])
        obtain ⟨x, hx⟩ : ∃ x, rd X j = x := ⟨_, rfl⟩
        rw [hx] at cx hr K2 HY2
        obtain ⟨x0, x1⟩ := hr
        have c6 := K.o6.cell x x0 x1
        have f6 := K.o6.fz x
        have z2 : wr.cell? ⟨z, 2, none⟩ = some (.slice (some ⟨g6, 0, none⟩) n p6) := K.box.cell 2
        have t0 : decide (0 ≤ x) = true := by simpa using x0
        have t1 : decide (x < n) = true := by simpa using x1
        rw [Int.toNat_natCast] at cx
        clear hx K HY k0 k1 k2 k3
        go_wp2
        go_roundg (n + 1 - (j + 1))
        case rel => exact ⟨j + 1, _, rfl, rfl, by omega, K2, HY2⟩
        case measure => omega
      · have hjI : ¬ (j : Int) < n := by omega
        obtain rfl : n = j := by omega
        have z0 : wr.cell? ⟨z, 0, none⟩ = some (.int .i64 m) := K.box.cell 0
        have z1 : wr.cell? ⟨z, 1, none⟩ = some (.slice (some ⟨g5, 0, none⟩) n p5) := K.box.cell 1
        have z2 : wr.cell? ⟨z, 2, none⟩ = some (.slice (some ⟨g6, 0, none⟩) n p6) := K.box.cell 2
        have z3 : wr.cell? ⟨z, 3, none⟩ = some (.slice (some ⟨g7, 0, none⟩) n p7) := K.box.cell 3
        have rz := HRS.out _ K.b
        have KB := Bx.mk K
        clear K k0 k1 k2 k3
        go_wp2_with (refine store4 (by rfl) (by rfl) (.tmp 2) (.tmp 41) (by rfl) b2 (by rfl) m (some ⟨g5, 0, none⟩) (some ⟨g6, 0, none⟩) (some ⟨g7, 0, none⟩) n p5 n p6 n p7 (by rfl) _ _ _ _ 25 rz ?_; intro w1 hb1 hg1)
        have d0 : w1.cell? ⟨b2, 0, none⟩ = some (.int .i64 m) := hb1.cell 0
        have d1 : w1.cell? ⟨b2, 1, none⟩ = some (.slice (some ⟨g5, 0, none⟩) n p5) := hb1.cell 1
        have d2 : w1.cell? ⟨b2, 2, none⟩ = some (.slice (some ⟨g6, 0, none⟩) n p6) := hb1.cell 2
        have d3 : w1.cell? ⟨b2, 3, none⟩ = some (.slice (some ⟨g7, 0, none⟩) n p7) := hb1.cell 3
        try simp only [Exit.inBlock, Exit.then]
        refine bodyPost_ret (v := .agg #[.int .i64 m, .slice (some ⟨g5, 0, none⟩) n p5, .slice (some ⟨g6, 0, none⟩) n p6, .slice (some ⟨g7, 0, none⟩) n p7]) (by simp [results, Try.results18, go_sem, d0, d1, d2, d3]) rfl ?_
        have K := KB.out
        have a1 := K.o5.rng
        have a2 := K.o6.rng
        have a3 := K.o7.rng
        have j1 := K.o5.grown hg1 (by simp; omega)
        have j2 := K.o6.grown hg1 (by simp; omega)
        have j3 := K.o7.grown hg1 (by simp; omega)
        exact ⟨g5, g6, g7, p5, p6, p7, Y, rfl, K.o6.1, HY.out, ⟨j1.at', j2.at', j3.at'⟩, below_grown (HBW.out _ K.b) hg1 (fun k hk => by injection hk with hk; omega)⟩
  · have s1 := B6'.size
    have s2 := B7'.size
    have a1 := o5.rng
    have a2 := o6.rng
    have a3 := o7.rng
    simp only [World.size_alloc, World.size_drew] at a1 a2 a3 s1 s2
    have hb5 := B5.size
    have K := ts_set (m := m) (ty := 25) (((o5.keep B6').keep B7').low (B' := wa.heap.size) (by simp only [World.size_drew, World.size_alloc]; omega)) ((o6.keep B7').low (B' := wa.heap.size) (by omega)) (o7.low (B' := wa.heap.size) (by omega)) hz B7 hz1 (by omega) (by omega) (by omega) (by omega) (by omega)
    generalize World.setCell (World.setCell (World.setCell (World.setCell W7 _ _) _ _) _ _) _ _ = wz at K ⊢
    generalize hzz : wa.heap.size = z at K ⊢
    clear hzz
    clear o5 o6 o7 B5 B6 B7 B5' B6' B7' C1 C2 C3 CA1 CA2 CA3 CB1 CB2 CB3 HKW hzw
    obtain ⟨k0, k1, k2, k3⟩ := HK.out _ K.b
    go_wp2
    go_loopg [21] (n + 1) (fun q y wr => ∃ (j : Nat) (Y : List Int), y = .int .i64 j ∧ q = n + 1 - j ∧ j ≤ n ∧ TS wa wr z n m g5 p5 g6 p6 g7 p7 T Y C 25 ∧ Bx (∀ d : Int, 0 ≤ d → d < j → rd Y (rd X d) = d))
    case atStart => exact ⟨0, X, rfl, by omega, by omega, K, ⟨fun d d0 d1 => by omega⟩⟩
    case round =>
      clear K
      obtain ⟨j, Y, rfl, hq, hj, K, HY⟩ := hrel
      by_cases hjn : j < n
      · have hjI : (j : Int) < n := by omega
        have cx := (RR.out.keep (HBW.out _ K.b)).X.get j (by omega) hjI
        have hr := GG.out.px.rng j (by omega) hjI
        have K2 := K.set (rd X j) j
        have HY2 := Bx.mk (show ∀ d : Int, 0 ≤ d → d < ((j + 1 : Nat) : Int) → rd (st Y (rd X j) j) (rd X d) = d from fun d d0 d1 => by
          have hd := GG.out.px.rng d d0 (by omega)
          rw [rd_st _ _ _ _ hr.1 (by rw [K.o6.1]; exact hr.2) hd.1]
          by_cases e : d = j
          · rw [if_pos (by rw [e]), e]
          · rw [if_neg (fun h => e (GG.out.px.inj d j d0 (by omega) (by omega) hjI h)), HY.out d d0 (by omega)])
        obtain ⟨x, hx⟩ : ∃ x, rd X j = x := ⟨_, rfl⟩
        rw [hx] at cx hr K2 HY2
        obtain ⟨x0, x1⟩ := hr
        have c6 := K.o6.cell x x0 x1
        have f6 := K.o6.fz x
        have z2 : wr.cell? ⟨z, 2, none⟩ = some (.slice (some ⟨g6, 0, none⟩) n p6) := K.box.cell 2
        have t0 : decide (0 ≤ x) = true := by simpa using x0
        have t1 : decide (x < n) = true := by simpa using x1
        rw [Int.toNat_natCast] at cx
        clear hx K HY k0 k1 k2 k3
        go_wp2
        go_roundg (n + 1 - (j + 1))
        case rel => exact ⟨j + 1, _, rfl, rfl, by omega, K2, HY2⟩
        case measure => omega
      · have hjI : ¬ (j : Int) < n := by omega
        obtain rfl : n = j := by omega
        have z0 : wr.cell? ⟨z, 0, none⟩ = some (.int .i64 m) := K.box.cell 0
        have z1 : wr.cell? ⟨z, 1, none⟩ = some (.slice (some ⟨g5, 0, none⟩) n p5) := K.box.cell 1
        have z2 : wr.cell? ⟨z, 2, none⟩ = some (.slice (some ⟨g6, 0, none⟩) n p6) := K.box.cell 2
        have z3 : wr.cell? ⟨z, 3, none⟩ = some (.slice (some ⟨g7, 0, none⟩) n p7) := K.box.cell 3
        have rz := HRS.out _ K.b
        have KB := Bx.mk K
        clear K k0 k1 k2 k3
        go_wp2_with (refine store4 (by rfl) (by rfl) (.tmp 2) (.tmp 41) (by rfl) b2 (by rfl) m (some ⟨g5, 0, none⟩) (some ⟨g6, 0, none⟩) (some ⟨g7, 0, none⟩) n p5 n p6 n p7 (by rfl) _ _ _ _ 25 rz ?_; intro w1 hb1 hg1)
        have d0 : w1.cell? ⟨b2, 0, none⟩ = some (.int .i64 m) := hb1.cell 0
        have d1 : w1.cell? ⟨b2, 1, none⟩ = some (.slice (some ⟨g5, 0, none⟩) n p5) := hb1.cell 1
        have d2 : w1.cell? ⟨b2, 2, none⟩ = some (.slice (some ⟨g6, 0, none⟩) n p6) := hb1.cell 2
        have d3 : w1.cell? ⟨b2, 3, none⟩ = some (.slice (some ⟨g7, 0, none⟩) n p7) := hb1.cell 3
        try simp only [Exit.inBlock, Exit.then]
        refine bodyPost_ret (v := .agg #[.int .i64 m, .slice (some ⟨g5, 0, none⟩) n p5, .slice (some ⟨g6, 0, none⟩) n p6, .slice (some ⟨g7, 0, none⟩) n p7]) (by simp [results, Try.results18, go_sem, d0, d1, d2, d3]) rfl ?_
        have K := KB.out
        have a1 := K.o5.rng
        have a2 := K.o6.rng
        have a3 := K.o7.rng
        have j1 := K.o5.grown hg1 (by simp; omega)
        have j2 := K.o6.grown hg1 (by simp; omega)
        have j3 := K.o7.grown hg1 (by simp; omega)
        exact ⟨g5, g6, g7, p5, p6, p7, Y, rfl, K.o6.1, HY.out, ⟨j1.at', j2.at', j3.at'⟩, below_grown (HBW.out _ K.b) hg1 (fun k hk => by injection hk with hk; omega)⟩
end
end Go.Proofs.Ytidcofjadlfahaa
