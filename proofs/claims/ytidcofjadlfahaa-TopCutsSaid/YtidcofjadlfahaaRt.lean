/- Whether a row is a tree: the program's test, and the document's. -/
import Derived.Test.YtidcofjadlfahaaTp
import Derived.Test.YtidcofjadlfahaaHd
set_option linter.unusedVariables false
set_option linter.unusedSimpArgs false
namespace Go.Proofs.Ytidcofjadlfahaa
open Go.RowKit

/-- A vertex hangs by a dart of its own, the root by none. -/
def okV (T up : List Int) (r v : Int) : Prop := (v = r → rd up v = -1) ∧ (v ≠ r → 0 ≤ rd up v ∧ rd up v < T.length ∧ rd T (rd up v) = v)
/-- One step up. -/
def climb (T up : List Int) (r a : Int) : Int := if a = r then r else rd T (ot (rd up a))
structure IsTree (T up : List Int) (N : Nat) (r : Int) : Prop where
  len : up.length = N
  r0 : 0 ≤ r
  r1 : r < N
  ok : ∀ v : Int, 0 ≤ v → v < N → okV T up r v
  cl : ∀ v : Int, 0 ≤ v → v < N → itr (climb T up r) v N = r
def bgB (T : List Int) (d v : Int) : Bool := decide (0 ≤ d ∧ d < T.length ∧ rd T d = v)

section
variable {T up : List Int} {N : Nat} {r : Int}
theorem climb_rng (he : (T.length : Int) % 2 = 0) (ht : ∀ d : Int, 0 ≤ d → d < T.length → 0 ≤ rd T d ∧ rd T d < N) (hr : 0 ≤ r ∧ r < N) (hok : ∀ v : Int, 0 ≤ v → v < N → okV T up r v) {a : Int} (h0 : 0 ≤ a) (h1 : a < N) : 0 ≤ climb T up r a ∧ climb T up r a < N := by
  unfold climb
  split
  · exact hr
  · rename_i h
    obtain ⟨p, q, _⟩ := (hok a h0 h1).2 h
    have := ot_rng _ T.length p q he
    exact ht _ this.1 this.2
theorem climbs_rng (he : (T.length : Int) % 2 = 0) (ht : ∀ d : Int, 0 ≤ d → d < T.length → 0 ≤ rd T d ∧ rd T d < N) (hr : 0 ≤ r ∧ r < N) (hok : ∀ v : Int, 0 ≤ v → v < N → okV T up r v) {a : Int} (h0 : 0 ≤ a) (h1 : a < N) : ∀ k, 0 ≤ itr (climb T up r) a k ∧ itr (climb T up r) a k < N
  | 0 => ⟨h0, h1⟩
  | k + 1 => climb_rng he ht hr hok (climbs_rng he ht hr hok h0 h1 k).1 (climbs_rng he ht hr hok h0 h1 k).2
theorem climb_root {a : Int} (k : Nat) (h : itr (climb T up r) a k = r) : ∀ j, itr (climb T up r) a (k + j) = r
  | 0 => h
  | j + 1 => by
    show climb T up r (itr (climb T up r) a (k + j)) = r
    rw [climb_root k h j, climb, if_pos rfl]
theorem itr_add (f : Int → Int) (a : Int) (i : Nat) : ∀ j, itr f a (i + j) = itr f (itr f a i) j
  | 0 => rfl
  | j + 1 => by
    show f (itr f a (i + j)) = f _
    rw [itr_add f a i j]
/-- A root that is reached is reached by as many steps as there are vertices. -/
theorem climb_few (he : (T.length : Int) % 2 = 0) (ht : ∀ d : Int, 0 ≤ d → d < T.length → 0 ≤ rd T d ∧ rd T d < N) (hr : 0 ≤ r ∧ r < N) (hok : ∀ v : Int, 0 ≤ v → v < N → okV T up r v) {a : Int} (h0 : 0 ≤ a) (h1 : a < N) (k : Nat) (h : itr (climb T up r) a k = r) : itr (climb T up r) a N = r := by
  obtain ⟨j, hj, hp, hl⟩ := least_of (p := fun k => itr (climb T up r) a k = r) k h
  have hn : ((List.range j).map (itr (climb T up r) a)).Nodup := by
    refine nodup_map _ _ (fun i i' hi hi' e => ?_)
    -- from i and i' on the ways are one: the later reaches the root too early
    have e1 := itr_add (climb T up r) a i' (j - i')
    rw [← e, ← itr_add, show i' + (j - i') = j from by omega, hp] at e1
    exact hl (i + (j - i')) (by omega) e1.symm
  have hf := few N _ hn (fun z hz => by
    obtain ⟨i, _, rfl⟩ := List.mem_map.1 hz
    exact climbs_rng he ht hr hok h0 h1 i)
  simp at hf
  have := climb_root j hp (N - j)
  rwa [show j + (N - j) = N from by omega] at this
end

section
variable {N : Int} {aT aX aC : Option Addr} {cT cX cC : Nat} {T X C : List Int} {w : World}
end
/-- The test is told right. -/
def TreeB (T up : List Int) (N : Nat) (r : Int) (w : World) (e : Ending) (w' : World) : Prop := ∃ b : Bool, e = .returned (.bool b) ∧ (b = true ↔ IsTree T up N r) ∧ Below w.heap.size w w'

end Go.Proofs.Ytidcofjadlfahaa
