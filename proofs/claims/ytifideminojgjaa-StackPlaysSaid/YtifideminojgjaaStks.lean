/- What a stack in memory is; rows that are written cell by cell. -/
import Derived.Test.YtifideminojgjaaBase
import Derived.Lib.SliceRun
namespace Go.Proofs.Ytifideminojgjaa
open Go.RowKit
set_option linter.unusedVariables false
set_option linter.unusedSimpArgs false

/-- A store into an element of a row of one cell each. -/
theorem Row.stored {w : World} {e : TypeId} {n g cap : Nat} {xs : List Value} (h : Row w e 1 (.slice (some ⟨g, 0, none⟩) n cap) n xs) {i : Nat} (hi : i < n) (u : Value) :
    Row (w.setCell ⟨g, i, none⟩ u) e 1 (.slice (some ⟨g, 0, none⟩) n cap) n (xs.set i u) := by
  refine ⟨by simpa using h.1, .inr ?_⟩
  rcases h.2 with ⟨e, _⟩ | ⟨g', c, cur, e, hg, h1, h2, h3, h4⟩
  · cases e
  · injection e with e1 _ e3; injection e1 with e1; injection e1 with e1; subst e1; subst e3
    refine ⟨g, cap, cur.setIfInBounds i u, rfl, ?_, h1, h2, by simpa using h3, ?_⟩
    · simp only [World.setCell, Array.getElem?_modify]
      simp [hg]
    · simp only [Array.toList_setIfInBounds]
      rw [← h4, Nat.mul_one, List.take_set]

/-- Cells from place m on are written over; the first m stay. -/
theorem Row.over {w w' : World} {e : TypeId} {n g cap m : Nat} {xs : List Value} (h : Row w e 1 (.slice (some ⟨g, 0, none⟩) n cap) n xs) (hm : m ≤ n)
    (hw : ∃ cur cur' : Array Value, w.heap[g]? = some (.cells cur e (0, 0)) ∧ w'.heap[g]? = some (.cells cur' e (0, 0)) ∧ cur'.size = cur.size ∧ cur'.toList.take m = cur.toList.take m) :
    Row w' e 1 (.slice (some ⟨g, 0, none⟩) m cap) m (xs.take m) := by
  obtain ⟨cur, cur', q1, q2, q3, q4⟩ := hw
  rcases h.2 with ⟨e, _⟩ | ⟨g', c, cu, e, hg, h1, h2, h3, h4⟩
  · cases e
  · injection e with e1 _ e3; injection e1 with e1; injection e1 with e1; subst e1; subst e3
    rw [q1] at hg; injection hg with hg; injection hg with hg; subst hg
    refine ⟨?_, .inr ⟨g, cap, cur', rfl, q2, by omega, h2, by rw [q3]; exact h3, ?_⟩⟩
    · rw [List.length_take, h.1]; omega
    · rw [Nat.mul_one, q4, ← h4, List.take_take, Nat.mul_one, Nat.min_eq_left hm]

/-- A stack in memory: its struct in block sb (type st), what is on it in the row of lv (elements of type e, one cell each). -/
structure Stk {α : Type} (st e : TypeId) (enc : α → Value) (w : World) (B sb room : Nat) (lv : Value) (l : List α) : Prop where
  base : B ≤ sb
  baseR : ∀ k, lv.ownBlock = some k → B ≤ k
  blk : w.heap[sb]? = some (.cells #[.int .i64 room, lv] st (0, 0))
  row : Row w e 1 lv l.length (l.map enc)
  apart : lv.ownBlock ≠ some sb
  room1 : 1 ≤ room
  room2 : room ≤ 65536
  len : l.length ≤ room

/-- The stack's own blocks. -/
def Mine2 (sb : Nat) (lv : Value) (k : Nat) : Prop := k = sb ∨ lv.ownBlock = some k

theorem rec2_cells {w : World} {sb : Nat} {r : Int} {lv : Value} {st : TypeId} (h : w.heap[sb]? = some (.cells #[.int .i64 r, lv] st (0, 0))) :
    w.cell? ⟨sb, 0, none⟩ = some (.int .i64 r) ∧ w.cell? ⟨sb, 1, none⟩ = some lv ∧ w.frozen? ⟨sb, 1, none⟩ = false :=
  ⟨by rw [cell_of_row w sb 0 _ st (0, 0) h]; rfl, by rw [cell_of_row w sb 1 _ st (0, 0) h]; rfl, frozen_of_row w sb 1 _ st h⟩
theorem rec2_set {w : World} {sb : Nat} {r : Int} {lv : Value} {st : TypeId} (h : w.heap[sb]? = some (.cells #[.int .i64 r, lv] st (0, 0))) (u : Value) :
    (w.setCell ⟨sb, 1, none⟩ u).heap[sb]? = some (.cells #[.int .i64 r, u] st (0, 0)) := by
  simp only [World.setCell, Array.getElem?_modify]
  simp [h]

section
variable {α : Type} {st e : TypeId} {enc : α → Value} {w : World} {B sb room : Nat} {lv : Value} {l : List α}
theorem Stk.turned {S : Nat → Prop} {w' : World} (h : Stk st e enc w B sb room lv l) (ht : Turned S w w') (hS : ∀ k, S k → ¬ Mine2 sb lv k) : Stk st e enc w' B sb room lv l :=
  ⟨h.base, h.baseR, (ht.block sb (Array.getElem?_eq_some_iff.1 h.blk).1 (fun s => hS sb s (.inl rfl))).trans h.blk, h.row.turned ht (fun k e s => hS k s (.inr e)), h.apart, h.room1, h.room2, h.len⟩
theorem Stk.turned0 {w' : World} (h : Stk st e enc w B sb room lv l) (ht : Turned (fun _ => False) w w') : Stk st e enc w' B sb room lv l := h.turned ht (fun _ x => False.elim x)
theorem Stk.fresh (h : Stk st e enc w B sb room lv l) : ∀ k, Mine2 sb lv k → B ≤ k := by
  rintro k (rfl | e)
  · exact h.base
  · exact h.baseR k e
theorem Stk.old (h : Stk st e enc w B sb room lv l) : ∀ k, Mine2 sb lv k → k < w.heap.size := by
  rintro k (rfl | e)
  · exact (Array.getElem?_eq_some_iff.1 h.blk).1
  · exact h.row.lt k e
theorem Turned.of_mine2 {w1 w2 : World} (h : Turned (fun _ => False) w w1) (ht : Turned (Mine2 sb lv) w1 w2) (hf : ∀ k, Mine2 sb lv k → w.heap.size ≤ k) : Turned (fun _ => False) w w2 :=
  h.step ht (fun i hi hm => by have := hf i hm; omega)
theorem apart_moved2 {lv' v : Value} (h : ∀ k, v.ownBlock = some k → ¬ Mine2 sb lv k) (hv : ∀ k, v.ownBlock = some k → k < w.heap.size)
    (hm : lv'.ownBlock = lv.ownBlock ∨ ∃ g, lv'.ownBlock = some g ∧ w.heap.size ≤ g) : ∀ k, v.ownBlock = some k → ¬ Mine2 sb lv' k := by
  rintro k e (rfl | e')
  · exact h k e (.inl rfl)
  · rcases hm with hm | ⟨g, hg, hle⟩
    · exact h k e (.inr (by rw [← hm]; exact e'))
    · have := hv k e
      rw [e'] at hg
      injection hg with hg
      omega
end
end Go.Proofs.Ytifideminojgjaa
