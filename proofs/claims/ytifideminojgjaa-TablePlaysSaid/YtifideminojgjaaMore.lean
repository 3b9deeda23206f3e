/- Small laws for two appends on one fresh row, whichever comes first. -/
import Derived.Test.YtifideminojgjaaTabsL
namespace Go.Proofs.Ytifideminojgjaa
open Go.RowKit
set_option linter.unusedVariables false
set_option linter.unusedSimpArgs false

theorem Row.emptyAt {w : World} {e : TypeId} {g : Nat} (h : w.heap[g]? = some (.cells #[] e (0, 0))) : Row w e 1 (.slice (some ⟨g, 0, none⟩) 0 0) 0 [] :=
  ⟨rfl, .inr ⟨g, 0, #[], rfl, h, Nat.le_refl _, by unfold maxLen; omega, by simp, rfl⟩⟩
theorem heap_kept {w w' : World} {S : Nat → Prop} {b : Nat} {o : Obj} (h : w.heap[b]? = some o) (ht : Turned S w w') (hS : ¬ S b) : w'.heap[b]? = some o :=
  (ht.block b (Array.getElem?_eq_some_iff.1 h).1 hS).trans h

/-- What is held through a region that only makes and fills fresh blocks. -/
def Held (w7 W : World) (p : Addr) (v : Value) : Prop := Turned (fun _ => False) w7 W ∧ W.cell? p = some v
theorem held_drew {w7 : World} {p : Addr} {v : Value} (h : w7.cell? p = some v) : Turned (fun _ => False) w7 w7.drew ∧ w7.drew.cell? p = some v :=
  ⟨(Turned.refl _ _).drew, ((Turned.refl (fun _ => False) w7).drew).cell0 h⟩
theorem held_alloc {w7 W : World} {p : Addr} {v : Value} {o : Obj} (h : Turned (fun _ => False) w7 W ∧ W.cell? p = some v) : Turned (fun _ => False) w7 (W.alloc o) ∧ (W.alloc o).cell? p = some v :=
  ⟨h.1.alloc o, ((Turned.refl (fun _ => False) W).alloc o).cell0 h.2⟩
theorem held_step {w7 W wA : World} {p : Addr} {u v : Value} (h : Turned (fun _ => False) w7 W ∧ W.cell? p = some u) (hg : Turned (fun k => v.ownBlock = some k) W wA) (hv : ∀ k, v.ownBlock = some k → w7.heap.size ≤ k) : Turned (fun _ => False) w7 wA :=
  h.1.step hg (fun i hi e => by have := hv i e; omega)
theorem held_own {w7 W : World} {p : Addr} {u v vA : Value} (h : Turned (fun _ => False) w7 W ∧ W.cell? p = some u) (hl : vA.ownBlock = v.ownBlock ∨ vA.ownBlock = some W.heap.size) (hv : ∀ k, v.ownBlock = some k → w7.heap.size ≤ k) : ∀ k, vA.ownBlock = some k → w7.heap.size ≤ k := by
  intro k e
  rcases hl with q | q
  · exact hv k (by rw [← q]; exact e)
  · rw [q] at e; injection e with e; have := h.1.size; omega
theorem held_own2 {w7 W : World} {p : Addr} {u v : Value} {g : Nat} (h : Turned (fun _ => False) w7 W ∧ W.cell? p = some u) (hl : some g = v.ownBlock ∨ g = W.heap.size) (hv : ∀ k, v.ownBlock = some k → w7.heap.size ≤ k) : w7.heap.size ≤ g := by
  rcases hl with q | q
  · exact hv g q.symm
  · have := h.1.size; omega
theorem alloc2_at (w : World) (o1 o2 : Obj) : ((w.alloc o1).alloc o2).heap[w.heap.size + 1]? = some o2 := by
  have := heap_alloc_new (w.alloc o1) o2
  simpa using this
theorem alloc2_at0 (w : World) (o1 o2 : Obj) : ((w.alloc o1).alloc o2).heap[w.heap.size]? = some o1 :=
  heap_kept (heap_alloc_new w o1) ((Turned.refl (fun _ => False) _).alloc o2) (fun f => f)
end Go.Proofs.Ytifideminojgjaa
