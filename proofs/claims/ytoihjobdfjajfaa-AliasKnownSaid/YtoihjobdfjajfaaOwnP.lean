/- own: a term as the document's own: its twin. -/
import Derived.Test.YtoihjobdfjajfaaRef1
import Derived.Test.YtoihjobdfjajfaaMade
import Derived.Test.YtoihjobdfjajfaaAny4
namespace Go.Proofs.Ytoihjobdfjajfaa
set_option linter.unusedVariables false
set_option linter.unusedSimpArgs false
open Go.RowKit

def zeroR : Value := .agg #[.int .i64 0, .int .i64 0, .string ByteArray.empty, .slice none 0 0]
theorem infoR : (Try.prog.info? 41).map (fun i => (i.zero, i.size, i.bytes)) = some (some zeroR, 4, 56) := by kernel_rfl
theorem cells_block (t : LT) : (t.cells.toArray).size = 4 := by rw [LT.cells_eq]; rfl
/-- A row of cells just laid. -/
theorem news_block {w : World} {g : Nat} {cs : List Value} {T : TypeId} (h : w.heap[g]? = some (.cells cs.toArray T (0, 0))) : ∀ j u, cs[j]? = some u → w.cell? ((⟨g, 0, none⟩ : Addr).add j) = some u := by
  intro j u hu
  rw [Addr.add_lit, Nat.zero_add, cell_of_row w g j _ T (0, 0) h]
  simpa using hu
theorem mem_flats_arg {α : Type} {l : List (Tm α)} {x y : Tm α} (hx : x ∈ l) (hy : y ∈ x.flat) : y ∈ Tm.flats l := by
  induction l with
  | nil => cases hx
  | cons z l ih =>
    simp only [Tm.flats, List.mem_append]
    rcases List.mem_cons.1 hx with rfl | h
    · exact .inl hy
    · exact .inr (ih h)
theorem mk_bare {α : Type} (t : Tm α) : t.bare = .mk t.kind t.n t.name () (Tm.bares t.args) := by cases t; rfl
theorem list2' {α : Type} {l : List α} (h : l.length = 2) : ∃ a b, l = [a, b] := by
  match l, h with
  | [a, b], _ => exact ⟨a, b, rfl⟩
theorem list3' {α : Type} {l : List α} (h : l.length = 3) : ∃ a b c, l = [a, b, c] := by
  match l, h with
  | [a, b, c], _ => exact ⟨a, b, c, rfl⟩
theorem list4' {α : Type} {l : List α} (h : l.length = 4) : ∃ a b c d, l = [a, b, c, d] := by
  match l, h with
  | [a, b, c, d], _ => exact ⟨a, b, c, d, rfl⟩
/-- Three blocks laid. -/
theorem three (w : World) (x y z : Obj) : Turned (fun _ => False) w (((w.alloc x).alloc y).alloc z) ∧ (((w.alloc x).alloc y).alloc z).heap.size = w.heap.size + 3 ∧ (((w.alloc x).alloc y).alloc z).heap[w.heap.size]? = some x ∧ (((w.alloc x).alloc y).alloc z).heap[w.heap.size + 2]? = some z ∧ (((w.alloc x).alloc y).alloc z).heap[w.heap.size + 1]? = some y := by
  refine ⟨(((Turned.refl _ w).alloc _).alloc _).alloc _, by simp, ?_, ?_, ?_⟩
  · exact (Below.heap_alloc _ _ _ (by simp; omega)).trans (heap_alloc2_old w x y)
  · have := heap_alloc_new ((w.alloc x).alloc y) z
    rwa [show ((w.alloc x).alloc y).heap.size = w.heap.size + 2 from by simp] at this
  · exact (Below.heap_alloc _ _ _ (by simp)).trans (heap_alloc2_new w x y)
/-- What lies in memory at the head of own's loop: the terms made so far, behind r's Args. -/
structure OwnI (N B2 : Nat) (t : LT) (w1 : World) (j : Nat) (us : List LT) (a : Option Addr) (c : Nat) (W : World) : Prop where
  bares : Tm.bares us = Tm.bares (t.args.take j)
  blk : W.heap[B2]? = some (.cells #[.int .i64 t.kind, .int .i64 t.n, .string t.name, .slice a j c] 41 (0, 0))
  row : Row W 41 4 (.slice a j c) j (us.flatMap LT.cells)
  ins : LT.Ins (fun k => N ≤ k ∧ (Value.slice a j c).ownBlock ≠ some k) W us
  own : ∀ b, (Value.slice a j c).ownBlock = some b → N ≤ b
  turned : Turned (fun k => k = B2) w1 W
/-- The region's state: own has been called, its cells laid, appended, stored. -/
def OwnS (N B2 : Nat) (t x : LT) (w1 : World) (j : Nat) (us : List LT) (a : Option Addr) (c : Nat) (wr : World) : List Value → World → Prop
  | [], W => Turned (fun _ => False) wr W
  | [uv], W => Turned (fun _ => False) wr W ∧ ∃ u : LT, uv = u.val ∧ u.bare = x.bare ∧ u.In (fun k => wr.heap.size ≤ k) W
  | [_, sv], W => Turned (fun _ => False) wr W ∧ ∃ (u : LT) (g : Nat), sv = .slice (some ⟨g, 0, none⟩) 1 1 ∧ u.bare = x.bare ∧ u.In (fun k => wr.heap.size ≤ k) W ∧ W.heap[g]? = some (.cells u.cells.toArray 41 (0, 0))
  | [_, _, av], W => ∃ (u : LT) (g cap : Nat), av = .slice (some ⟨g, 0, none⟩) (j + 1) cap ∧ u.bare = x.bare ∧ Row W 41 4 av (j + 1) (us.flatMap LT.cells ++ u.cells) ∧ LT.In (fun k => wr.heap.size ≤ k ∧ k ≠ g) W u ∧ Turned (fun k => (Value.slice a j c).ownBlock = some k) wr W ∧ (some g = (Value.slice a j c).ownBlock ∨ wr.heap.size ≤ g)
  | [_, _, _, _], W => ∃ us' a' c', OwnI N B2 t w1 (j + 1) us' a' c' W
  | _, _ => False
theorem OwnS.turned0 {N B2 : Nat} {t x : LT} {w1 wr : World} {j : Nat} {us : List LT} {a : Option Addr} {c : Nat} : ∀ (hs : List Value) (w w' : World), OwnS N B2 t x w1 j us a c wr hs w → Turned (fun _ => False) w w' → OwnS N B2 t x w1 j us a c wr hs w'
  | [], w, w', h, ht => Turned.trans h ht
  | [uv], w, w', h, ht => by
    obtain ⟨h1, u, h2, h3, h4⟩ := h
    exact ⟨h1.trans ht, u, h2, h3, h4.turned0 ht⟩
  | [_, sv], w, w', h, ht => by
    obtain ⟨h1, u, g, h2, h3, h4, h5⟩ := h
    exact ⟨h1.trans ht, u, g, h2, h3, h4.turned0 ht, (ht.block g (Array.getElem?_eq_some_iff.1 h5).1 (fun f => f)).trans h5⟩
  | [_, _, av], w, w', h, ht => by
    obtain ⟨u, g, cap, h1, h2, h3, h4, h5, h6⟩ := h
    exact ⟨u, g, cap, h1, h2, h3.turned0 ht, h4.turned0 ht, h5.trans (ht.mono (fun _ _ f => f.elim)), h6⟩
  | [_, _, _, _], w, w', h, ht => by
    obtain ⟨us', a', c', h⟩ := h
    exact ⟨us', a', c', h.bares, (ht.block B2 (Array.getElem?_eq_some_iff.1 h.blk).1 (fun f => f)).trans h.blk, h.row.turned0 ht, h.ins.turned0 ht, h.own, h.turned.trans (ht.mono (fun _ _ f => f.elim))⟩
  | _ :: _ :: _ :: _ :: _ :: _, _, _, h, _ => h.elim
theorem own_nil {N B2 : Nat} {t x : LT} {w1 wr W : World} {j : Nat} {us : List LT} {a : Option Addr} {c : Nat} {hs : List Value} (hl : hs.length ≤ 0) (h : OwnS N B2 t x w1 j us a c wr hs W) : Turned (fun _ => False) wr W := by
  obtain rfl : hs = [] := List.eq_nil_of_length_eq_zero (by omega)
  exact h
/-- r, as long as nothing has been appended. -/
theorem OwnS.blk {N B2 : Nat} {t x : LT} {w1 wr : World} {j : Nat} {us : List LT} {a : Option Addr} {c : Nat} (h : OwnI N B2 t w1 j us a c wr) (hs : List Value) (W : World) (hle : hs.length ≤ 2) (hS : OwnS N B2 t x w1 j us a c wr hs W) :
    W.cell? ⟨B2, 0, none⟩ = some (.int .i64 t.kind) ∧ W.cell? ⟨B2, 1, none⟩ = some (.int .i64 t.n) ∧ W.cell? ⟨B2, 2, none⟩ = some (.string t.name) ∧ W.cell? ⟨B2, 3, none⟩ = some (.slice a j c) := by
  have hT : Turned (fun _ => False) wr W := by
    match hs, hle, hS with
    | [], _, h => exact h
    | [_], _, h => exact h.1
    | [_, _], _, h => exact h.1
  obtain ⟨q0, q1, q2, q3, _⟩ := cells4 ((hT.block B2 (Array.getElem?_eq_some_iff.1 h.blk).1 (fun f => f)).trans h.blk)
  exact ⟨q0, q1, q2, q3⟩
/-- After the store. -/
theorem own_close {N B2 : Nat} {t x : LT} {w1 wr W : World} {j : Nat} {us : List LT} {a : Option Addr} {c g cap : Nat} {u : LT} (hB : B2 < N) (hN : N ≤ wr.heap.size) (h : OwnI N B2 t w1 j us a c wr) (hx : t.args[j]? = some x)
    (hu : u.bare = x.bare) (hr : Row W 41 4 (.slice (some ⟨g, 0, none⟩) (j + 1) cap) (j + 1) (us.flatMap LT.cells ++ u.cells)) (hi : LT.In (fun k => wr.heap.size ≤ k ∧ k ≠ g) W u) (hT : Turned (fun k => (Value.slice a j c).ownBlock = some k) wr W) (hg : some g = (Value.slice a j c).ownBlock ∨ wr.heap.size ≤ g) (hw : w1.heap.size ≤ N) :
    OwnI N B2 t w1 (j + 1) (us ++ [u]) (some ⟨g, 0, none⟩) cap (W.setCell ⟨B2, 3, none⟩ (.slice (some ⟨g, 0, none⟩) (j + 1) cap)) := by
  have hgN : N ≤ g := by
    rcases hg with e | e
    · exact h.own g e.symm
    · omega
  have hgB : g ≠ B2 := by omega
  have hbl : W.heap[B2]? = some (.cells #[.int .i64 t.kind, .int .i64 t.n, .string t.name, .slice a j c] 41 (0, 0)) :=
    (hT.block B2 (Array.getElem?_eq_some_iff.1 h.blk).1 (fun e => by have := h.own B2 e; omega)).trans h.blk
  have Ts : Turned (fun k => k = B2) W (W.setCell ⟨B2, 3, none⟩ (.slice (some ⟨g, 0, none⟩) (j + 1) cap)) := (Turned.refl (fun k => k = B2) W).setCell (p := ⟨B2, 3, none⟩) (.inr rfl) _
  refine ⟨?_, ?_, ?_, ?_, ?_, ?_⟩
  · rw [bares_snoc _ _ _ hx, ← h.bares, Tm.bares_eq, Tm.bares_eq, List.map_append, ← hu]; rfl
  · have := heap_setCell_same W B2 3 _ 41 (.slice (some ⟨g, 0, none⟩) (j + 1) cap) hbl
    simpa using this
  · rw [List.flatMap_append, List.flatMap_cons, List.flatMap_nil, List.append_nil]
    exact hr.setCell (by simp [Value.ownBlock]; exact hgB) _
  · rw [LT.ins_append]
    have hne : ∀ k, (Value.slice (some ⟨g, 0, none⟩) (j + 1) cap).ownBlock ≠ some k ↔ k ≠ g := by
      intro k; simp [Value.ownBlock]; exact ⟨fun h e => h e.symm, fun h e => h e.symm⟩
    refine ⟨?_, ?_, trivial⟩
    · have h1 : LT.Ins (fun k => N ≤ k ∧ k ≠ g) W us := h.ins.turned hT (fun k _ hk e => hk.2 e) (fun k hl hk => ⟨hk.1, fun e => by
        subst e
        rcases hg with e | e
        · exact hk.2 e.symm
        · omega⟩)
      refine h1.turned Ts (fun k _ hk e => by omega) (fun k _ hk => ⟨hk.1, (hne k).2 hk.2⟩)
    · exact hi.turned Ts (fun k _ hk e => by omega) (fun k _ hk => ⟨by omega, (hne k).2 hk.2⟩)
  · intro b hb
    simp [Value.ownBlock] at hb
    omega
  · exact (h.turned.step hT (fun i hi e => by have := h.own i e; omega)).setCell (p := ⟨B2, 3, none⟩) (.inr rfl) _
end Go.Proofs.Ytoihjobdfjajfaa
