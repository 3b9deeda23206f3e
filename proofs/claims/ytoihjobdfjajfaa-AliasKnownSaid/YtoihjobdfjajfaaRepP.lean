/- Terms made again, arg by arg: what a loop of appends holds (Replace, rename). -/
import Derived.Test.YtoihjobdfjajfaaOwnP
import Derived.Test.YtoihjobdfjajfaaAL1
namespace Go.Proofs.Ytoihjobdfjajfaa
set_option linter.unusedVariables false
set_option linter.unusedSimpArgs false
open Go.RowKit

namespace Tm
mutual
/-- What is known in the variables' place. -/
def subF (f : Int → Option (Tm Unit)) : Tm Unit → Tm Unit
  | .mk k n s e aa => if k = 0 then (f n).getD (.mk k n s e aa) else .mk k n s e (subFs f aa)
def subFs (f : Int → Option (Tm Unit)) : List (Tm Unit) → List (Tm Unit)
  | [] => []
  | x :: l => subF f x :: subFs f l
end
theorem subFs_eq (f : Int → Option (Tm Unit)) (l : List (Tm Unit)) : subFs f l = l.map (subF f) := by
  induction l with
  | nil => rfl
  | cons x l ih => simp only [subFs, List.map_cons, ih]
mutual
theorem subF_subT {f : Int → Option (Tm Unit)} {σ : Int → Tm Unit} : ∀ t : Tm Unit, (∀ x ∈ t.flat, x.kind = 0 → f x.n = some (σ x.n)) → subF f t = subT σ t
  | .mk k n s e aa, h => by
    by_cases hk : k = 0
    · have := h (.mk k n s e aa) (by rw [flat_eq]; exact List.mem_cons_self ..) hk
      simp only [Tm.n] at this
      simp only [subF, subT, if_pos hk, this, Option.getD_some]
    · simp only [subF, subT, if_neg hk]
      rw [subFs_subTs aa (fun x hx => h x (by rw [flat_eq]; exact List.mem_cons_of_mem _ hx))]
theorem subFs_subTs {f : Int → Option (Tm Unit)} {σ : Int → Tm Unit} : ∀ l : List (Tm Unit), (∀ x ∈ flats l, x.kind = 0 → f x.n = some (σ x.n)) → subFs f l = subTs σ l
  | [], _ => rfl
  | x :: l, h => by
    simp only [subFs, subTs]
    rw [subF_subT x (fun y hy => h y (by simp only [flats]; exact List.mem_append_left _ hy)), subFs_subTs l (fun y hy => h y (by simp only [flats]; exact List.mem_append_right _ hy))]
end
end Tm
/-- What a map of terms holds, as values; as terms. -/
def valsM (g : Int → Option LT) : Int → Option Value := fun i => (g i).map LT.val
def baresM (g : Int → Option LT) : Int → Option (Tm Unit) := fun i => (g i).map Tm.bare
/-- What lies in memory at the head of the loop: the terms made so far, behind out's Args. -/
structure RepI (p : Nat → Prop) (σ : Tm Unit → Tm Unit) (N B2 : Nat) (t : LT) (w1 : World) (j : Nat) (us : List LT) (a : Option Addr) (c : Nat) (W : World) : Prop where
  bares : us.map Tm.bare = (t.args.take j).map fun x => σ x.bare
  blk : W.heap[B2]? = some (.cells #[.int .i64 t.kind, .int .i64 t.n, .string t.name, .slice a j c] 27 (0, 0))
  row : Row W 27 4 (.slice a j c) j (us.flatMap LT.cells)
  ins : LT.Ins (fun k => (p k ∨ N ≤ k) ∧ (Value.slice a j c).ownBlock ≠ some k) W us
  own : ∀ b, (Value.slice a j c).ownBlock = some b → N ≤ b
  turned : Turned (fun k => k = B2) w1 W
/-- The region's state: the call has been, its cells laid, appended, stored. -/
def RepS (p : Nat → Prop) (σ : Tm Unit → Tm Unit) (N B2 : Nat) (t x : LT) (w1 : World) (j : Nat) (us : List LT) (a : Option Addr) (c : Nat) (wr : World) : List Value → World → Prop
  | [], W => Turned (fun _ => False) wr W
  | [uv], W => Turned (fun _ => False) wr W ∧ ∃ u : LT, uv = u.val ∧ u.bare = σ x.bare ∧ u.In (fun k => p k ∨ wr.heap.size ≤ k) W
  | [_, sv], W => Turned (fun _ => False) wr W ∧ ∃ (u : LT) (g : Nat), sv = .slice (some ⟨g, 0, none⟩) 1 1 ∧ u.bare = σ x.bare ∧ u.In (fun k => p k ∨ wr.heap.size ≤ k) W ∧ W.heap[g]? = some (.cells u.cells.toArray 27 (0, 0))
  | [_, _, av], W => ∃ (u : LT) (g cap : Nat), av = .slice (some ⟨g, 0, none⟩) (j + 1) cap ∧ u.bare = σ x.bare ∧ Row W 27 4 av (j + 1) (us.flatMap LT.cells ++ u.cells) ∧ LT.In (fun k => (p k ∨ wr.heap.size ≤ k) ∧ k ≠ g) W u ∧ Turned (fun k => (Value.slice a j c).ownBlock = some k) wr W ∧ (some g = (Value.slice a j c).ownBlock ∨ wr.heap.size ≤ g)
  | [_, _, _, _], W => ∃ us' a' c', RepI p σ N B2 t w1 (j + 1) us' a' c' W
  | _, _ => False
theorem RepI.turned0 {p : Nat → Prop} {σ : Tm Unit → Tm Unit} {N B2 : Nat} {t : LT} {w1 : World} {j : Nat} {us : List LT} {a : Option Addr} {c : Nat} {w w' : World} (h : RepI p σ N B2 t w1 j us a c w) (ht : Turned (fun _ => False) w w') : RepI p σ N B2 t w1 j us a c w' :=
  ⟨h.bares, (ht.block B2 (Array.getElem?_eq_some_iff.1 h.blk).1 (fun f => f)).trans h.blk, h.row.turned0 ht, h.ins.turned0 ht, h.own, h.turned.trans (ht.mono (fun _ _ f => f.elim))⟩
theorem RepS.turned0 {p : Nat → Prop} {σ : Tm Unit → Tm Unit} {N B2 : Nat} {t x : LT} {w1 wr : World} {j : Nat} {us : List LT} {a : Option Addr} {c : Nat} : ∀ (hs : List Value) (w w' : World), RepS p σ N B2 t x w1 j us a c wr hs w → Turned (fun _ => False) w w' → RepS p σ N B2 t x w1 j us a c wr hs w'
  | [], w, w', h, ht => Turned.trans h ht
  | [uv], w, w', h, ht => by
    obtain ⟨h1, u, h2, h3, h4⟩ := h
    exact ⟨h1.trans ht, u, h2, h3, h4.turned0 ht⟩
  | [_, sv], w, w', h, ht => by
    obtain ⟨h1, u, g, h2, h3, h4, h5⟩ := h
    exact ⟨h1.trans ht, u, g, h2, h3, h4.turned0 ht, (ht.block g (Array.getElem?_eq_some_iff.1 h5).1 (fun f => f)).trans h5⟩
  | [_, _, av], w, w', h, ht => by
    obtain ⟨u, g, cap, h1, h2, h3, h4, h5, h6⟩ := h
    exact ⟨u, g, cap, h1, h2, h3.turned0 ht, h4.turned0 ht, h5.trans (ht.mono (fun _ _ f => f.elim)), h6⟩
  | [_, _, _, _], w, w', h, ht => by
    obtain ⟨us', a', c', h⟩ := h
    exact ⟨us', a', c', h.bares, (ht.block B2 (Array.getElem?_eq_some_iff.1 h.blk).1 (fun f => f)).trans h.blk, h.row.turned0 ht, h.ins.turned0 ht, h.own, h.turned.trans (ht.mono (fun _ _ f => f.elim))⟩
  | _ :: _ :: _ :: _ :: _ :: _, _, _, h, _ => h.elim
theorem rep_nil {p : Nat → Prop} {σ : Tm Unit → Tm Unit} {N B2 : Nat} {t x : LT} {w1 wr W : World} {j : Nat} {us : List LT} {a : Option Addr} {c : Nat} {hs : List Value} (hl : hs.length ≤ 0) (h : RepS p σ N B2 t x w1 j us a c wr hs W) : Turned (fun _ => False) wr W := by
  obtain rfl : hs = [] := List.eq_nil_of_length_eq_zero (by omega)
  exact h
/-- r, as long as nothing has been appended. -/
theorem RepS.blk {p : Nat → Prop} {σ : Tm Unit → Tm Unit} {N B2 : Nat} {t x : LT} {w1 wr : World} {j : Nat} {us : List LT} {a : Option Addr} {c : Nat} (h : RepI p σ N B2 t w1 j us a c wr) (hs : List Value) (W : World) (hle : hs.length ≤ 2) (hS : RepS p σ N B2 t x w1 j us a c wr hs W) :
    W.cell? ⟨B2, 0, none⟩ = some (.int .i64 t.kind) ∧ W.cell? ⟨B2, 1, none⟩ = some (.int .i64 t.n) ∧ W.cell? ⟨B2, 2, none⟩ = some (.string t.name) ∧ W.cell? ⟨B2, 3, none⟩ = some (.slice a j c) := by
  have hT : Turned (fun _ => False) wr W := by
    match hs, hle, hS with
    | [], _, h => exact h
    | [_], _, h => exact h.1
    | [_, _], _, h => exact h.1
  obtain ⟨q0, q1, q2, q3, _⟩ := cells4 ((hT.block B2 (Array.getElem?_eq_some_iff.1 h.blk).1 (fun f => f)).trans h.blk)
  exact ⟨q0, q1, q2, q3⟩
/-- After the store. -/
theorem rep_close {p : Nat → Prop} {σ : Tm Unit → Tm Unit} {N B2 : Nat} {t x : LT} {w1 wr W : World} {j : Nat} {us : List LT} {a : Option Addr} {c g cap : Nat} {u : LT} (hp : ∀ k, p k → k < B2) (hB : B2 < N) (hN : N ≤ wr.heap.size) (h : RepI p σ N B2 t w1 j us a c wr) (hx : t.args[j]? = some x)
    (hu : u.bare = σ x.bare) (hr : Row W 27 4 (.slice (some ⟨g, 0, none⟩) (j + 1) cap) (j + 1) (us.flatMap LT.cells ++ u.cells)) (hi : LT.In (fun k => (p k ∨ wr.heap.size ≤ k) ∧ k ≠ g) W u) (hT : Turned (fun k => (Value.slice a j c).ownBlock = some k) wr W) (hg : some g = (Value.slice a j c).ownBlock ∨ wr.heap.size ≤ g) (hw : w1.heap.size ≤ N) :
    RepI p σ N B2 t w1 (j + 1) (us ++ [u]) (some ⟨g, 0, none⟩) cap (W.setCell ⟨B2, 3, none⟩ (.slice (some ⟨g, 0, none⟩) (j + 1) cap)) := by
  have hgN : N ≤ g := by
    rcases hg with e | e
    · exact h.own g e.symm
    · omega
  have hgB : g ≠ B2 := by omega
  have hbl : W.heap[B2]? = some (.cells #[.int .i64 t.kind, .int .i64 t.n, .string t.name, .slice a j c] 27 (0, 0)) :=
    (hT.block B2 (Array.getElem?_eq_some_iff.1 h.blk).1 (fun e => by have := h.own B2 e; omega)).trans h.blk
  have Ts : Turned (fun k => k = B2) W (W.setCell ⟨B2, 3, none⟩ (.slice (some ⟨g, 0, none⟩) (j + 1) cap)) := (Turned.refl (fun k => k = B2) W).setCell (p := ⟨B2, 3, none⟩) (.inr rfl) _
  refine ⟨?_, ?_, ?_, ?_, ?_, ?_⟩
  · rw [List.take_add_one, hx, List.map_append, List.map_append, h.bares, List.map_cons, List.map_nil, hu]; rfl
  · have := heap_setCell_same W B2 3 _ 27 (.slice (some ⟨g, 0, none⟩) (j + 1) cap) hbl
    simpa using this
  · rw [List.flatMap_append, List.flatMap_cons, List.flatMap_nil, List.append_nil]
    exact hr.setCell (by simp [Value.ownBlock]; exact hgB) _
  · rw [LT.ins_append]
    have hne : ∀ k, (Value.slice (some ⟨g, 0, none⟩) (j + 1) cap).ownBlock ≠ some k ↔ k ≠ g := by
      intro k; simp [Value.ownBlock]; exact ⟨fun h e => h e.symm, fun h e => h e.symm⟩
    refine ⟨?_, ?_, trivial⟩
    · have h1 : LT.Ins (fun k => (p k ∨ N ≤ k) ∧ k ≠ g) W us := h.ins.turned hT (fun k _ hk e => hk.2 e) (fun k hl hk => ⟨hk.1, fun e => by
        subst e
        rcases hg with e | e
        · exact hk.2 e.symm
        · omega⟩)
      refine h1.turned Ts (fun k _ hk e => hk.1.elim (fun hq => by have := hp k hq; omega) (fun hq => by omega)) (fun k _ hk => ⟨hk.1, (hne k).2 hk.2⟩)
    · exact hi.turned Ts (fun k _ hk e => hk.1.elim (fun hq => by have := hp k hq; omega) (fun hq => by omega)) (fun k _ hk => ⟨hk.1.elim .inl (fun hq => .inr (by omega)), (hne k).2 hk.2⟩)
  · intro b hb
    simp [Value.ownBlock] at hb
    omega
  · exact (h.turned.step hT (fun i hi e => by have := h.own i e; omega)).setCell (p := ⟨B2, 3, none⟩) (.inr rfl) _
end Go.Proofs.Ytoihjobdfjajfaa
