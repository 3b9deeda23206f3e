/- IndexPlays: what lies in memory while it runs. -/
import Derived.Test.YtoihjobdfjajfaaIP1
namespace Go.Proofs.Ytoihjobdfjajfaa
set_option linter.unusedVariables false
set_option linter.unusedSimpArgs false
open Go.RowKit Go.Maps

/-- An index, and beside it the keys that were put in and whether each is there. -/
structure PlayIn (w0 : World) (xb mb : Nat) (v v4 v5 : Value) (ks kw : List Key) (nt : Nat) (gi gt : List Int) (w : World) : Prop where
  idx : IdxIn xb mb v ks gi w
  ws : Row w 35 4 v4 kw.length (kw.flatMap Key.cells)
  th : Row w 4 1 v5 nt (ths nt gt)
  ap4 : ∀ k, v4.ownBlock = some k → ¬ MineX xb mb v k ∧ w0.heap.size ≤ k
  ap5 : ∀ k, v5.ownBlock = some k → ¬ MineX xb mb v k ∧ v4.ownBlock ≠ some k ∧ w0.heap.size ≤ k
  fr : ∀ k, MineX xb mb v k → w0.heap.size ≤ k
  turned : Turned (fun _ => False) w0 w
section
variable {w0 : World} {xb mb : Nat} {v v4 v5 : Value} {ks kw : List Key} {nt : Nat} {gi gt : List Int} {w w' : World}
theorem PlayIn.turned0 (h : PlayIn w0 xb mb v v4 v5 ks kw nt gi gt w) (ht : Turned (fun _ => False) w w') : PlayIn w0 xb mb v v4 v5 ks kw nt gi gt w' :=
  ⟨h.idx.turned0 ht, h.ws.turned0 ht, h.th.turned0 ht, h.ap4, h.ap5, h.fr, h.turned.trans ht⟩
theorem PlayIn.moved (h : PlayIn w0 xb mb v v4 v5 ks kw nt gi gt w) {v' : Value} {ks' : List Key} {gi' : List Int} (hi : IdxIn xb mb v' ks' gi' w') (ht : Turned (MineX xb mb v) w w') (hv : v'.ownBlock = v.ownBlock ∨ ∃ g, v'.ownBlock = some g ∧ w.heap.size ≤ g) : PlayIn w0 xb mb v' v4 v5 ks' kw nt gi' gt w' := by
  have hm : ∀ k, MineX xb mb v' k → MineX xb mb v k ∨ w.heap.size ≤ k := by
    rintro k (e | e | e)
    · exact .inl (.inl e)
    · exact .inl (.inr (.inl e))
    · rcases hv with h1 | ⟨g, h1, h2⟩
      · exact .inl (.inr (.inr (by rw [← h1]; exact e)))
      · rw [h1] at e; injection e with e; subst e; exact .inr h2
  have hs := h.turned.size
  refine ⟨hi, h.ws.turned ht (fun k e m => (h.ap4 k e).1 m), h.th.turned ht (fun k e m => (h.ap5 k e).1 m), fun k e => ⟨fun m => ?_, (h.ap4 k e).2⟩, fun k e => ⟨fun m => ?_, (h.ap5 k e).2⟩, fun k m => ?_, h.turned.step ht (fun i hi m => by have := h.fr i m; omega)⟩
  · rcases hm k m with m | m
    · exact (h.ap4 k e).1 m
    · have := h.ws.lt k e; omega
  · rcases hm k m with m | m
    · exact (h.ap5 k e).1 m
    · have := h.th.lt k e; omega
  · rcases hm k m with m | m
    · exact h.fr k m
    · omega
theorem PlayIn.wsUp (h : PlayIn w0 xb mb v v4 v5 ks kw nt gi gt w) {x : Key} {g cap : Nat} {o : Obj} (hr : Row w' 35 4 (.slice (some ⟨g, 0, none⟩) (kw.length + 1) cap) (kw.length + 1) (kw.flatMap Key.cells ++ x.cells)) (ht : Turned (fun j => v4.ownBlock = some j) (w.alloc o) w') (hl : some g = v4.ownBlock ∨ g = (w.alloc o).heap.size) :
    PlayIn w0 xb mb v (.slice (some ⟨g, 0, none⟩) (kw.length + 1) cap) v5 ks (kw ++ [x]) nt gi gt w' := by
  have hs := h.turned.size
  have hlt := h.idx.lt
  have hs1 : (w.alloc o).heap.size = w.heap.size + 1 := by simp
  have T0 : Turned (fun j => v4.ownBlock = some j) w w' := ((Turned.refl _ w).alloc o).trans ht
  refine ⟨h.idx.turned T0 (fun k _ e m => (h.ap4 k e).1 m), ?_, h.th.turned T0 (fun k e m => (h.ap5 k e).2.1 m), fun k e => ?_, fun k e => ⟨(h.ap5 k e).1, fun e2 => ?_, (h.ap5 k e).2.2⟩, h.fr, h.turned.step T0 (fun i hi e => by have := (h.ap4 i e).2; omega)⟩
  · rw [List.length_append, List.length_singleton, List.flatMap_append, List.flatMap_cons, List.flatMap_nil, List.append_nil]
    exact hr
  · simp [Value.ownBlock] at e
    subst e
    rcases hl with e | e
    · exact h.ap4 _ e.symm
    · exact ⟨fun m => by have := hlt _ m; omega, by omega⟩
  · simp [Value.ownBlock] at e2
    subst e2
    rcases hl with e2 | e2
    · exact (h.ap5 _ e).2.1 e2.symm
    · have := h.th.lt _ e; omega
theorem PlayIn.thUp (h : PlayIn w0 xb mb v v4 v5 ks kw nt gi gt w) {g cap : Nat} {o : Obj} (hr : Row w' 4 1 (.slice (some ⟨g, 0, none⟩) (nt + 1) cap) (nt + 1) (ths nt gt ++ [.bool true])) (ht : Turned (fun j => v5.ownBlock = some j) (w.alloc o) w') (hl : some g = v5.ownBlock ∨ g = (w.alloc o).heap.size) (hg : ∀ g ∈ gt, g < (nt : Int)) :
    PlayIn w0 xb mb v v4 (.slice (some ⟨g, 0, none⟩) (nt + 1) cap) ks kw (nt + 1) gi gt w' := by
  have hs := h.turned.size
  have hlt := h.idx.lt
  have hs1 : (w.alloc o).heap.size = w.heap.size + 1 := by simp
  have T0 : Turned (fun j => v5.ownBlock = some j) w w' := ((Turned.refl _ w).alloc o).trans ht
  refine ⟨h.idx.turned T0 (fun k _ e m => (h.ap5 k e).1 m), h.ws.turned T0 (fun k e m => (h.ap5 k m).2.1 e), ?_, h.ap4, fun k e => ?_, h.fr, h.turned.step T0 (fun i hi e => by have := (h.ap5 i e).2.2; omega)⟩
  · rw [ths_snoc hg]
    exact hr
  · simp [Value.ownBlock] at e
    subst e
    rcases hl with e | e
    · exact h.ap5 _ e.symm
    · exact ⟨fun m => by have := hlt _ m; omega, fun e2 => by have := h.ws.lt _ e2; omega, by omega⟩
theorem PlayIn.thOff {g cap : Nat} (h : PlayIn w0 xb mb v v4 (.slice (some ⟨g, 0, none⟩) nt cap) ks kw nt gi gt w) {m : Nat} (hm : m < nt) :
    PlayIn w0 xb mb v v4 (.slice (some ⟨g, 0, none⟩) nt cap) ks kw nt gi (gt ++ [(m : Int)]) (w.setCell ⟨g, m, none⟩ (.bool false)) := by
  have T0 : Turned (fun j => j = g) w (w.setCell ⟨g, m, none⟩ (.bool false)) := (Turned.refl (fun j => j = g) w).setCell (.inr rfl) _
  have hg := h.ap5 g rfl
  refine ⟨h.idx.turned T0 (fun k _ e m => hg.1 (e ▸ m)), h.ws.turned T0 (fun k e m => hg.2.1 (m ▸ e)), ?_, h.ap4, h.ap5, h.fr, h.turned.setCell (.inl hg.2.2) _⟩
  rw [ths_drop hm]
  exact h.th.set1 rfl hm _
end

/-- The act's box. -/
def Box6 (g : Nat) (a : Act2) (w : World) : Prop := w.heap[g]? = some (.cells #[.int .i64 a.op, .int .i64 a.i, .int .i64 a.k.kind, .int .i64 a.k.n, .string a.k.name, .int .i64 a.k.arity] 58 (0, 0))
theorem Box6.made (w : World) (a : Act2) : Box6 w.heap.size a (w.alloc (.cells #[.int .i64 a.op, .int .i64 a.i, .int .i64 a.k.kind, .int .i64 a.k.n, .string a.k.name, .int .i64 a.k.arity] 58)) := heap_alloc_new w _
theorem Box6.lt {g : Nat} {a : Act2} {w : World} (h : Box6 g a w) : g < w.heap.size := (Array.getElem?_eq_some_iff.1 h).1
theorem Box6.turned {g : Nat} {a : Act2} {S : Nat → Prop} {w w' : World} (h : Box6 g a w) (ht : Turned S w w') (hS : ¬ S g) : Box6 g a w' := (ht.block g h.lt hS).trans h
theorem Box6.turned0 {g : Nat} {a : Act2} {w w' : World} (h : Box6 g a w) (ht : Turned (fun _ => False) w w') : Box6 g a w' := h.turned ht (fun f => f)
theorem Box6.key {g : Nat} {a : Act2} {w : World} (h : Box6 g a w) : w.cell? ⟨g, 2, none⟩ = some (.int .i64 a.k.kind) ∧ w.cell? ⟨g, 3, none⟩ = some (.int .i64 a.k.n) ∧ w.cell? ⟨g, 4, none⟩ = some (.string a.k.name) ∧ w.cell? ⟨g, 5, none⟩ = some (.int .i64 a.k.arity) :=
  ⟨cell_of_row w g 2 _ 58 (0, 0) h, cell_of_row w g 3 _ 58 (0, 0) h, cell_of_row w g 4 _ 58 (0, 0) h, cell_of_row w g 5 _ 58 (0, 0) h⟩
theorem Box6.i {g : Nat} {a : Act2} {w : World} (h : Box6 g a w) : w.cell? ⟨g, 1, none⟩ = some (.int .i64 a.i) := cell_of_row w g 1 _ 58 (0, 0) h
theorem Box6.op {g : Nat} {a : Act2} {w : World} (h : Box6 g a w) : w.cell? ⟨g, 0, none⟩ = some (.int .i64 a.op) := cell_of_row w g 0 _ 58 (0, 0) h

/-- The two lists that the law gathers by itself. -/
structure WantIn (wc : World) (v9 v10 : Value) (xs ys : List Int) (w : World) : Prop where
  want : Row w 3 1 v9 xs.length (xs.map (Value.int .i64))
  all : Row w 3 1 v10 ys.length (ys.map (Value.int .i64))
  ap9 : ∀ k, v9.ownBlock = some k → wc.heap.size ≤ k
  ap10 : ∀ k, v10.ownBlock = some k → wc.heap.size ≤ k ∧ v9.ownBlock ≠ some k
  turned : Turned (fun _ => False) wc w
section
variable {wc w w' : World} {v9 v10 : Value} {xs ys : List Int}
theorem WantIn.turned0 (h : WantIn wc v9 v10 xs ys w) (ht : Turned (fun _ => False) w w') : WantIn wc v9 v10 xs ys w' :=
  ⟨h.want.turned0 ht, h.all.turned0 ht, h.ap9, h.ap10, h.turned.trans ht⟩
theorem WantIn.allUp (h : WantIn wc v9 v10 xs ys w) {p : Int} {g cap : Nat} {o : Obj} (hr : Row w' 3 1 (.slice (some ⟨g, 0, none⟩) (ys.length + 1) cap) (ys.length + 1) (ys.map (Value.int .i64) ++ [.int .i64 p])) (ht : Turned (fun j => v10.ownBlock = some j) (w.alloc o) w') (hl : some g = v10.ownBlock ∨ g = (w.alloc o).heap.size) :
    WantIn wc v9 (.slice (some ⟨g, 0, none⟩) (ys.length + 1) cap) xs (ys ++ [p]) w' := by
  have hs := h.turned.size
  have hs1 : (w.alloc o).heap.size = w.heap.size + 1 := by simp
  have T0 : Turned (fun j => v10.ownBlock = some j) w w' := ((Turned.refl _ w).alloc o).trans ht
  refine ⟨h.want.turned T0 (fun k e m => (h.ap10 k m).2 e), ?_, h.ap9, fun k e => ?_, h.turned.step T0 (fun i hi e => by have := (h.ap10 i e).1; omega)⟩
  · rw [List.length_append, List.length_singleton, List.map_append]
    exact hr
  · simp [Value.ownBlock] at e
    subst e
    rcases hl with e | e
    · exact h.ap10 _ e.symm
    · exact ⟨by omega, fun e2 => by have := h.want.lt _ e2; omega⟩
theorem WantIn.wantUp (h : WantIn wc v9 v10 xs ys w) {p : Int} {g cap : Nat} {o : Obj} (hr : Row w' 3 1 (.slice (some ⟨g, 0, none⟩) (xs.length + 1) cap) (xs.length + 1) (xs.map (Value.int .i64) ++ [.int .i64 p])) (ht : Turned (fun j => v9.ownBlock = some j) (w.alloc o) w') (hl : some g = v9.ownBlock ∨ g = (w.alloc o).heap.size) :
    WantIn wc (.slice (some ⟨g, 0, none⟩) (xs.length + 1) cap) v10 (xs ++ [p]) ys w' := by
  have hs := h.turned.size
  have hs1 : (w.alloc o).heap.size = w.heap.size + 1 := by simp
  have T0 : Turned (fun j => v9.ownBlock = some j) w w' := ((Turned.refl _ w).alloc o).trans ht
  refine ⟨?_, h.all.turned T0 (fun k e m => (h.ap10 k e).2 m), fun k e => ?_, fun k e => ⟨(h.ap10 k e).1, fun e2 => ?_⟩, h.turned.step T0 (fun i hi e => by have := h.ap9 i e; omega)⟩
  · rw [List.length_append, List.length_singleton, List.map_append]
    exact hr
  · simp [Value.ownBlock] at e
    subst e
    rcases hl with e | e
    · exact h.ap9 _ e.symm
    · omega
  · simp [Value.ownBlock] at e2
    subst e2
    rcases hl with e2 | e2
    · exact (h.ap10 _ e).2 e2.symm
    · have := h.all.lt _ e; omega
end
theorem pickB_take {K x : Key} {ks : List Key} {k : Nat} (h : ks[k]? = some x) : pickB K (ks.take (k + 1)) 0 = if mayB x K then pickB K (ks.take k) 0 ++ [(k : Int)] else pickB K (ks.take k) 0 := by
  have hl := (List.getElem?_eq_some_iff.1 h).1
  rw [take_snoc' _ _ _ h, pickB_snoc, List.length_take, Nat.zero_add, Nat.min_eq_left (by omega)]
  split <;> simp
theorem thereB_snoc (gone l : List Int) (p : Int) : thereB gone (l ++ [p]) = if decide (p ∈ gone) then thereB gone l else thereB gone l ++ [p] := by
  unfold thereB
  rw [List.filter_append]
  by_cases h : p ∈ gone <;> simp [h]
theorem thereB_le (gone l : List Int) : (thereB gone l).length ≤ l.length := List.length_filter_le ..
end Go.Proofs.Ytoihjobdfjajfaa
