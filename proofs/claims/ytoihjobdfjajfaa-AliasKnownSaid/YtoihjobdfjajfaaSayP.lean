/- What is told of terms and lists of terms for walks that hold them: the head of Says, on its own. -/
import Derived.Test.YtoihjobdfjajfaaItems1
import Derived.Test.YtoihjobdfjajfaaTwin
import Derived.Test.YtoihjobdfjajfaaOwn44
import Derived.Test.YtoihjobdfjajfaaRef2
import Derived.Test.YtoihjobdfjajfaaAw7
namespace Go.Proofs.Ytoihjobdfjajfaa
set_option linter.unusedVariables false
set_option linter.unusedSimpArgs false
open Go.RowKit
theorem deep_depth {α : Type} (k : Nat) : ∀ t : Tm α, deepB k t = false → t.depth ≤ k := by
  induction k with
  | zero => intro t h; simp [deepB] at h
  | succ k ih =>
    intro t h
    simp only [deepB, Bool.or_eq_false_iff, List.any_eq_false] at h
    rw [Tm.depth_eq]
    have : ∀ l : List (Tm α), (∀ x ∈ l, x.depth ≤ k) → Tm.depths l ≤ k := by
      intro l
      induction l with
      | nil => intro _; simp [Tm.depths]
      | cons x l il =>
        intro hl
        simp only [Tm.depths]
        have h1 := hl x (List.mem_cons_self ..)
        have h2 := il (fun y hy => hl y (List.mem_cons_of_mem _ hy))
        omega
    have := this t.args (fun x hx => ih x (by simpa using h.2 x hx))
    omega
theorem deepI33 (t : LT) (W : World) (h : t.In (fun _ => True) W) : Calls Try.prog 33 #[t.val, .int .i64 70] W fun e w' => e = .returned (.bool (deepB 70 t)) ∧ Turned (fun _ => False) W w' := deep33 (fun _ => True) 70 t W (by omega) h
/-- A call of own has been. -/
def OneS (wr : World) (t : LT) : List Value → World → Prop
  | [], W => Turned (fun _ => False) wr W
  | [uv], W => Turned (fun _ => False) wr W ∧ ∃ u : LT, uv = u.val ∧ u.bare = t.bare ∧ u.In (fun _ => True) W
  | _, _ => False
theorem OneS.turned {wr : World} {t : LT} : ∀ (hs : List Value) (W : World), OneS wr t hs W → Turned (fun _ => False) wr W
  | [], _, h => h
  | [_], _, h => h.1
  | _ :: _ :: _, _, h => h.elim
theorem OneS.turned0 {wr : World} {t : LT} : ∀ (hs : List Value) (w w' : World), OneS wr t hs w → Turned (fun _ => False) w w' → OneS wr t hs w'
  | [], _, _, h, ht => Turned.trans h ht
  | [_], _, _, h, ht => by obtain ⟨h1, u, h2, h3, h4⟩ := h; exact ⟨h1.trans ht, u, h2, h3, h4.turned0 ht⟩
  | _ :: _ :: _, _, _, h, _ => h.elim
theorem OneS.at {wr W : World} {t : LT} {hs : List Value} (h : OneS wr t hs W) {v : Value} (hv : hs[0]? = some v) : ∃ u : LT, v = u.val ∧ u.bare = t.bare ∧ u.In (fun _ => True) W := by
  match hs, h, hv with
  | [_], h, hv => simp at hv; subst hv; exact h.2
theorem same_of_bare {α β : Type} {a : Tm α} {b : Tm β} (h : a.bare = b.bare) : Tm.same a b = true := (Tm.same_iff a b).2 h
/-- Both calls of Vars have been. -/
def VarsS (wr : World) (xs : List Int) : List Value → World → Prop
  | [], W => Turned (fun _ => False) wr W
  | [v], W => Turned (fun _ => False) wr W ∧ Row W 2 1 v xs.length (xs.map (Value.int .i64))
  | [v, v'], W => Turned (fun _ => False) wr W ∧ Row W 2 1 v xs.length (xs.map (Value.int .i64)) ∧ Row W 2 1 v' xs.length (xs.map (Value.int .i64))
  | _, _ => False
theorem VarsS.turned {wr : World} {xs : List Int} : ∀ (hs : List Value) (W : World), VarsS wr xs hs W → Turned (fun _ => False) wr W
  | [], _, h => h
  | [_], _, h => h.1
  | [_, _], _, h => h.1
  | _ :: _ :: _ :: _, _, h => h.elim
theorem VarsS.turned0 {wr : World} {xs : List Int} : ∀ (hs : List Value) (w w' : World), VarsS wr xs hs w → Turned (fun _ => False) w w' → VarsS wr xs hs w'
  | [], _, _, h, ht => Turned.trans h ht
  | [_], _, _, h, ht => ⟨h.1.trans ht, h.2.turned0 ht⟩
  | [_, _], _, _, h, ht => ⟨h.1.trans ht, h.2.1.turned0 ht, h.2.2.turned0 ht⟩
  | _ :: _ :: _ :: _, _, _, h, _ => h.elim
theorem VarsS.both {wr W : World} {xs : List Int} {hs : List Value} (h : VarsS wr xs hs W) {v v' : Value} (hv : hs[0]? = some v) (hv' : hs[1]? = some v') : Row W 2 1 v xs.length (xs.map (Value.int .i64)) ∧ Row W 2 1 v' xs.length (xs.map (Value.int .i64)) := by
  match hs, h, hv, hv' with
  | [_, _], h, hv, hv' => simp at hv hv'; subst hv hv'; exact h.2
theorem itemsV46 {p : Nat → Prop} {t : LT} {w : World} (ht : t.In p w) (hsl : slim t) : Calls Try.prog 46 #[t.val] w fun e w' => ∃ (va : Option Addr) (vc : Nat) (us : List LT) (y : LT), e = .returned (.tuple #[.slice va us.length vc, .agg #[.int .i64 y.kind, .int .i64 y.n, .string y.name, .slice y.at_.1 y.args.length y.at_.2]]) ∧ (us, y) = (if goodB t then Tm.items t else ([], t)) ∧ Row w' 27 4 (.slice va us.length vc) us.length (us.flatMap LT.cells) ∧ Turned (fun _ => False) w w' := by
  refine (items46 ht hsl trivial).mono ?_
  rintro e w' ⟨v, us, y, rfl, h1, h2, _, h4⟩
  obtain ⟨va, vc, rfl⟩ := h2.shape
  exact ⟨va, vc, us, y, by rw [LT.val_eq], h1, h2, h4⟩
theorem itemsV47 {p : Nat → Prop} {t : LT} {w : World} (ht : t.In p w) (hsl : slim t) (hd : t.depth ≤ 60000) : Calls Try.prog 47 #[t.val] w fun e w' => ∃ (va : Option Addr) (vc : Nat) (us : List LT) (y : LT), e = .returned (.tuple #[.slice va us.length vc, .agg #[.int .i64 y.kind, .int .i64 y.n, .string y.name, .slice y.at_.1 y.args.length y.at_.2]]) ∧ (us, y) = Tm.items t ∧ Row w' 41 4 (.slice va us.length vc) us.length (us.flatMap LT.cells) ∧ Turned (fun _ => False) w w' := by
  refine (items47 ht hsl hd).mono ?_
  rintro e w' ⟨v, us, y, rfl, h1, h2, _, h4⟩
  obtain ⟨va, vc, rfl⟩ := h2.shape
  exact ⟨va, vc, us, y, by rw [LT.val_eq], h1, h2, h4⟩
/-- What lies in memory when all has been laid. -/
structure SaysI (A B gx gy bT bE : Nat) (a b x y tl en : LT) (us vs : List LT) (lv mv : Value) (W : World) : Prop where
  ca : (W.cell? ⟨A, 0, none⟩ = some (.int .i64 a.kind) ∧ W.cell? ⟨A, 1, none⟩ = some (.int .i64 a.n) ∧ W.cell? ⟨A, 2, none⟩ = some (.string a.name) ∧ W.cell? ⟨A, 3, none⟩ = some (.slice a.at_.1 a.args.length a.at_.2))
  cb : (W.cell? ⟨B, 0, none⟩ = some (.int .i64 b.kind) ∧ W.cell? ⟨B, 1, none⟩ = some (.int .i64 b.n) ∧ W.cell? ⟨B, 2, none⟩ = some (.string b.name) ∧ W.cell? ⟨B, 3, none⟩ = some (.slice b.at_.1 b.args.length b.at_.2))
  cx : (W.cell? ⟨gx, 0, none⟩ = some (.int .i64 x.kind) ∧ W.cell? ⟨gx, 1, none⟩ = some (.int .i64 x.n) ∧ W.cell? ⟨gx, 2, none⟩ = some (.string x.name) ∧ W.cell? ⟨gx, 3, none⟩ = some (.slice x.at_.1 x.args.length x.at_.2))
  cy : (W.cell? ⟨gy, 0, none⟩ = some (.int .i64 y.kind) ∧ W.cell? ⟨gy, 1, none⟩ = some (.int .i64 y.n) ∧ W.cell? ⟨gy, 2, none⟩ = some (.string y.name) ∧ W.cell? ⟨gy, 3, none⟩ = some (.slice y.at_.1 y.args.length y.at_.2))
  ct : (W.cell? ⟨bT, 0, none⟩ = some (.int .i64 tl.kind) ∧ W.cell? ⟨bT, 1, none⟩ = some (.int .i64 tl.n) ∧ W.cell? ⟨bT, 2, none⟩ = some (.string tl.name) ∧ W.cell? ⟨bT, 3, none⟩ = some (.slice tl.at_.1 tl.args.length tl.at_.2))
  ce : (W.cell? ⟨bE, 0, none⟩ = some (.int .i64 en.kind) ∧ W.cell? ⟨bE, 1, none⟩ = some (.int .i64 en.n) ∧ W.cell? ⟨bE, 2, none⟩ = some (.string en.name) ∧ W.cell? ⟨bE, 3, none⟩ = some (.slice en.at_.1 en.args.length en.at_.2))
  ia : a.In (fun _ => True) W
  ib : b.In (fun _ => True) W
  ix : x.In (fun _ => True) W
  iy : y.In (fun _ => True) W
  it : tl.In (fun _ => True) W
  ie : en.In (fun _ => True) W
  iu : ∀ u ∈ us, LT.In (fun _ => True) W u
  iv : ∀ u ∈ vs, LT.In (fun _ => True) W u
  rl : Row W 27 4 lv us.length (us.flatMap LT.cells)
  rm : Row W 41 4 mv vs.length (vs.flatMap LT.cells)
theorem SaysI.turned0 {A B gx gy bT bE : Nat} {a b x y tl en : LT} {us vs : List LT} {lv mv : Value} {W W' : World} (h : SaysI A B gx gy bT bE a b x y tl en us vs lv mv W) (T : Turned (fun _ => False) W W') : SaysI A B gx gy bT bE a b x y tl en us vs lv mv W' :=
  ⟨⟨T.cell0 h.ca.1, T.cell0 h.ca.2.1, T.cell0 h.ca.2.2.1, T.cell0 h.ca.2.2.2⟩, ⟨T.cell0 h.cb.1, T.cell0 h.cb.2.1, T.cell0 h.cb.2.2.1, T.cell0 h.cb.2.2.2⟩, ⟨T.cell0 h.cx.1, T.cell0 h.cx.2.1, T.cell0 h.cx.2.2.1, T.cell0 h.cx.2.2.2⟩, ⟨T.cell0 h.cy.1, T.cell0 h.cy.2.1, T.cell0 h.cy.2.2.1, T.cell0 h.cy.2.2.2⟩, ⟨T.cell0 h.ct.1, T.cell0 h.ct.2.1, T.cell0 h.ct.2.2.1, T.cell0 h.ct.2.2.2⟩, ⟨T.cell0 h.ce.1, T.cell0 h.ce.2.1, T.cell0 h.ce.2.2.1, T.cell0 h.ce.2.2.2⟩,
   h.ia.turned0 T, h.ib.turned0 T, h.ix.turned0 T, h.iy.turned0 T, h.it.turned0 T, h.ie.turned0 T, fun u hu => (h.iu u hu).turned0 T, fun u hu => (h.iv u hu).turned0 T, h.rl.turned0 T, h.rm.turned0 T⟩
theorem row_at {w : World} {ty : TypeId} {la : Option Addr} {n c : Nat} {us : List LT} (h : Row w ty 4 (.slice la n c) n (us.flatMap LT.cells)) {j : Nat} {u : LT} (hj : us[j]? = some u) : ∃ g, la = some ⟨g, 0, none⟩ ∧ w.cell? ⟨g, j * 4, none⟩ = some (.int .i64 u.kind) ∧ w.cell? ⟨g, j * 4 + 1, none⟩ = some (.int .i64 u.n) ∧ w.cell? ⟨g, j * 4 + 2, none⟩ = some (.string u.name) ∧ w.cell? ⟨g, j * 4 + 3, none⟩ = some (.slice u.at_.1 u.args.length u.at_.2) := by
  have hn : n = us.length := by have := h.1; rw [LT.flat_length] at this; omega
  obtain ⟨g, q, e⟩ := h.shape_pos (by have := (List.getElem?_eq_some_iff.1 hj).1; omega)
  injection e with e1 _ e2
  subst e1 e2
  refine ⟨g, rfl, ?_, ?_, ?_, ?_⟩
  · have := LT.flat_at hj 0 (by omega); rw [Nat.add_zero] at this; exact h.cells rfl _ _ (by rw [this, LT.cells_eq]; rfl)
  · exact h.cells rfl _ _ (by rw [LT.flat_at hj 1 (by omega), LT.cells_eq]; rfl)
  · exact h.cells rfl _ _ (by rw [LT.flat_at hj 2 (by omega), LT.cells_eq]; rfl)
  · exact h.cells rfl _ _ (by rw [LT.flat_at hj 3 (by omega), LT.cells_eq]; rfl)
theorem varsV34 {p : Nat → Prop} {t : LT} {w : World} (ht : t.In p w) (hs : slim t) : Calls Try.prog 34 #[t.val] w fun e w' => ∃ v, e = .returned v ∧ Row w' 2 1 v (varsB t).length ((varsB t).map (Value.int .i64)) ∧ Turned (fun _ => False) w w' := by
  refine (vars34 ht hs).mono ?_
  rintro e w' ⟨v, rfl, h1, _, h2⟩
  exact ⟨v, rfl, h1, h2⟩
theorem varsV51 {p : Nat → Prop} {t : LT} {w : World} (ht : t.In p w) : Calls Try.prog 51 #[t.val] w fun e w' => ∃ v, e = .returned v ∧ Row w' 2 1 v (varsB t).length ((varsB t).map (Value.int .i64)) ∧ Turned (fun _ => False) w w' := by
  refine (rVars51 ht).mono ?_
  rintro e w' ⟨v, rfl, h1, _, h2⟩
  exact ⟨v, rfl, h1, h2⟩
theorem bare_at {us vs : List LT} (h : us.map Tm.bare = vs.map Tm.bare) {j : Nat} {u z : LT} (hu : us[j]? = some u) (hz : vs[j]? = some z) : u.bare = z.bare := by
  have e1 : (us.map Tm.bare)[j]? = some u.bare := by rw [List.getElem?_map, hu]; rfl
  have e2 : (vs.map Tm.bare)[j]? = some z.bare := by rw [List.getElem?_map, hz]; rfl
  rw [h, e2] at e1
  injection e1 with e1
  exact e1.symm
theorem twoBox (w : World) (x y : Obj) : Turned (fun _ => False) w ((w.alloc x).alloc y) ∧ ((w.alloc x).alloc y).heap.size = w.heap.size + 2 ∧ ((w.alloc x).alloc y).heap[w.heap.size]? = some x ∧ ((w.alloc x).alloc y).heap[w.heap.size + 1]? = some y :=
  ⟨((Turned.refl _ w).alloc _).alloc _, by simp, heap_alloc2_old w x y, heap_alloc2_new w x y⟩
theorem four_of {W : World} {g : Nat} {x : LT} {T : TypeId} (h : W.heap[g]? = some (.cells #[.int .i64 x.kind, .int .i64 x.n, .string x.name, .slice x.at_.1 x.args.length x.at_.2] T (0, 0))) : (W.cell? ⟨g, 0, none⟩ = some (.int .i64 x.kind) ∧ W.cell? ⟨g, 1, none⟩ = some (.int .i64 x.n) ∧ W.cell? ⟨g, 2, none⟩ = some (.string x.name) ∧ W.cell? ⟨g, 3, none⟩ = some (.slice x.at_.1 x.args.length x.at_.2)) :=
  let ⟨a, b, c, d, _⟩ := cells4 h
  ⟨a, b, c, d⟩
/-- Slim all over. -/
theorem slim_flat {α : Type} {t x : Tm α} (h : slim t) (hx : x ∈ t.flat) : slim x := fun y hy => h y (mem_flat_trans hx hy)
end Go.Proofs.Ytoihjobdfjajfaa
