/- TermSays: the walk. -/
import Derived.Test.YtoihjobdfjajfaaItems1
import Derived.Test.YtoihjobdfjajfaaTwin
import Derived.Test.YtoihjobdfjajfaaOwn44
import Derived.Test.YtoihjobdfjajfaaRef2
import Derived.Test.YtoihjobdfjajfaaAw7
namespace Go.Proofs.Ytoihjobdfjajfaa
set_option linter.unusedVariables false
set_option linter.unusedSimpArgs false
open Go.RowKit
theorem deep_depth {α : Type} (k : Nat) : ∀ t : Tm α, deepB k t = false → t.depth ≤ k := by
  induction k with
  | zero => intro t h; simp [deepB] at h
  | succ k ih =>
    intro t h
    simp only [deepB, Bool.or_eq_false_iff, List.any_eq_false] at h
    rw [Tm.depth_eq]
    have : ∀ l : List (Tm α), (∀ x ∈ l, x.depth ≤ k) → Tm.depths l ≤ k := by
      intro l
      induction l with
      | nil => intro _; simp [Tm.depths]
      | cons x l il =>
        intro hl
        simp only [Tm.depths]
        have h1 := hl x (List.mem_cons_self ..)
        have h2 := il (fun y hy => hl y (List.mem_cons_of_mem _ hy))
        omega
    have := this t.args (fun x hx => ih x (by simpa using h.2 x hx))
    omega
theorem deepI33 (t : LT) (W : World) (h : t.In (fun _ => True) W) : Calls Try.prog 33 #[t.val, .int .i64 70] W fun e w' => e = .returned (.bool (deepB 70 t)) ∧ Turned (fun _ => False) W w' := deep33 (fun _ => True) 70 t W (by omega) h
/-- A call of own has been. -/
def OneS (wr : World) (t : LT) : List Value → World → Prop
  | [], W => Turned (fun _ => False) wr W
  | [uv], W => Turned (fun _ => False) wr W ∧ ∃ u : LT, uv = u.val ∧ u.bare = t.bare ∧ u.In (fun _ => True) W
  | _, _ => False
theorem OneS.turned {wr : World} {t : LT} : ∀ (hs : List Value) (W : World), OneS wr t hs W → Turned (fun _ => False) wr W
  | [], _, h => h
  | [_], _, h => h.1
  | _ :: _ :: _, _, h => h.elim
theorem OneS.turned0 {wr : World} {t : LT} : ∀ (hs : List Value) (w w' : World), OneS wr t hs w → Turned (fun _ => False) w w' → OneS wr t hs w'
  | [], _, _, h, ht => Turned.trans h ht
  | [_], _, _, h, ht => by obtain ⟨h1, u, h2, h3, h4⟩ := h; exact ⟨h1.trans ht, u, h2, h3, h4.turned0 ht⟩
  | _ :: _ :: _, _, _, h, _ => h.elim
theorem OneS.at {wr W : World} {t : LT} {hs : List Value} (h : OneS wr t hs W) {v : Value} (hv : hs[0]? = some v) : ∃ u : LT, v = u.val ∧ u.bare = t.bare ∧ u.In (fun _ => True) W := by
  match hs, h, hv with
  | [_], h, hv => simp at hv; subst hv; exact h.2
theorem same_of_bare {α β : Type} {a : Tm α} {b : Tm β} (h : a.bare = b.bare) : Tm.same a b = true := (Tm.same_iff a b).2 h
/-- Both calls of Vars have been. -/
def VarsS (wr : World) (xs : List Int) : List Value → World → Prop
  | [], W => Turned (fun _ => False) wr W
  | [v], W => Turned (fun _ => False) wr W ∧ Row W 2 1 v xs.length (xs.map (Value.int .i64))
  | [v, v'], W => Turned (fun _ => False) wr W ∧ Row W 2 1 v xs.length (xs.map (Value.int .i64)) ∧ Row W 2 1 v' xs.length (xs.map (Value.int .i64))
  | _, _ => False
theorem VarsS.turned {wr : World} {xs : List Int} : ∀ (hs : List Value) (W : World), VarsS wr xs hs W → Turned (fun _ => False) wr W
  | [], _, h => h
  | [_], _, h => h.1
  | [_, _], _, h => h.1
  | _ :: _ :: _ :: _, _, h => h.elim
theorem VarsS.turned0 {wr : World} {xs : List Int} : ∀ (hs : List Value) (w w' : World), VarsS wr xs hs w → Turned (fun _ => False) w w' → VarsS wr xs hs w'
  | [], _, _, h, ht => Turned.trans h ht
  | [_], _, _, h, ht => ⟨h.1.trans ht, h.2.turned0 ht⟩
  | [_, _], _, _, h, ht => ⟨h.1.trans ht, h.2.1.turned0 ht, h.2.2.turned0 ht⟩
  | _ :: _ :: _ :: _, _, _, h, _ => h.elim
theorem VarsS.both {wr W : World} {xs : List Int} {hs : List Value} (h : VarsS wr xs hs W) {v v' : Value} (hv : hs[0]? = some v) (hv' : hs[1]? = some v') : Row W 2 1 v xs.length (xs.map (Value.int .i64)) ∧ Row W 2 1 v' xs.length (xs.map (Value.int .i64)) := by
  match hs, h, hv, hv' with
  | [_, _], h, hv, hv' => simp at hv hv'; subst hv hv'; exact h.2
theorem itemsV46 {p : Nat → Prop} {t : LT} {w : World} (ht : t.In p w) (hsl : slim t) : Calls Try.prog 46 #[t.val] w fun e w' => ∃ (va : Option Addr) (vc : Nat) (us : List LT) (y : LT), e = .returned (.tuple #[.slice va us.length vc, .agg #[.int .i64 y.kind, .int .i64 y.n, .string y.name, .slice y.at_.1 y.args.length y.at_.2]]) ∧ (us, y) = (if goodB t then Tm.items t else ([], t)) ∧ Row w' 27 4 (.slice va us.length vc) us.length (us.flatMap LT.cells) ∧ Turned (fun _ => False) w w' := by
  refine (items46 ht hsl trivial).mono ?_
  rintro e w' ⟨v, us, y, rfl, h1, h2, _, h4⟩
  obtain ⟨va, vc, rfl⟩ := h2.shape
  exact ⟨va, vc, us, y, by rw [LT.val_eq], h1, h2, h4⟩
theorem itemsV47 {p : Nat → Prop} {t : LT} {w : World} (ht : t.In p w) (hsl : slim t) (hd : t.depth ≤ 60000) : Calls Try.prog 47 #[t.val] w fun e w' => ∃ (va : Option Addr) (vc : Nat) (us : List LT) (y : LT), e = .returned (.tuple #[.slice va us.length vc, .agg #[.int .i64 y.kind, .int .i64 y.n, .string y.name, .slice y.at_.1 y.args.length y.at_.2]]) ∧ (us, y) = Tm.items t ∧ Row w' 41 4 (.slice va us.length vc) us.length (us.flatMap LT.cells) ∧ Turned (fun _ => False) w w' := by
  refine (items47 ht hsl hd).mono ?_
  rintro e w' ⟨v, us, y, rfl, h1, h2, _, h4⟩
  obtain ⟨va, vc, rfl⟩ := h2.shape
  exact ⟨va, vc, us, y, by rw [LT.val_eq], h1, h2, h4⟩
/-- What lies in memory when all has been laid. -/
structure SaysI (A B gx gy bT bE : Nat) (a b x y tl en : LT) (us vs : List LT) (lv mv : Value) (W : World) : Prop where
  ca : (W.cell? ⟨A, 0, none⟩ = some (.int .i64 a.kind) ∧ W.cell? ⟨A, 1, none⟩ = some (.int .i64 a.n) ∧ W.cell? ⟨A, 2, none⟩ = some (.string a.name) ∧ W.cell? ⟨A, 3, none⟩ = some (.slice a.at_.1 a.args.length a.at_.2))
  cb : (W.cell? ⟨B, 0, none⟩ = some (.int .i64 b.kind) ∧ W.cell? ⟨B, 1, none⟩ = some (.int .i64 b.n) ∧ W.cell? ⟨B, 2, none⟩ = some (.string b.name) ∧ W.cell? ⟨B, 3, none⟩ = some (.slice b.at_.1 b.args.length b.at_.2))
  cx : (W.cell? ⟨gx, 0, none⟩ = some (.int .i64 x.kind) ∧ W.cell? ⟨gx, 1, none⟩ = some (.int .i64 x.n) ∧ W.cell? ⟨gx, 2, none⟩ = some (.string x.name) ∧ W.cell? ⟨gx, 3, none⟩ = some (.slice x.at_.1 x.args.length x.at_.2))
  cy : (W.cell? ⟨gy, 0, none⟩ = some (.int .i64 y.kind) ∧ W.cell? ⟨gy, 1, none⟩ = some (.int .i64 y.n) ∧ W.cell? ⟨gy, 2, none⟩ = some (.string y.name) ∧ W.cell? ⟨gy, 3, none⟩ = some (.slice y.at_.1 y.args.length y.at_.2))
  ct : (W.cell? ⟨bT, 0, none⟩ = some (.int .i64 tl.kind) ∧ W.cell? ⟨bT, 1, none⟩ = some (.int .i64 tl.n) ∧ W.cell? ⟨bT, 2, none⟩ = some (.string tl.name) ∧ W.cell? ⟨bT, 3, none⟩ = some (.slice tl.at_.1 tl.args.length tl.at_.2))
  ce : (W.cell? ⟨bE, 0, none⟩ = some (.int .i64 en.kind) ∧ W.cell? ⟨bE, 1, none⟩ = some (.int .i64 en.n) ∧ W.cell? ⟨bE, 2, none⟩ = some (.string en.name) ∧ W.cell? ⟨bE, 3, none⟩ = some (.slice en.at_.1 en.args.length en.at_.2))
  ia : a.In (fun _ => True) W
  ib : b.In (fun _ => True) W
  ix : x.In (fun _ => True) W
  iy : y.In (fun _ => True) W
  it : tl.In (fun _ => True) W
  ie : en.In (fun _ => True) W
  iu : ∀ u ∈ us, LT.In (fun _ => True) W u
  iv : ∀ u ∈ vs, LT.In (fun _ => True) W u
  rl : Row W 27 4 lv us.length (us.flatMap LT.cells)
  rm : Row W 41 4 mv vs.length (vs.flatMap LT.cells)
theorem SaysI.turned0 {A B gx gy bT bE : Nat} {a b x y tl en : LT} {us vs : List LT} {lv mv : Value} {W W' : World} (h : SaysI A B gx gy bT bE a b x y tl en us vs lv mv W) (T : Turned (fun _ => False) W W') : SaysI A B gx gy bT bE a b x y tl en us vs lv mv W' :=
  ⟨⟨T.cell0 h.ca.1, T.cell0 h.ca.2.1, T.cell0 h.ca.2.2.1, T.cell0 h.ca.2.2.2⟩, ⟨T.cell0 h.cb.1, T.cell0 h.cb.2.1, T.cell0 h.cb.2.2.1, T.cell0 h.cb.2.2.2⟩, ⟨T.cell0 h.cx.1, T.cell0 h.cx.2.1, T.cell0 h.cx.2.2.1, T.cell0 h.cx.2.2.2⟩, ⟨T.cell0 h.cy.1, T.cell0 h.cy.2.1, T.cell0 h.cy.2.2.1, T.cell0 h.cy.2.2.2⟩, ⟨T.cell0 h.ct.1, T.cell0 h.ct.2.1, T.cell0 h.ct.2.2.1, T.cell0 h.ct.2.2.2⟩, ⟨T.cell0 h.ce.1, T.cell0 h.ce.2.1, T.cell0 h.ce.2.2.1, T.cell0 h.ce.2.2.2⟩,
   h.ia.turned0 T, h.ib.turned0 T, h.ix.turned0 T, h.iy.turned0 T, h.it.turned0 T, h.ie.turned0 T, fun u hu => (h.iu u hu).turned0 T, fun u hu => (h.iv u hu).turned0 T, h.rl.turned0 T, h.rm.turned0 T⟩
theorem row_at {w : World} {ty : TypeId} {la : Option Addr} {n c : Nat} {us : List LT} (h : Row w ty 4 (.slice la n c) n (us.flatMap LT.cells)) {j : Nat} {u : LT} (hj : us[j]? = some u) : ∃ g, la = some ⟨g, 0, none⟩ ∧ w.cell? ⟨g, j * 4, none⟩ = some (.int .i64 u.kind) ∧ w.cell? ⟨g, j * 4 + 1, none⟩ = some (.int .i64 u.n) ∧ w.cell? ⟨g, j * 4 + 2, none⟩ = some (.string u.name) ∧ w.cell? ⟨g, j * 4 + 3, none⟩ = some (.slice u.at_.1 u.args.length u.at_.2) := by
  have hn : n = us.length := by have := h.1; rw [LT.flat_length] at this; omega
  obtain ⟨g, q, e⟩ := h.shape_pos (by have := (List.getElem?_eq_some_iff.1 hj).1; omega)
  injection e with e1 _ e2
  subst e1 e2
  refine ⟨g, rfl, ?_, ?_, ?_, ?_⟩
  · have := LT.flat_at hj 0 (by omega); rw [Nat.add_zero] at this; exact h.cells rfl _ _ (by rw [this, LT.cells_eq]; rfl)
  · exact h.cells rfl _ _ (by rw [LT.flat_at hj 1 (by omega), LT.cells_eq]; rfl)
  · exact h.cells rfl _ _ (by rw [LT.flat_at hj 2 (by omega), LT.cells_eq]; rfl)
  · exact h.cells rfl _ _ (by rw [LT.flat_at hj 3 (by omega), LT.cells_eq]; rfl)
theorem varsV34 {p : Nat → Prop} {t : LT} {w : World} (ht : t.In p w) (hs : slim t) : Calls Try.prog 34 #[t.val] w fun e w' => ∃ v, e = .returned v ∧ Row w' 2 1 v (varsB t).length ((varsB t).map (Value.int .i64)) ∧ Turned (fun _ => False) w w' := by
  refine (vars34 ht hs).mono ?_
  rintro e w' ⟨v, rfl, h1, _, h2⟩
  exact ⟨v, rfl, h1, h2⟩
theorem varsV51 {p : Nat → Prop} {t : LT} {w : World} (ht : t.In p w) : Calls Try.prog 51 #[t.val] w fun e w' => ∃ v, e = .returned v ∧ Row w' 2 1 v (varsB t).length ((varsB t).map (Value.int .i64)) ∧ Turned (fun _ => False) w w' := by
  refine (rVars51 ht).mono ?_
  rintro e w' ⟨v, rfl, h1, _, h2⟩
  exact ⟨v, rfl, h1, h2⟩
theorem bare_at {us vs : List LT} (h : us.map Tm.bare = vs.map Tm.bare) {j : Nat} {u z : LT} (hu : us[j]? = some u) (hz : vs[j]? = some z) : u.bare = z.bare := by
  have e1 : (us.map Tm.bare)[j]? = some u.bare := by rw [List.getElem?_map, hu]; rfl
  have e2 : (vs.map Tm.bare)[j]? = some z.bare := by rw [List.getElem?_map, hz]; rfl
  rw [h, e2] at e1
  injection e1 with e1
  exact e1.symm
theorem twoBox (w : World) (x y : Obj) : Turned (fun _ => False) w ((w.alloc x).alloc y) ∧ ((w.alloc x).alloc y).heap.size = w.heap.size + 2 ∧ ((w.alloc x).alloc y).heap[w.heap.size]? = some x ∧ ((w.alloc x).alloc y).heap[w.heap.size + 1]? = some y :=
  ⟨((Turned.refl _ w).alloc _).alloc _, by simp, heap_alloc2_old w x y, heap_alloc2_new w x y⟩
theorem four_of {W : World} {g : Nat} {x : LT} {T : TypeId} (h : W.heap[g]? = some (.cells #[.int .i64 x.kind, .int .i64 x.n, .string x.name, .slice x.at_.1 x.args.length x.at_.2] T (0, 0))) : (W.cell? ⟨g, 0, none⟩ = some (.int .i64 x.kind) ∧ W.cell? ⟨g, 1, none⟩ = some (.int .i64 x.n) ∧ W.cell? ⟨g, 2, none⟩ = some (.string x.name) ∧ W.cell? ⟨g, 3, none⟩ = some (.slice x.at_.1 x.args.length x.at_.2)) :=
  let ⟨a, b, c, d, _⟩ := cells4 h
  ⟨a, b, c, d⟩
/-- Slim all over. -/
theorem slim_flat {α : Type} {t x : Tm α} (h : slim t) (hx : x ∈ t.flat) : slim x := fun y hy => h y (mem_flat_trans hx hy)
set_option maxRecDepth 100000 in
set_option maxHeartbeats 12800000 in
theorem termSays {a b : LT} {w : World} (ha : a.In (fun _ => True) w) (hb : b.In (fun _ => True) w) :
    Calls Try.prog 5 #[a.val, b.val] w fun e w' => e = .returned (.bool true) ∧ Turned (fun _ => False) w w' := by
  obtain ⟨w1, hw1⟩ : ∃ z, z = (w.alloc (.cells #[.int .i64 a.kind, .int .i64 a.n, .string a.name, .slice a.at_.1 a.args.length a.at_.2] 27)).alloc (.cells #[.int .i64 b.kind, .int .i64 b.n, .string b.name, .slice b.at_.1 b.args.length b.at_.2] 27) := ⟨_, rfl⟩
  have h2 := twoBox w (.cells #[.int .i64 a.kind, .int .i64 a.n, .string a.name, .slice a.at_.1 a.args.length a.at_.2] 27) (.cells #[.int .i64 b.kind, .int .i64 b.n, .string b.name, .slice b.at_.1 b.args.length b.at_.2] 27)
  rw [← hw1] at h2
  have hkp : ∀ W, Turned (fun _ => False) w1 W → (W.cell? ⟨w.heap.size, 0, none⟩ = some (.int .i64 a.kind) ∧ W.cell? ⟨w.heap.size, 1, none⟩ = some (.int .i64 a.n) ∧ W.cell? ⟨w.heap.size, 2, none⟩ = some (.string a.name) ∧ W.cell? ⟨w.heap.size, 3, none⟩ = some (.slice a.at_.1 a.args.length a.at_.2)) ∧ (W.cell? ⟨w.heap.size + 1, 0, none⟩ = some (.int .i64 b.kind) ∧ W.cell? ⟨w.heap.size + 1, 1, none⟩ = some (.int .i64 b.n) ∧ W.cell? ⟨w.heap.size + 1, 2, none⟩ = some (.string b.name) ∧ W.cell? ⟨w.heap.size + 1, 3, none⟩ = some (.slice b.at_.1 b.args.length b.at_.2)) := fun W h =>
    ⟨four_of ((h.block _ (by have := h2.2.1; omega) (fun f => f)).trans h2.2.2.1), four_of ((h.block _ (by have := h2.2.1; omega) (fun f => f)).trans h2.2.2.2)⟩
  have ha1 := ha.turned0 h2.1
  have hb1 := hb.turned0 h2.1
  have hda := fun W (h : Turned (fun _ => False) w1 W) => deepI33 a W (ha1.turned0 h)
  have hdb := fun W (h : Turned (fun _ => False) w1 W) => deepI33 b W (hb1.turned0 h)
  rw [LT.val_eq a] at hda ⊢
  rw [LT.val_eq b] at hdb ⊢
  have HDa := Lib.hid hda
  have HDb := Lib.hid hdb
  have HA1 := Lib.hid ha1
  have HB1 := Lib.hid hb1
  have HKP := Lib.hid hkp
  have HT1 := Lib.hid h2.1
  have HW := Lib.hid hw1
  clear hda hdb ha1 hb1 ha hb hkp h2 hw1
  cases da : deepB 70 a with
  | true =>
    rw [da] at HDa
    clear da
    go_enter Try.func5, Try.ntmps5
    go_wp2_with (first
      | (go_at_call 32; refine (awake32 _).mono ?_; rintro e W0 ⟨rfl, T0⟩; rw [← HW.out] at T0; have S0 := T0; obtain ⟨⟨c00, c01, c02, c03⟩, ⟨d00, d01, d02, d03⟩⟩ := HKP.out _ S0)
      | (go_at_call 33; (with_reducible refine (HDa.out _ S0).mono ?_); rintro e W1 ⟨rfl, T1⟩; have S1 := S0.trans T1; obtain ⟨⟨c10, c11, c12, c13⟩, ⟨d10, d11, d12, d13⟩⟩ := HKP.out _ S1))
    go_ret
    exact ⟨rfl, HT1.out.trans S1⟩
  | false =>
  rw [da] at HDa
  have HSa := Lib.hid (deep_slim 70 a da)
  have HDP := Lib.hid (deep_depth 70 a da)
  clear da
  cases db : deepB 70 b with
  | true =>
    rw [db] at HDb
    clear db
    go_enter Try.func5, Try.ntmps5
    go_wp2_with (first
      | (go_at_call 32; refine (awake32 _).mono ?_; rintro e W0 ⟨rfl, T0⟩; rw [← HW.out] at T0; have S0 := T0; obtain ⟨⟨c00, c01, c02, c03⟩, ⟨d00, d01, d02, d03⟩⟩ := HKP.out _ S0)
      | (go_at_call 33; (with_reducible refine (HDa.out _ S0).mono ?_); rintro e W1 ⟨rfl, T1⟩; have S1 := S0.trans T1; obtain ⟨⟨c10, c11, c12, c13⟩, ⟨d10, d11, d12, d13⟩⟩ := HKP.out _ S1)
      | (go_at_call 33; (with_reducible refine (HDb.out _ S1).mono ?_); rintro e W2 ⟨rfl, T2⟩; have S2 := S1.trans T2; obtain ⟨⟨c20, c21, c22, c23⟩, ⟨d20, d21, d22, d23⟩⟩ := HKP.out _ S2))
    go_ret
    exact ⟨rfl, HT1.out.trans S2⟩
  | false =>
  rw [db] at HDb
  have HSb := Lib.hid (deep_slim 70 b db)
  clear db
  have hoa := fun W (h : Turned (fun _ => False) w1 W) => own44 a.depth a W (Nat.le_refl _) (HA1.out.turned0 h) HSa.out
  have hob := fun W (h : Turned (fun _ => False) w1 W) => own44 b.depth b W (Nat.le_refl _) (HB1.out.turned0 h) HSb.out
  rw [LT.val_eq a] at hoa
  rw [LT.val_eq b] at hob
  have HOA := Lib.hid hoa
  have HOB := Lib.hid hob
  clear hoa hob
  go_enter Try.func5, Try.ntmps5
  go_wp2_with (first
    | (go_at_call 32; refine (awake32 _).mono ?_; rintro e W0 ⟨rfl, T0⟩; rw [← HW.out] at T0; have S0 := T0; obtain ⟨⟨c00, c01, c02, c03⟩, ⟨d00, d01, d02, d03⟩⟩ := HKP.out _ S0)
    | (go_at_call 33; (with_reducible refine (HDa.out _ S0).mono ?_); rintro e W1 ⟨rfl, T1⟩; have S1 := S0.trans T1; obtain ⟨⟨c10, c11, c12, c13⟩, ⟨d10, d11, d12, d13⟩⟩ := HKP.out _ S1)
    | (go_at_call 33; (with_reducible refine (HDb.out _ S1).mono ?_); rintro e W2 ⟨rfl, T2⟩; have S2 := S1.trans T2; obtain ⟨⟨c20, c21, c22, c23⟩, ⟨d20, d21, d22, d23⟩⟩ := HKP.out _ S2))
  have S := S2
  clear S0 S1 S2 T0 T1 T2 c00 d00 c01 d01 c02 d02 c03 d03 c10 d10 c11 d11 c12 d12 c13 d13 c20 d20 c21 d21 c22 d22 c23 d23
  refine wp_region_k [23, 24, 25, 26, 5, 6] [1, 3, 4, 5, 6, 7] [(24, 1), (26, 3), (5, 4), (6, 5)] (fun d v => (match d with | 23 => v = .agg #[.int .i64 a.kind, .int .i64 a.n, .string a.name, .slice a.at_.1 a.args.length a.at_.2] | 25 => v = .agg #[.int .i64 b.kind, .int .i64 b.n, .string b.name, .slice b.at_.1 b.args.length b.at_.2] | _ => True : Prop)) (TwinS W2 a b) (by kernel_rfl) rfl (by kernel_rfl) (by kernel_rfl) (fun w h => TwinS.start h) (fun hs w w' h ht => h.turned0 ht) ?hs ?hQ
  case hs =>
    refine ⟨?s0, ?s1, ?s2, ?s3, ?s4, ?s5, ?s6, ?s7, trivial⟩
    case s0 =>
      refine fun hs hl => stepG_free [] [2] (by kernel_rfl) rfl ?_
      intro ac W hT hI hO
      have h : ac.tmps.getD 2 undef = .pointer (some ⟨w.heap.size, 0, none⟩) := hO 2 (by simp)
      show Brings Try.prog (fun v w' => Turned (fun _ => False) W w' ∧ v = .agg #[.int .i64 a.kind, .int .i64 a.n, .string a.name, .slice a.at_.1 a.args.length a.at_.2]) _
      obtain ⟨⟨x0, x1, x2, x3⟩, ⟨y0, y1, y2, y3⟩⟩ := HKP.out W (S.trans hT.turned)
      simp only [execOp, Act.eval, h]
      go_simp
      exact ⟨Turned.refl _ _, rfl⟩
    case s1 =>
      refine fun hs hno hl => stepG_free [23] [] (by kernel_rfl) rfl ?_
      intro ac W hT hI hO
      have h : ac.tmps.getD 23 undef = .agg #[.int .i64 a.kind, .int .i64 a.n, .string a.name, .slice a.at_.1 a.args.length a.at_.2] := hI 23 (by simp)
      show Brings Try.prog (fun v w' => TwinS W2 a b (hs ++ [(1, v)]) w') _
      simp only [execOp, Act.eval, h]
      go_simp
      show Calls Try.prog 44 _ W _
      (with_reducible refine (HOA.out W (S.trans hT.turned)).mono ?_)
      rintro e w' ⟨u, rfl, hb, hu, T'⟩
      exact ⟨_, rfl, hT.call1 hno (fun q => hl 6 8 q (by kernel_rfl)) T' hb hu⟩
    case s2 =>
      refine fun hs hl => stepG_free [] [3] (by kernel_rfl) rfl ?_
      intro ac W hT hI hO
      have h : ac.tmps.getD 3 undef = .pointer (some ⟨(w.heap.size + 1), 0, none⟩) := hO 3 (by simp)
      show Brings Try.prog (fun v w' => Turned (fun _ => False) W w' ∧ v = .agg #[.int .i64 b.kind, .int .i64 b.n, .string b.name, .slice b.at_.1 b.args.length b.at_.2]) _
      obtain ⟨⟨x0, x1, x2, x3⟩, ⟨y0, y1, y2, y3⟩⟩ := HKP.out W (S.trans hT.turned)
      simp only [execOp, Act.eval, h]
      go_simp
      exact ⟨Turned.refl _ _, rfl⟩
    case s3 =>
      refine fun hs hno hl => stepG_free [25] [] (by kernel_rfl) rfl ?_
      intro ac W hT hI hO
      have h : ac.tmps.getD 25 undef = .agg #[.int .i64 b.kind, .int .i64 b.n, .string b.name, .slice b.at_.1 b.args.length b.at_.2] := hI 25 (by simp)
      show Brings Try.prog (fun v w' => TwinS W2 a b (hs ++ [(3, v)]) w') _
      simp only [execOp, Act.eval, h]
      go_simp
      show Calls Try.prog 44 _ W _
      (with_reducible refine (HOB.out W (S.trans hT.turned)).mono ?_)
      rintro e w' ⟨u, rfl, hb, hu, T'⟩
      exact ⟨_, rfl, hT.call3 hno (fun q => hl 7 8 q (by kernel_rfl)) T' hb hu⟩
    case s4 =>
      refine fun hs hno hl => stepG_free [] [] (by kernel_rfl) rfl ?_
      intro ac W hT hI hO
      show Brings Try.prog (fun v w' => TwinS W2 a b (hs ++ [(4, v)]) w') _
      simp only [execOp, Act.eval]
      go_simp
      exact hT.lay4 hno (fun q => hl 6 8 q (by kernel_rfl))
    case s5 =>
      refine fun hs hno hl => stepG_free [] [] (by kernel_rfl) rfl ?_
      intro ac W hT hI hO
      show Brings Try.prog (fun v w' => TwinS W2 a b (hs ++ [(5, v)]) w') _
      simp only [execOp, Act.eval]
      go_simp
      exact hT.lay5 hno (fun q => hl 7 8 q (by kernel_rfl))
    case s6 =>
      refine fun hs hno hl => stepG_free [5, 24] [] (by kernel_rfl) rfl ?_
      intro ac W hT hI hO
      have h5 : (4, ac.tmps.getD 5 undef) ∈ hs := hI 5 (by simp)
      have h1 : (1, ac.tmps.getD 24 undef) ∈ hs := hI 24 (by simp)
      obtain ⟨g, e5, ⟨c0, c1, c2, c3, d0, d1, d2, d3⟩, f0, f1, f2, f3⟩ := hT.cells4 (.inl h5)
      obtain ⟨u, e1, _⟩ := hT.one.call _ h1
      rw [LT.val_eq] at e1
      show Brings Try.prog (fun v w' => TwinS W2 a b (hs ++ [(6, v)]) w') _
      simp only [execOp, Act.eval, e5, e1]
      go_simp
      rw [e5] at h5
      rw [e1] at h1
      exact hT.store6 hno h5 h1
    case s7 =>
      refine fun hs hno hl => stepG_free [6, 26] [] (by kernel_rfl) rfl ?_
      intro ac W hT hI hO
      have h5 : (5, ac.tmps.getD 6 undef) ∈ hs := hI 6 (by simp)
      have h1 : (3, ac.tmps.getD 26 undef) ∈ hs := hI 26 (by simp)
      obtain ⟨g, e5, ⟨c0, c1, c2, c3, d0, d1, d2, d3⟩, f0, f1, f2, f3⟩ := hT.cells4 (.inr h5)
      obtain ⟨u, e1, _⟩ := hT.two.call _ h1
      rw [LT.val_eq] at e1
      show Brings Try.prog (fun v w' => TwinS W2 a b (hs ++ [(7, v)]) w') _
      simp only [execOp, Act.eval, e5, e1]
      go_simp
      rw [e5] at h5
      rw [e1] at h1
      exact hT.store7 hno h5 h1
  case hQ =>
    intro hs vq w4 hall huniq hR hV
    obtain ⟨x, y, gx, gy, q5, q6, hxb, hyb, n1, n2, n3, bx, bby, ix, iy⟩ := hR.done hall (hV 5 (by simp)) (hV 6 (by simp))
    have S4 := S.trans hR.turned
    simp only [List.foldl_cons, List.foldl_nil, List.setIfInBounds_toArray, List.set_cons_zero, List.set_cons_succ, q5, q6]
    clear hV q5 q6 hall huniq hR hs S
    have HXB := Lib.hid hxb
    have HYB := Lib.hid hyb
    have HBX := Lib.hid bx
    have HBY := Lib.hid bby
    have HIXX := Lib.hid (ix.mono (q := fun _ => True) (fun _ _ _ => trivial))
    have HIYY := Lib.hid (iy.mono (q := fun _ => True) (fun _ _ _ => trivial))
    have HS4 := Lib.hid S4
    have HSX := Lib.hid (slim_eq' hxb.symm HSa.out)
    clear hxb hyb n1 n2 n3 bx bby ix iy S4
    have HKX : Hid (∀ W, Turned (fun _ => False) w4 W → (W.cell? ⟨gx, 0, none⟩ = some (.int .i64 x.kind) ∧ W.cell? ⟨gx, 1, none⟩ = some (.int .i64 x.n) ∧ W.cell? ⟨gx, 2, none⟩ = some (.string x.name) ∧ W.cell? ⟨gx, 3, none⟩ = some (.slice x.at_.1 x.args.length x.at_.2)) ∧ (W.cell? ⟨w.heap.size, 0, none⟩ = some (.int .i64 a.kind) ∧ W.cell? ⟨w.heap.size, 1, none⟩ = some (.int .i64 a.n) ∧ W.cell? ⟨w.heap.size, 2, none⟩ = some (.string a.name) ∧ W.cell? ⟨w.heap.size, 3, none⟩ = some (.slice a.at_.1 a.args.length a.at_.2))) := fun W h => ⟨four_of ((h.block _ (Array.getElem?_eq_some_iff.1 HBX.out).1 (fun f => f)).trans HBX.out), (HKP.out W (HS4.out.trans h)).1⟩
    have hgx := fun W (h : Turned (fun _ => False) w4 W) => rGood45 (HIXX.out.turned0 h)
    have hia := fun W (h : Turned (fun _ => False) w4 W) => itemsV46 (HA1.out.turned0 (HS4.out.trans h)) HSa.out
    have hix := fun W (h : Turned (fun _ => False) w4 W) => itemsV47 (HIXX.out.turned0 h) HSX.out (by have := HDP.out; have := depth_eq' HXB.out; omega)
    rw [LT.val_eq x] at hgx hix
    rw [LT.val_eq a] at hia
    rw [goodB_eq HXB.out] at hgx
    have HIA := Lib.hid hia
    have HIX := Lib.hid hix
    clear hia hix
    have hsx := fun W (h : Turned (fun _ => False) w4 W) => rSize49 (fun _ => True) x.depth x 2000 W (Nat.le_refl _) (by omega) (HIXX.out.turned0 h)
    have hdx := fun W (h : Turned (fun _ => False) w4 W) => rDepth50 (fun _ => True) 64 x W (by omega) (HIXX.out.turned0 h)
    have hga := fun W (h : Turned (fun _ => False) w4 W) => good38 (HA1.out.turned0 (HS4.out.trans h)) HSa.out
    have hsa := fun W (h : Turned (fun _ => False) w4 W) => size35 (HA1.out.turned0 (HS4.out.trans h)) HSa.out
    have hdda := fun W (h : Turned (fun _ => False) w4 W) => depth36 (HA1.out.turned0 (HS4.out.trans h))
    have hva := fun W (h : Turned (fun _ => False) w4 W) => varsV34 (HA1.out.turned0 (HS4.out.trans h)) HSa.out
    have hvx := fun W (h : Turned (fun _ => False) w4 W) => varsV51 (HIXX.out.turned0 h)
    have hss := fun W (h : Turned (fun _ => False) w4 W) => same52 (HA1.out.turned0 (HS4.out.trans h)) (HB1.out.turned0 (HS4.out.trans h)) HSa.out HSb.out
    have hsy := fun W (h : Turned (fun _ => False) w4 W) => rSame48 x.depth x y W (Nat.le_refl _) (HIXX.out.turned0 h) (HIYY.out.turned0 h)
    rw [LT.val_eq x] at hsx hdx hvx hsy
    rw [LT.val_eq y] at hsy
    rw [LT.val_eq a] at hga hsa hdda hva hss
    rw [LT.val_eq b] at hss
    rw [size_eq' HXB.out] at hsx
    rw [depth_eq' HXB.out] at hdx
    rw [varsB_eq HXB.out] at hvx
    obtain ⟨SS, hSS⟩ : ∃ z, z = sameB a b := ⟨_, rfl⟩
    rw [← hSS] at hss
    replace hsx : ∀ W, Turned (fun _ => False) w4 W → Calls Try.prog 49 #[.agg #[.int .i64 x.kind, .int .i64 x.n, .string x.name, .slice x.at_.1 x.args.length x.at_.2], .int .i64 2000] W fun e w' => e = .returned (.int .i64 ((min a.size 2001 : Nat) : Int)) ∧ Turned (fun _ => False) W w' := hsx
    replace hdx : ∀ W, Turned (fun _ => False) w4 W → Calls Try.prog 50 #[.agg #[.int .i64 x.kind, .int .i64 x.n, .string x.name, .slice x.at_.1 x.args.length x.at_.2], .int .i64 64] W fun e w' => e = .returned (.int .i64 ((min a.depth 65 : Nat) : Int)) ∧ Turned (fun _ => False) W w' := hdx
    have HSX4 := Lib.hid hsx
    have HDX4 := Lib.hid hdx
    have HSA4 := Lib.hid hsa
    have HDDA4 := Lib.hid hdda
    have HVA4 := Lib.hid hva
    have HVX4 := Lib.hid hvx
    have HSS4 := Lib.hid hss
    clear hsx hdx hsa hdda hva hvx hss
    cases hg : goodB a with
    | true =>
      rw [hg] at hgx hga
      have HGX := Lib.hid hgx
      have HGA4 := Lib.hid hga
      have HGT := Lib.hid hg
      clear hgx hga hg
      have hsv : sameB a b = Tm.same x y := by
        unfold sameB
        rw [HGT.out, Bool.true_and]
        have e : Tm.same x y = Tm.same a b := by rw [Bool.eq_iff_iff, Tm.same_iff, Tm.same_iff, HXB.out, HYB.out]
        rw [e]
        cases hs : Tm.same a b with
        | false => simp
        | true =>
          have := goodB_eq ((Tm.same_iff a b).1 hs)
          rw [← this, HGT.out]; rfl
      rw [← hsv, ← hSS] at hsy
      have HSY4 := Lib.hid hsy
      clear hsy hsv hSS
      obtain ⟨⟨x0, x1, x2, x3⟩, _⟩ := HKX.out w4 (Turned.refl _ w4)
      go_wp2_with (first
      | (go_at_call 47; (with_reducible refine (HIX.out _ U6).mono ?_); rintro e w7 ⟨ma, mc, vs, en, rfl, hres2, hrow2, T7⟩)
      | (go_at_call 46; (with_reducible refine (HIA.out _ U5).mono ?_); rintro e w6 ⟨la, lc, us, tl, rfl, hres, hrow, T6⟩; have U6 := (U5.trans T6).alloc (.cells #[.int .i64 tl.kind, .int .i64 tl.n, .string tl.name, .slice tl.at_.1 tl.args.length tl.at_.2] 27); obtain ⟨⟨x0, x1, x2, x3⟩, _⟩ := HKX.out _ U6)
      | (go_at_call 45; (with_reducible refine (HGX.out _ (Turned.refl _ w4)).mono ?_); rintro e w5 ⟨rfl, U5⟩; obtain ⟨_, a0, a1, a2, a3⟩ := HKX.out _ U5))
      have UZ : Turned (fun _ => False) w4 (w7.alloc (.cells #[.int .i64 en.kind, .int .i64 en.n, .string en.name, .slice en.at_.1 en.args.length en.at_.2] 41)) := (U6.trans T7).alloc _
      have t67 : Turned (fun _ => False) w6 (w7.alloc (.cells #[.int .i64 en.kind, .int .i64 en.n, .string en.name, .slice en.at_.1 en.args.length en.at_.2] 41)) := (((Turned.refl _ w6).alloc _).trans T7).alloc _
      have hbt : (w7.alloc (.cells #[.int .i64 en.kind, .int .i64 en.n, .string en.name, .slice en.at_.1 en.args.length en.at_.2] 41)).heap[w6.heap.size]? = some (.cells #[.int .i64 tl.kind, .int .i64 tl.n, .string tl.name, .slice tl.at_.1 tl.args.length tl.at_.2] 27 (0, 0)) := ((T7.alloc (.cells #[.int .i64 en.kind, .int .i64 en.n, .string en.name, .slice en.at_.1 en.args.length en.at_.2] 41)).block _ (by simp) (fun f => f)).trans (heap_alloc_new w6 _)
      have hbe : (w7.alloc (.cells #[.int .i64 en.kind, .int .i64 en.n, .string en.name, .slice en.at_.1 en.args.length en.at_.2] 41)).heap[w7.heap.size]? = some (.cells #[.int .i64 en.kind, .int .i64 en.n, .string en.name, .slice en.at_.1 en.args.length en.at_.2] 41 (0, 0)) := heap_alloc_new w7 _
      have hl67 : w6.heap.size < w7.heap.size := by have := T7.size; simp at this; omega
      have HL67 := Lib.hid hl67
      rw [HGT.out, if_pos rfl] at hres
      have hie := Tm.items_eq HXB.out
      rw [← hres2, ← hres] at hie
      have HB := Lib.hid hie.2.symm
      have HUV := Lib.hid hie.1.symm
      have HLE : Hid (us.length = vs.length) := by show _ = _; have := congrArg List.length HUV.out; simpa using this
      have hma := Tm.items_mem a.size a (Nat.le_refl _)
      rw [← hres] at hma
      have hmx := Tm.items_mem x.size x (Nat.le_refl _)
      rw [← hres2] at hmx
      have iaz := HA1.out.turned0 (HS4.out.trans UZ)
      have ixz := HIXX.out.turned0 UZ
      have SI : Hid (SaysI w.heap.size (w.heap.size + 1) gx gy w6.heap.size w7.heap.size a b x y tl en us vs (.slice la us.length lc) (.slice ma vs.length mc) (w7.alloc (.cells #[.int .i64 en.kind, .int .i64 en.n, .string en.name, .slice en.at_.1 en.args.length en.at_.2] 41))) :=
        ⟨(HKP.out _ (HS4.out.trans UZ)).1, (HKP.out _ (HS4.out.trans UZ)).2, four_of ((UZ.block _ (Array.getElem?_eq_some_iff.1 HBX.out).1 (fun f => f)).trans HBX.out), four_of ((UZ.block _ (Array.getElem?_eq_some_iff.1 HBY.out).1 (fun f => f)).trans HBY.out), four_of hbt, four_of hbe,
         iaz, HB1.out.turned0 (HS4.out.trans UZ), ixz, HIYY.out.turned0 UZ, LT.In.flat a iaz tl hma.2, LT.In.flat x ixz en hmx.2, fun u hu => LT.In.flat a iaz u (hma.1 u hu), fun u hu => LT.In.flat x ixz u (hmx.1 u hu), hrow.turned0 t67, hrow2.alloc _⟩
      have HST := Lib.hid (slim_flat HSa.out hma.2)
      have HSU := Lib.hid (fun u hu => slim_flat HSa.out (hma.1 u hu))
      have HTZ := Lib.hid (HT1.out.trans (HS4.out.trans UZ))
      obtain ⟨wz, hwz⟩ : ∃ z, z = w7.alloc (.cells #[.int .i64 en.kind, .int .i64 en.n, .string en.name, .slice en.at_.1 en.args.length en.at_.2] 41) := ⟨_, rfl⟩
      rw [← hwz] at SI HTZ UZ
      try rw [← hwz]
      obtain ⟨bT, hbT⟩ : ∃ z, z = w6.heap.size := ⟨_, rfl⟩
      obtain ⟨bE, hbE⟩ : ∃ z, z = w7.heap.size := ⟨_, rfl⟩
      rw [← hbT, ← hbE] at SI
      try rw [← hbT]
      try rw [← hbE]
      clear hbT hbE hwz hbt hbe hl67 t67 hrow hrow2 hres hres2 hie hma hmx iaz ixz T7 T6 U6 U5
      have HSX' := Lib.hid (fun W (h : Turned (fun _ => False) wz W) => HSX4.out W (UZ.trans h))
      have HDX' := Lib.hid (fun W (h : Turned (fun _ => False) wz W) => HDX4.out W (UZ.trans h))
      have HSA' := Lib.hid (fun W (h : Turned (fun _ => False) wz W) => HSA4.out W (UZ.trans h))
      have HDA' := Lib.hid (fun W (h : Turned (fun _ => False) wz W) => HDDA4.out W (UZ.trans h))
      have HVA' := Lib.hid (fun W (h : Turned (fun _ => False) wz W) => HVA4.out W (UZ.trans h))
      have HVX' := Lib.hid (fun W (h : Turned (fun _ => False) wz W) => HVX4.out W (UZ.trans h))
      have HSS' := Lib.hid (fun W (h : Turned (fun _ => False) wz W) => HSS4.out W (UZ.trans h))
      have HSY' := Lib.hid (fun W (h : Turned (fun _ => False) wz W) => HSY4.out W (UZ.trans h))
      have HGA' := Lib.hid (fun W (h : Turned (fun _ => False) wz W) => HGA4.out W (UZ.trans h))
      have hot := fun W (h : Turned (fun _ => False) wz W) => own44 tl.depth tl W (Nat.le_refl _) (SI.out.it.turned0 h) HST.out
      rw [LT.val_eq tl] at hot
      have HOT := Lib.hid hot
      clear hot
      obtain ⟨B46, HB46⟩ : ∃ B, Hid (B = ((us.length : Int) != (vs.length : Int))) := ⟨_, rfl⟩
      have hB46 : B46 = false := by rw [HB46.out, HLE.out]; simp
      obtain ⟨B52, HB52⟩ : ∃ B, Hid (B = (!true)) := ⟨_, rfl⟩
      obtain ⟨B53, HB53⟩ : ∃ B, Hid (B = (B46 || B52)) := ⟨_, rfl⟩
      refine wp_region_hs [42, 43, 44, 45, 46, 47, 48, 49, 50, 51, 52, 53] [7] [1, 1, 1, 1, 1, 1, 1, 1, 1, 1, 1, 1] [49] (fun d v => (match d with | 42 => v = .slice la us.length lc | 43 => v = .int .i64 (us.length : Int) | 44 => v = .slice ma vs.length mc | 45 => v = .int .i64 (vs.length : Int) | 46 => v = .bool B46 | 47 => v = .bool B46 | 48 => v = bif (true && (B46 == false)) then .agg #[.int .i64 tl.kind, .int .i64 tl.n, .string tl.name, .slice tl.at_.1 tl.args.length tl.at_.2] else undef | 50 => v = bif (true && (B46 == false)) then .agg #[.int .i64 en.kind, .int .i64 en.n, .string en.name, .slice en.at_.1 en.args.length en.at_.2] else undef | 51 => v = bif (true && (B46 == false)) then .bool true else undef | 52 => v = bif (true && (B46 == false)) then .bool B52 else undef | 53 => v = .bool B53 | _ => True : Prop)) (OneS wz tl) (by kernel_rfl) rfl (by kernel_rfl) (by kernel_rfl) (by kernel_rfl) (by kernel_rfl) (fun _ h => h) (fun hs w w' h ht => OneS.turned0 hs w w' h ht) ?hs ?hQ
      case hs =>
        refine ⟨?s0, ?s1, ?s2, ?s3, ?s4, ?s5, ?s6, ?s7, ?s8, ?s9, ?s10, ?s11, trivial⟩
        case s0 =>
          refine fun hs hle => stepG_free [] [8] (by kernel_rfl) rfl ?_
          · intro ac W hT hI hO
            have h8 : ac.tmps.getD 8 undef = .slice la us.length lc := hO 8 (by simp)
            show Brings Try.prog (fun v w' => Turned (fun _ => False) W w' ∧ v = .slice la us.length lc) _
            simp only [execOp, Act.eval, h8]
            go_simp
            try exact ⟨Turned.refl _ _, rfl⟩
        case s1 =>
          refine fun hs hle => stepG_free [42] [] (by kernel_rfl) rfl ?_
          · intro ac W hT hI hO
            have h42 : ac.tmps.getD 42 undef = .slice la us.length lc := hI 42 (by simp)
            show Brings Try.prog (fun v w' => Turned (fun _ => False) W w' ∧ v = .int .i64 (us.length : Int)) _
            simp only [execOp, Act.eval, h42]
            go_simp
            try exact ⟨Turned.refl _ _, rfl⟩
        case s2 =>
          refine fun hs hle => stepG_free [] [10] (by kernel_rfl) rfl ?_
          · intro ac W hT hI hO
            have h10 : ac.tmps.getD 10 undef = .slice ma vs.length mc := hO 10 (by simp)
            show Brings Try.prog (fun v w' => Turned (fun _ => False) W w' ∧ v = .slice ma vs.length mc) _
            simp only [execOp, Act.eval, h10]
            go_simp
            try exact ⟨Turned.refl _ _, rfl⟩
        case s3 =>
          refine fun hs hle => stepG_free [44] [] (by kernel_rfl) rfl ?_
          · intro ac W hT hI hO
            have h44 : ac.tmps.getD 44 undef = .slice ma vs.length mc := hI 44 (by simp)
            show Brings Try.prog (fun v w' => Turned (fun _ => False) W w' ∧ v = .int .i64 (vs.length : Int)) _
            simp only [execOp, Act.eval, h44]
            go_simp
            try exact ⟨Turned.refl _ _, rfl⟩
        case s4 =>
          refine fun hs hle => stepG_free [43, 45] [] (by kernel_rfl) rfl ?_
          · intro ac W hT hI hO
            have h43 : ac.tmps.getD 43 undef = .int .i64 (us.length : Int) := hI 43 (by simp)
            have h45 : ac.tmps.getD 45 undef = .int .i64 (vs.length : Int) := hI 45 (by simp)
            show Brings Try.prog (fun v w' => Turned (fun _ => False) W w' ∧ v = .bool B46) _
            rw [HB46.out]
            simp only [execOp, Act.eval, h43, h45]
            go_simp
            try exact ⟨Turned.refl _ _, rfl⟩
        case s5 =>
          refine fun hs hle => stepG_free [46] [] (by kernel_rfl) rfl ?_
          · intro ac W hT hI hO
            have h46 : ac.tmps.getD 46 undef = .bool B46 := hI 46 (by simp)
            show Brings Try.prog (fun v w' => Turned (fun _ => False) W w' ∧ v = .bool B46) _
            simp only [execOp, Act.eval, h46]
            go_simp
            try exact ⟨Turned.refl _ _, rfl⟩
        case s6 =>
          refine fun hs hle => stepG_guard [47] [9] (by kernel_rfl) 5 false 47 rfl rfl (by simp) true B46 (fun _ _ h => h) (fun hc => ?_) (fun hc _ _ => ?_)
          rotate_left
          · refine ⟨Turned.refl _ _, ?_⟩
            show undef = bif (true && (B46 == false)) then _ else undef
            rw [hc]; rfl
          · intro ac W hT hI hO
            have h47 : ac.tmps.getD 47 undef = .bool B46 := hI 47 (by simp)
            have h9 : ac.tmps.getD 9 undef = .pointer (some ⟨bT, 0, none⟩) := hO 9 (by simp)
            show Brings Try.prog (fun v w' => Turned (fun _ => False) W w' ∧ v = bif (true && (B46 == false)) then .agg #[.int .i64 tl.kind, .int .i64 tl.n, .string tl.name, .slice tl.at_.1 tl.args.length tl.at_.2] else undef) _
            rw [hc, cond_true]
            obtain ⟨c0, c1, c2, c3⟩ := (SI.out.turned0 (OneS.turned hs W hT)).ct; obtain ⟨d0, d1, d2, d3⟩ := (SI.out.turned0 (OneS.turned hs W hT)).ce
            simp only [execOp, Act.eval, h47, h9]
            go_simp
            exact ⟨Turned.refl _ _, rfl⟩
        case s7 =>
          refine fun hs hlen => stepG_guard [48, 47] [] (by kernel_rfl) 5 false 47 rfl rfl (by simp) true B46 (fun _ _ h => h) (fun hc => ?_) (fun hc _ _ => ?_)
          rotate_left
          · exact absurd hc (by rw [hB46]; decide)
          · intro ac W hT hI hO
            have h48 : ac.tmps.getD 48 undef = bif (true && (B46 == false)) then .agg #[.int .i64 tl.kind, .int .i64 tl.n, .string tl.name, .slice tl.at_.1 tl.args.length tl.at_.2] else undef := hI 48 (by simp)
            rw [hc, cond_true] at h48
            have h47 : ac.tmps.getD 47 undef = .bool B46 := hI 47 (by simp)
            show Brings Try.prog (fun v w' => OneS wz tl (hs ++ [v]) w') _
            obtain rfl : hs = [] := List.eq_nil_of_length_eq_zero hlen
            replace hT : Turned (fun _ => False) wz W := hT
            simp only [execOp, Act.eval, h48, h47]
            go_simp
            show Calls Try.prog 44 _ W _
            (with_reducible refine (HOT.out W hT).mono ?_)
            rintro e w' ⟨u, rfl, hb, hu, T'⟩
            exact ⟨_, rfl, hT.trans T', u, rfl, hb, hu.mono (fun _ _ _ => trivial)⟩
        case s8 =>
          refine fun hs hle => stepG_guard [47] [11] (by kernel_rfl) 5 false 47 rfl rfl (by simp) true B46 (fun _ _ h => h) (fun hc => ?_) (fun hc _ _ => ?_)
          rotate_left
          · refine ⟨Turned.refl _ _, ?_⟩
            show undef = bif (true && (B46 == false)) then _ else undef
            rw [hc]; rfl
          · intro ac W hT hI hO
            have h47 : ac.tmps.getD 47 undef = .bool B46 := hI 47 (by simp)
            have h11 : ac.tmps.getD 11 undef = .pointer (some ⟨bE, 0, none⟩) := hO 11 (by simp)
            show Brings Try.prog (fun v w' => Turned (fun _ => False) W w' ∧ v = bif (true && (B46 == false)) then .agg #[.int .i64 en.kind, .int .i64 en.n, .string en.name, .slice en.at_.1 en.args.length en.at_.2] else undef) _
            rw [hc, cond_true]
            obtain ⟨c0, c1, c2, c3⟩ := (SI.out.turned0 (OneS.turned hs W hT)).ct; obtain ⟨d0, d1, d2, d3⟩ := (SI.out.turned0 (OneS.turned hs W hT)).ce
            simp only [execOp, Act.eval, h47, h11]
            go_simp
            exact ⟨Turned.refl _ _, rfl⟩
        case s9 =>
          refine fun hs hle => stepG_guard [49, 50, 47] [] (by kernel_rfl) 5 false 47 rfl rfl (by simp) true B46 (fun _ _ h => h) (fun hc => ?_) (fun hc _ _ => ?_)
          rotate_left
          · refine ⟨Turned.refl _ _, ?_⟩
            show undef = bif (true && (B46 == false)) then _ else undef
            rw [hc]; rfl
          · intro ac W hT hI hO
            have h49 : hs[0]? = some (ac.tmps.getD 49 undef) := hI 49 (by simp)
            have h50 : ac.tmps.getD 50 undef = bif (true && (B46 == false)) then .agg #[.int .i64 en.kind, .int .i64 en.n, .string en.name, .slice en.at_.1 en.args.length en.at_.2] else undef := hI 50 (by simp)
            rw [hc, cond_true] at h50
            have h47 : ac.tmps.getD 47 undef = .bool B46 := hI 47 (by simp)
            show Brings Try.prog (fun v w' => Turned (fun _ => False) W w' ∧ v = bif (true && (B46 == false)) then .bool true else undef) _
            rw [hc, cond_true]
            obtain ⟨u, eu, hbu, iu⟩ := OneS.at hT h49
            rw [LT.val_eq] at eu
            simp only [execOp, Act.eval, eu, h50]
            go_simp
            have hsm := rSame48 (p := fun _ => True) u.depth u en W (Nat.le_refl _) iu ((SI.out.turned0 (OneS.turned hs W hT)).ie)
            rw [LT.val_eq u, LT.val_eq en, same_of_bare (hbu.trans HB.out)] at hsm
            show Calls Try.prog 48 _ W _
            (with_reducible refine hsm.mono ?_)
            rintro e w' ⟨rfl, T'⟩
            exact ⟨_, rfl, T', rfl⟩
        case s10 =>
          refine fun hs hle => stepG_guard [51, 47] [] (by kernel_rfl) 5 false 47 rfl rfl (by simp) true B46 (fun _ _ h => h) (fun hc => ?_) (fun hc _ _ => ?_)
          rotate_left
          · refine ⟨Turned.refl _ _, ?_⟩
            show undef = bif (true && (B46 == false)) then _ else undef
            rw [hc]; rfl
          · intro ac W hT hI hO
            have h51 : ac.tmps.getD 51 undef = bif (true && (B46 == false)) then .bool true else undef := hI 51 (by simp)
            rw [hc, cond_true] at h51
            have h47 : ac.tmps.getD 47 undef = .bool B46 := hI 47 (by simp)
            show Brings Try.prog (fun v w' => Turned (fun _ => False) W w' ∧ v = bif (true && (B46 == false)) then .bool B52 else undef) _
            rw [hc, cond_true]
            rw [HB52.out]
            simp only [execOp, Act.eval, h51, h47]
            go_simp
            try exact ⟨Turned.refl _ _, rfl⟩
        case s11 =>
          refine fun hs hle => stepG_free [47, 52] [] (by kernel_rfl) rfl ?_
          · intro ac W hT hI hO
            have h47 : ac.tmps.getD 47 undef = .bool B46 := hI 47 (by simp)
            have h52 : ac.tmps.getD 52 undef = bif (true && (B46 == false)) then .bool B52 else undef := hI 52 (by simp)
            show Brings Try.prog (fun v w' => Turned (fun _ => False) W w' ∧ v = .bool B53) _
            rw [HB53.out]
            cases hB : B46
            · simp only [hB] at *
              simp [execOp, Act.eval, go_sem, Brings, h47, h52]
              try exact Turned.refl _ _
            · simp only [hB] at *
              simp [execOp, Act.eval, go_sem, Brings, h47, h52]
              try exact Turned.refl _ _
      case hQ =>
        intro hs vq w11 hlen hR hV
        have q53 : vq 53 = .bool B53 := hV 53 (by simp)
        have hB53 : B53 = false := by
          rw [HB53.out, HB52.out, hB46]; rfl
        rw [hB53] at q53
        have T11 := OneS.turned hs w11 hR
        simp only [List.foldl_cons, List.foldl_nil, List.setIfInBounds_toArray, List.set_cons_zero, List.set_cons_succ, q53]
        clear hV q53 hlen hR hs
        go_wp2_with fail
        go_loopg [12] us.length (fun g i wr => ∃ j : Nat, Hid (j + g = us.length) ∧ j ≤ us.length ∧ i = .int .i64 j ∧ Turned (fun _ => False) w11 wr)
        case atStart => exact ⟨0, Nat.zero_add _, Nat.zero_le _, rfl, Turned.refl _ _⟩
        case round =>
          obtain ⟨j, HG, hj, rfl, Tr⟩ := hrel
          by_cases hjl : j < us.length
          · have SW := SI.out.turned0 (T11.trans Tr)
            obtain ⟨u, hu⟩ : ∃ u, us[j]? = some u := ⟨_, List.getElem?_eq_getElem hjl⟩
            obtain ⟨z, hz⟩ : ∃ z, vs[j]? = some z := ⟨_, List.getElem?_eq_getElem (by have := HLE.out; omega)⟩
            have HUZ : Hid (u.bare = z.bare) := bare_at HUV.out hu hz
            have hou := fun W (h : Turned (fun _ => False) wr W) => own44 u.depth u W (Nat.le_refl _) ((SW.iu u (List.mem_of_getElem? hu)).turned0 h) (HSU.out u (List.mem_of_getElem? hu))
            rw [LT.val_eq u] at hou
            have HOU := Lib.hid hou
            have HIZ := Lib.hid (SW.iv z (List.mem_of_getElem? hz))
            obtain ⟨gl, rfl, c0, c1, c2, c3⟩ := row_at SW.rl hu
            obtain ⟨gm, rfl, d0, d1, d2, d3⟩ := row_at SW.rm hz
            have hm1 := SW.rl.max
            have hm2 := SW.rm.max
            have z1 : (j : Int) < (vs.length : Int) := by have := HLE.out; omega
            have z2 : j < vs.length := by have := HLE.out; omega
            clear hou SW hu hz
            go_wp2_with fail
            obtain ⟨B70, HB70⟩ : ∃ B, Hid (B = (!true)) := ⟨_, rfl⟩
            refine wp_region_hs [60, 61, 62, 63, 64, 65, 66, 67, 68, 69, 70] [4] [1, 1, 1, 1, 1, 1, 1, 1, 1, 1, 1] [64] (fun d v => (match d with | 60 => v = .slice (some ⟨gl, 0, none⟩) us.length lc | 61 => v = .int .i64 (j : Int) | 62 => v = .pointer (some ⟨gl, j * 4, none⟩) | 63 => v = .agg #[.int .i64 u.kind, .int .i64 u.n, .string u.name, .slice u.at_.1 u.args.length u.at_.2] | 65 => v = .slice (some ⟨gm, 0, none⟩) vs.length mc | 66 => v = .int .i64 (j : Int) | 67 => v = .pointer (some ⟨gm, j * 4, none⟩) | 68 => v = .agg #[.int .i64 z.kind, .int .i64 z.n, .string z.name, .slice z.at_.1 z.args.length z.at_.2] | 69 => v = .bool true | 70 => v = .bool B70 | _ => True : Prop)) (OneS wr u) (by kernel_rfl) rfl (by kernel_rfl) (by kernel_rfl) (by kernel_rfl) (by kernel_rfl) (fun _ h => h) (fun hs w w' h ht => OneS.turned0 hs w w' h ht) ?hs ?hQ
            case hs =>
              refine ⟨?s0, ?s1, ?s2, ?s3, ?s4, ?s5, ?s6, ?s7, ?s8, ?s9, ?s10, trivial⟩
              case s0 =>
                refine fun hs hle => stepG_free [] [8] (by kernel_rfl) rfl ?_
                · intro ac W hT hI hO
                  have h8 : ac.tmps.getD 8 undef = .slice (some ⟨gl, 0, none⟩) us.length lc := hO 8 (by simp)
                  show Brings Try.prog (fun v w' => Turned (fun _ => False) W w' ∧ v = .slice (some ⟨gl, 0, none⟩) us.length lc) _
                  simp only [execOp, Act.eval, h8]
                  go_simp
                  try exact ⟨Turned.refl _ _, rfl⟩
              case s1 =>
                refine fun hs hle => stepG_free [] [12] (by kernel_rfl) rfl ?_
                · intro ac W hT hI hO
                  have h12 : ac.tmps.getD 12 undef = .int .i64 (j : Int) := hO 12 (by simp)
                  show Brings Try.prog (fun v w' => Turned (fun _ => False) W w' ∧ v = .int .i64 (j : Int)) _
                  simp only [execOp, Act.eval, h12]
                  go_simp
                  try exact ⟨Turned.refl _ _, rfl⟩
              case s2 =>
                refine fun hs hle => stepG_free [60, 61] [] (by kernel_rfl) rfl ?_
                · intro ac W hT hI hO
                  have h60 : ac.tmps.getD 60 undef = .slice (some ⟨gl, 0, none⟩) us.length lc := hI 60 (by simp)
                  have h61 : ac.tmps.getD 61 undef = .int .i64 (j : Int) := hI 61 (by simp)
                  show Brings Try.prog (fun v w' => Turned (fun _ => False) W w' ∧ v = .pointer (some ⟨gl, j * 4, none⟩)) _
                  simp only [execOp, Act.eval, h60, h61]
                  go_simp
                  try exact ⟨Turned.refl _ _, rfl⟩
              case s3 =>
                refine fun hs hle => stepG_free [62] [] (by kernel_rfl) rfl ?_
                · intro ac W hT hI hO
                  have h62 : ac.tmps.getD 62 undef = .pointer (some ⟨gl, j * 4, none⟩) := hI 62 (by simp)
                  show Brings Try.prog (fun v w' => Turned (fun _ => False) W w' ∧ v = .agg #[.int .i64 u.kind, .int .i64 u.n, .string u.name, .slice u.at_.1 u.args.length u.at_.2]) _
                  have Tq := OneS.turned hs W hT; have c0 := Tq.cell0 c0; have c1 := Tq.cell0 c1; have c2 := Tq.cell0 c2; have c3 := Tq.cell0 c3; have d0 := Tq.cell0 d0; have d1 := Tq.cell0 d1; have d2 := Tq.cell0 d2; have d3 := Tq.cell0 d3
                  simp only [execOp, Act.eval, h62]
                  go_simp
                  exact ⟨Turned.refl _ _, rfl⟩
              case s4 =>
                refine fun hs hlen => stepG_free [63] [] (by kernel_rfl) rfl ?_
                · intro ac W hT hI hO
                  have h63 : ac.tmps.getD 63 undef = .agg #[.int .i64 u.kind, .int .i64 u.n, .string u.name, .slice u.at_.1 u.args.length u.at_.2] := hI 63 (by simp)
                  show Brings Try.prog (fun v w' => OneS wr u (hs ++ [v]) w') _
                  obtain rfl : hs = [] := List.eq_nil_of_length_eq_zero hlen
                  replace hT : Turned (fun _ => False) wr W := hT
                  simp only [execOp, Act.eval, h63]
                  go_simp
                  show Calls Try.prog 44 _ W _
                  (with_reducible refine (HOU.out W hT).mono ?_)
                  rintro e w' ⟨u, rfl, hb, hu, T'⟩
                  exact ⟨_, rfl, hT.trans T', u, rfl, hb, hu.mono (fun _ _ _ => trivial)⟩
              case s5 =>
                refine fun hs hle => stepG_free [] [10] (by kernel_rfl) rfl ?_
                · intro ac W hT hI hO
                  have h10 : ac.tmps.getD 10 undef = .slice (some ⟨gm, 0, none⟩) vs.length mc := hO 10 (by simp)
                  show Brings Try.prog (fun v w' => Turned (fun _ => False) W w' ∧ v = .slice (some ⟨gm, 0, none⟩) vs.length mc) _
                  simp only [execOp, Act.eval, h10]
                  go_simp
                  try exact ⟨Turned.refl _ _, rfl⟩
              case s6 =>
                refine fun hs hle => stepG_free [] [12] (by kernel_rfl) rfl ?_
                · intro ac W hT hI hO
                  have h12 : ac.tmps.getD 12 undef = .int .i64 (j : Int) := hO 12 (by simp)
                  show Brings Try.prog (fun v w' => Turned (fun _ => False) W w' ∧ v = .int .i64 (j : Int)) _
                  simp only [execOp, Act.eval, h12]
                  go_simp
                  try exact ⟨Turned.refl _ _, rfl⟩
              case s7 =>
                refine fun hs hle => stepG_free [65, 66] [] (by kernel_rfl) rfl ?_
                · intro ac W hT hI hO
                  have h65 : ac.tmps.getD 65 undef = .slice (some ⟨gm, 0, none⟩) vs.length mc := hI 65 (by simp)
                  have h66 : ac.tmps.getD 66 undef = .int .i64 (j : Int) := hI 66 (by simp)
                  show Brings Try.prog (fun v w' => Turned (fun _ => False) W w' ∧ v = .pointer (some ⟨gm, j * 4, none⟩)) _
                  simp only [execOp, Act.eval, h65, h66]
                  go_simp
                  try exact ⟨Turned.refl _ _, rfl⟩
              case s8 =>
                refine fun hs hle => stepG_free [67] [] (by kernel_rfl) rfl ?_
                · intro ac W hT hI hO
                  have h67 : ac.tmps.getD 67 undef = .pointer (some ⟨gm, j * 4, none⟩) := hI 67 (by simp)
                  show Brings Try.prog (fun v w' => Turned (fun _ => False) W w' ∧ v = .agg #[.int .i64 z.kind, .int .i64 z.n, .string z.name, .slice z.at_.1 z.args.length z.at_.2]) _
                  have Tq := OneS.turned hs W hT; have c0 := Tq.cell0 c0; have c1 := Tq.cell0 c1; have c2 := Tq.cell0 c2; have c3 := Tq.cell0 c3; have d0 := Tq.cell0 d0; have d1 := Tq.cell0 d1; have d2 := Tq.cell0 d2; have d3 := Tq.cell0 d3
                  simp only [execOp, Act.eval, h67]
                  go_simp
                  exact ⟨Turned.refl _ _, rfl⟩
              case s9 =>
                refine fun hs hle => stepG_free [64, 68] [] (by kernel_rfl) rfl ?_
                · intro ac W hT hI hO
                  have h64 : hs[0]? = some (ac.tmps.getD 64 undef) := hI 64 (by simp)
                  have h68 : ac.tmps.getD 68 undef = .agg #[.int .i64 z.kind, .int .i64 z.n, .string z.name, .slice z.at_.1 z.args.length z.at_.2] := hI 68 (by simp)
                  show Brings Try.prog (fun v w' => Turned (fun _ => False) W w' ∧ v = .bool true) _
                  obtain ⟨u, eu, hbu, iu⟩ := OneS.at hT h64
                  rw [LT.val_eq] at eu
                  simp only [execOp, Act.eval, eu, h68]
                  go_simp
                  have hsm := rSame48 (p := fun _ => True) u.depth u z W (Nat.le_refl _) iu (HIZ.out.turned0 (OneS.turned hs W hT))
                  rw [LT.val_eq u, LT.val_eq z, same_of_bare (hbu.trans HUZ.out)] at hsm
                  show Calls Try.prog 48 _ W _
                  (with_reducible refine hsm.mono ?_)
                  rintro e w' ⟨rfl, T'⟩
                  exact ⟨_, rfl, T', rfl⟩
              case s10 =>
                refine fun hs hle => stepG_free [69] [] (by kernel_rfl) rfl ?_
                · intro ac W hT hI hO
                  have h69 : ac.tmps.getD 69 undef = .bool true := hI 69 (by simp)
                  show Brings Try.prog (fun v w' => Turned (fun _ => False) W w' ∧ v = .bool B70) _
                  rw [HB70.out]
                  simp only [execOp, Act.eval, h69]
                  go_simp
                  try exact ⟨Turned.refl _ _, rfl⟩
            case hQ =>
              intro hs vq w16 hlen hR hV
              have q70 : vq 70 = .bool B70 := hV 70 (by simp)
              have hB70 : B70 = false := by rw [HB70.out]; rfl
              rw [hB70] at q70
              have T16 := OneS.turned hs w16 hR
              simp only [List.foldl_cons, List.foldl_nil, List.setIfInBounds_toArray, List.set_cons_zero, List.set_cons_succ, q70]
              clear hV q70 hlen hR hs
              go_wp2_with fail
              go_roundg (gk - 1)
              case measure => have := HG.out; omega
              case rel => exact ⟨j + 1, show _ = _ by have := HG.out; omega, by omega, by go_num, Tr.trans T16⟩
          · have TZ := T11.trans Tr
            go_wp2_with fail
            refine wp_region_hs [71, 72, 73, 74, 13, 14] [] [0, 0, 0, 0, 0, 0] [] (fun d v => (match d with | 71 => v = .agg #[.int .i64 x.kind, .int .i64 x.n, .string x.name, .slice x.at_.1 x.args.length x.at_.2] | 72 => v = .int .i64 ((min a.size 2001 : Nat) : Int) | 73 => v = .agg #[.int .i64 x.kind, .int .i64 x.n, .string x.name, .slice x.at_.1 x.args.length x.at_.2] | 74 => v = .int .i64 ((min a.depth 65 : Nat) : Int) | 13 => v = .int .i64 ((min a.size 2001 : Nat) : Int) | 14 => v = .int .i64 ((min a.depth 65 : Nat) : Int) | _ => True : Prop)) (fun _ W => Turned (fun _ => False) wr W) (by kernel_rfl) rfl (by kernel_rfl) (by kernel_rfl) (by kernel_rfl) (by kernel_rfl) (fun _ h => h) (fun _ _ _ h ht => h.trans ht) ?hs ?hQ
            case hs =>
              refine ⟨?s0, ?s1, ?s2, ?s3, ?s4, ?s5, trivial⟩
              case s0 =>
                refine fun hs hle => stepG_free [] [5] (by kernel_rfl) rfl ?_
                · intro ac W hT hI hO
                  have h5 : ac.tmps.getD 5 undef = .pointer (some ⟨gx, 0, none⟩) := hO 5 (by simp)
                  show Brings Try.prog (fun v w' => Turned (fun _ => False) W w' ∧ v = .agg #[.int .i64 x.kind, .int .i64 x.n, .string x.name, .slice x.at_.1 x.args.length x.at_.2]) _
                  have SW := SI.out.turned0 (TZ.trans hT); obtain ⟨c0, c1, c2, c3⟩ := SW.cx
                  simp only [execOp, Act.eval, h5]
                  go_simp
                  exact ⟨Turned.refl _ _, rfl⟩
              case s1 =>
                refine fun hs hle => stepG_free [71] [] (by kernel_rfl) rfl ?_
                · intro ac W hT hI hO
                  have h71 : ac.tmps.getD 71 undef = .agg #[.int .i64 x.kind, .int .i64 x.n, .string x.name, .slice x.at_.1 x.args.length x.at_.2] := hI 71 (by simp)
                  show Brings Try.prog (fun v w' => Turned (fun _ => False) W w' ∧ v = .int .i64 ((min a.size 2001 : Nat) : Int)) _
                  simp only [execOp, Act.eval, h71]
                  go_simp
                  show Calls Try.prog 49 _ W _
                  (with_reducible refine (HSX'.out W (TZ.trans hT)).mono ?_)
                  rintro e w' ⟨rfl, T'⟩
                  exact ⟨_, rfl, T', rfl⟩
              case s2 =>
                refine fun hs hle => stepG_free [] [5] (by kernel_rfl) rfl ?_
                · intro ac W hT hI hO
                  have h5 : ac.tmps.getD 5 undef = .pointer (some ⟨gx, 0, none⟩) := hO 5 (by simp)
                  show Brings Try.prog (fun v w' => Turned (fun _ => False) W w' ∧ v = .agg #[.int .i64 x.kind, .int .i64 x.n, .string x.name, .slice x.at_.1 x.args.length x.at_.2]) _
                  have SW := SI.out.turned0 (TZ.trans hT); obtain ⟨c0, c1, c2, c3⟩ := SW.cx
                  simp only [execOp, Act.eval, h5]
                  go_simp
                  exact ⟨Turned.refl _ _, rfl⟩
              case s3 =>
                refine fun hs hle => stepG_free [73] [] (by kernel_rfl) rfl ?_
                · intro ac W hT hI hO
                  have h73 : ac.tmps.getD 73 undef = .agg #[.int .i64 x.kind, .int .i64 x.n, .string x.name, .slice x.at_.1 x.args.length x.at_.2] := hI 73 (by simp)
                  show Brings Try.prog (fun v w' => Turned (fun _ => False) W w' ∧ v = .int .i64 ((min a.depth 65 : Nat) : Int)) _
                  simp only [execOp, Act.eval, h73]
                  go_simp
                  show Calls Try.prog 50 _ W _
                  (with_reducible refine (HDX'.out W (TZ.trans hT)).mono ?_)
                  rintro e w' ⟨rfl, T'⟩
                  exact ⟨_, rfl, T', rfl⟩
              case s4 =>
                refine fun hs hle => stepG_free [72] [] (by kernel_rfl) rfl ?_
                · intro ac W hT hI hO
                  have h72 : ac.tmps.getD 72 undef = .int .i64 ((min a.size 2001 : Nat) : Int) := hI 72 (by simp)
                  show Brings Try.prog (fun v w' => Turned (fun _ => False) W w' ∧ v = .int .i64 ((min a.size 2001 : Nat) : Int)) _
                  simp only [execOp, Act.eval, h72]
                  go_simp
                  try exact ⟨Turned.refl _ _, rfl⟩
              case s5 =>
                refine fun hs hle => stepG_free [74] [] (by kernel_rfl) rfl ?_
                · intro ac W hT hI hO
                  have h74 : ac.tmps.getD 74 undef = .int .i64 ((min a.depth 65 : Nat) : Int) := hI 74 (by simp)
                  show Brings Try.prog (fun v w' => Turned (fun _ => False) W w' ∧ v = .int .i64 ((min a.depth 65 : Nat) : Int)) _
                  simp only [execOp, Act.eval, h74]
                  go_simp
                  try exact ⟨Turned.refl _ _, rfl⟩
            case hQ =>
              intro hs vq w18 hlen T18 hV
              have q13 : vq 13 = .int .i64 ((min a.size 2001 : Nat) : Int) := hV 13 (by simp)
              have q14 : vq 14 = .int .i64 ((min a.depth 65 : Nat) : Int) := hV 14 (by simp)
              simp only [List.foldl_cons, List.foldl_nil, List.setIfInBounds_toArray, List.set_cons_zero, List.set_cons_succ, q13, q14]
              clear hV q13 q14 hlen hs
              have TY := TZ.trans T18
              go_wp2_with fail
              obtain ⟨B78, HB78⟩ : ∃ B, Hid (B = (true == true)) := ⟨_, rfl⟩
              obtain ⟨B83, HB83⟩ : ∃ B, Hid (B = (((min a.size 2001 : Nat) : Int) == ((min a.size 2001 : Nat) : Int))) := ⟨_, rfl⟩
              obtain ⟨B84, HB84⟩ : ∃ B, Hid (B = (B78 && B83)) := ⟨_, rfl⟩
              obtain ⟨B89, HB89⟩ : ∃ B, Hid (B = (((min a.depth 65 : Nat) : Int) == ((min a.depth 65 : Nat) : Int))) := ⟨_, rfl⟩
              obtain ⟨B90, HB90⟩ : ∃ B, Hid (B = (B84 && B89)) := ⟨_, rfl⟩
              obtain ⟨B97, HB97⟩ : ∃ B, Hid (B = (B90 && true)) := ⟨_, rfl⟩
              obtain ⟨B107, HB107⟩ : ∃ B, Hid (B = (true && SS)) := ⟨_, rfl⟩
              obtain ⟨B108, HB108⟩ : ∃ B, Hid (B = (SS == B107)) := ⟨_, rfl⟩
              obtain ⟨B109, HB109⟩ : ∃ B, Hid (B = (B97 && B108)) := ⟨_, rfl⟩
              have hB78 : B78 = true := by rw [HB78.out]; rfl
              have hB83 : B83 = true := by rw [HB83.out]; simp
              have hB84 : B84 = true := by rw [HB84.out, hB78, hB83]; rfl
              have hB89 : B89 = true := by rw [HB89.out]; simp
              have hB90 : B90 = true := by rw [HB90.out, hB84, hB89]; rfl
              have hB97 : B97 = true := by rw [HB97.out, hB90]; rfl
              have hB109 : B109 = true := by
                rw [HB109.out, HB108.out, HB107.out, hB97]
                first
                  | rfl
                  | (cases SS <;> rfl)
                  | simp
              refine wp_region_hs [75, 76, 77, 78, 79, 80, 81, 82, 83, 84, 85, 86, 87, 88, 89, 90, 91, 92, 93, 94, 95, 96, 97, 98, 99, 100, 101, 102, 103, 104, 105, 106, 107, 108, 109, 4] [18, 20] [2, 2, 2, 2, 2, 2, 2, 2, 2, 2, 2, 2, 2, 2, 2, 2, 2, 2, 2, 2, 2, 2, 2, 2, 2, 2, 2, 2, 2, 2, 2, 2, 2, 2, 2, 2] [93, 95] (fun d v => (match d with | 75 => v = .agg #[.int .i64 a.kind, .int .i64 a.n, .string a.name, .slice a.at_.1 a.args.length a.at_.2] | 76 => v = .bool true | 77 => v = .bool true | 78 => v = .bool B78 | 79 => v = .bool B78 | 80 => v = bif (true && (B78 == true)) then .agg #[.int .i64 a.kind, .int .i64 a.n, .string a.name, .slice a.at_.1 a.args.length a.at_.2] else undef | 81 => v = bif (true && (B78 == true)) then .int .i64 ((min a.size 2001 : Nat) : Int) else undef | 82 => v = bif (true && (B78 == true)) then .int .i64 ((min a.size 2001 : Nat) : Int) else undef | 83 => v = bif (true && (B78 == true)) then .bool B83 else undef | 84 => v = .bool B84 | 85 => v = .bool B84 | 86 => v = bif (true && (B84 == true)) then .agg #[.int .i64 a.kind, .int .i64 a.n, .string a.name, .slice a.at_.1 a.args.length a.at_.2] else undef | 87 => v = bif (true && (B84 == true)) then .int .i64 ((min a.depth 65 : Nat) : Int) else undef | 88 => v = bif (true && (B84 == true)) then .int .i64 ((min a.depth 65 : Nat) : Int) else undef | 89 => v = bif (true && (B84 == true)) then .bool B89 else undef | 90 => v = .bool B90 | 91 => v = .bool B90 | 92 => v = bif (true && (B90 == true)) then .agg #[.int .i64 a.kind, .int .i64 a.n, .string a.name, .slice a.at_.1 a.args.length a.at_.2] else undef | 94 => v = bif (true && (B90 == true)) then .agg #[.int .i64 x.kind, .int .i64 x.n, .string x.name, .slice x.at_.1 x.args.length x.at_.2] else undef | 96 => v = bif (true && (B90 == true)) then .bool true else undef | 97 => v = .bool B97 | 98 => v = .bool B97 | 99 => v = bif (true && (B97 == true)) then .agg #[.int .i64 a.kind, .int .i64 a.n, .string a.name, .slice a.at_.1 a.args.length a.at_.2] else undef | 100 => v = bif (true && (B97 == true)) then .agg #[.int .i64 b.kind, .int .i64 b.n, .string b.name, .slice b.at_.1 b.args.length b.at_.2] else undef | 101 => v = bif (true && (B97 == true)) then .bool SS else undef | 102 => v = bif (true && (B97 == true)) then .bool true else undef | 103 => v = bif (true && (B97 == true)) then .bool true else undef | 104 => v = bif ((true && (B97 == true)) && (true == true)) then .agg #[.int .i64 x.kind, .int .i64 x.n, .string x.name, .slice x.at_.1 x.args.length x.at_.2] else undef | 105 => v = bif ((true && (B97 == true)) && (true == true)) then .agg #[.int .i64 y.kind, .int .i64 y.n, .string y.name, .slice y.at_.1 y.args.length y.at_.2] else undef | 106 => v = bif ((true && (B97 == true)) && (true == true)) then .bool SS else undef | 107 => v = bif (true && (B97 == true)) then .bool B107 else undef | 108 => v = bif (true && (B97 == true)) then .bool B108 else undef | 109 => v = .bool B109 | 4 => v = .bool B109 | _ => True : Prop)) (VarsS w18 (varsB a)) (by kernel_rfl) rfl (by kernel_rfl) (by kernel_rfl) (by kernel_rfl) (by kernel_rfl) (fun _ h => h) (fun hs w w' h ht => VarsS.turned0 hs w w' h ht) ?hs ?hQ
              case hs =>
                refine ⟨?s0, ?s1, ?s2, ?s3, ?s4, ?s5, ?s6, ?s7, ?s8, ?s9, ?s10, ?s11, ?s12, ?s13, ?s14, ?s15, ?s16, ?s17, ?s18, ?s19, ?s20, ?s21, ?s22, ?s23, ?s24, ?s25, ?s26, ?s27, ?s28, ?s29, ?s30, ?s31, ?s32, ?s33, ?s34, ?s35, trivial⟩
                case s0 =>
                  refine fun hs hle => stepG_free [] [2] (by kernel_rfl) rfl ?_
                  · intro ac W hT hI hO
                    have h2 : ac.tmps.getD 2 undef = .pointer (some ⟨w.heap.size, 0, none⟩) := hO 2 (by simp)
                    show Brings Try.prog (fun v w' => Turned (fun _ => False) W w' ∧ v = .agg #[.int .i64 a.kind, .int .i64 a.n, .string a.name, .slice a.at_.1 a.args.length a.at_.2]) _
                    have SW := SI.out.turned0 (TY.trans (VarsS.turned hs W hT)); obtain ⟨c0, c1, c2, c3⟩ := SW.ca; obtain ⟨d0, d1, d2, d3⟩ := SW.cb; obtain ⟨e0, e1, e2, e3⟩ := SW.cx; obtain ⟨f0, f1, f2, f3⟩ := SW.cy
                    simp only [execOp, Act.eval, h2]
                    go_simp
                    exact ⟨Turned.refl _ _, rfl⟩
                case s1 =>
                  refine fun hs hle => stepG_free [75] [] (by kernel_rfl) rfl ?_
                  · intro ac W hT hI hO
                    have h75 : ac.tmps.getD 75 undef = .agg #[.int .i64 a.kind, .int .i64 a.n, .string a.name, .slice a.at_.1 a.args.length a.at_.2] := hI 75 (by simp)
                    show Brings Try.prog (fun v w' => Turned (fun _ => False) W w' ∧ v = .bool true) _
                    simp only [execOp, Act.eval, h75]
                    go_simp
                    show Calls Try.prog 38 _ W _
                    (with_reducible refine (HGA'.out W (TY.trans (VarsS.turned hs W hT))).mono ?_)
                    rintro e w' ⟨rfl, T'⟩
                    exact ⟨_, rfl, T', rfl⟩
                case s2 =>
                  refine fun hs hle => stepG_free [] [7] (by kernel_rfl) rfl ?_
                  · intro ac W hT hI hO
                    have h7 : ac.tmps.getD 7 undef = .bool true := hO 7 (by simp)
                    show Brings Try.prog (fun v w' => Turned (fun _ => False) W w' ∧ v = .bool true) _
                    simp only [execOp, Act.eval, h7]
                    go_simp
                    try exact ⟨Turned.refl _ _, rfl⟩
                case s3 =>
                  refine fun hs hle => stepG_free [76, 77] [] (by kernel_rfl) rfl ?_
                  · intro ac W hT hI hO
                    have h76 : ac.tmps.getD 76 undef = .bool true := hI 76 (by simp)
                    have h77 : ac.tmps.getD 77 undef = .bool true := hI 77 (by simp)
                    show Brings Try.prog (fun v w' => Turned (fun _ => False) W w' ∧ v = .bool B78) _
                    rw [HB78.out]
                    simp only [execOp, Act.eval, h76, h77]
                    go_simp
                    try exact ⟨Turned.refl _ _, rfl⟩
                case s4 =>
                  refine fun hs hle => stepG_free [78] [] (by kernel_rfl) rfl ?_
                  · intro ac W hT hI hO
                    have h78 : ac.tmps.getD 78 undef = .bool B78 := hI 78 (by simp)
                    show Brings Try.prog (fun v w' => Turned (fun _ => False) W w' ∧ v = .bool B78) _
                    simp only [execOp, Act.eval, h78]
                    go_simp
                    try exact ⟨Turned.refl _ _, rfl⟩
                case s5 =>
                  refine fun hs hle => stepG_guard [79] [2] (by kernel_rfl) 4 true 79 rfl rfl (by simp) true B78 (fun _ _ h => h) (fun hc => ?_) (fun hc _ _ => ?_)
                  rotate_left
                  · refine ⟨Turned.refl _ _, ?_⟩
                    show undef = bif (true && (B78 == true)) then _ else undef
                    rw [hc]; rfl
                  · intro ac W hT hI hO
                    have h79 : ac.tmps.getD 79 undef = .bool B78 := hI 79 (by simp)
                    have h2 : ac.tmps.getD 2 undef = .pointer (some ⟨w.heap.size, 0, none⟩) := hO 2 (by simp)
                    show Brings Try.prog (fun v w' => Turned (fun _ => False) W w' ∧ v = bif (true && (B78 == true)) then .agg #[.int .i64 a.kind, .int .i64 a.n, .string a.name, .slice a.at_.1 a.args.length a.at_.2] else undef) _
                    rw [hc, cond_true]
                    have SW := SI.out.turned0 (TY.trans (VarsS.turned hs W hT)); obtain ⟨c0, c1, c2, c3⟩ := SW.ca; obtain ⟨d0, d1, d2, d3⟩ := SW.cb; obtain ⟨e0, e1, e2, e3⟩ := SW.cx; obtain ⟨f0, f1, f2, f3⟩ := SW.cy
                    simp only [execOp, Act.eval, h79, h2]
                    go_simp
                    exact ⟨Turned.refl _ _, rfl⟩
                case s6 =>
                  refine fun hs hle => stepG_guard [80, 79] [] (by kernel_rfl) 4 true 79 rfl rfl (by simp) true B78 (fun _ _ h => h) (fun hc => ?_) (fun hc _ _ => ?_)
                  rotate_left
                  · refine ⟨Turned.refl _ _, ?_⟩
                    show undef = bif (true && (B78 == true)) then _ else undef
                    rw [hc]; rfl
                  · intro ac W hT hI hO
                    have h80 : ac.tmps.getD 80 undef = bif (true && (B78 == true)) then .agg #[.int .i64 a.kind, .int .i64 a.n, .string a.name, .slice a.at_.1 a.args.length a.at_.2] else undef := hI 80 (by simp)
                    rw [hc, cond_true] at h80
                    have h79 : ac.tmps.getD 79 undef = .bool B78 := hI 79 (by simp)
                    show Brings Try.prog (fun v w' => Turned (fun _ => False) W w' ∧ v = bif (true && (B78 == true)) then .int .i64 ((min a.size 2001 : Nat) : Int) else undef) _
                    rw [hc, cond_true]
                    simp only [execOp, Act.eval, h80, h79]
                    go_simp
                    show Calls Try.prog 35 _ W _
                    (with_reducible refine (HSA'.out W (TY.trans (VarsS.turned hs W hT))).mono ?_)
                    rintro e w' ⟨rfl, T'⟩
                    exact ⟨_, rfl, T', rfl⟩
                case s7 =>
                  refine fun hs hle => stepG_guard [79] [13] (by kernel_rfl) 4 true 79 rfl rfl (by simp) true B78 (fun _ _ h => h) (fun hc => ?_) (fun hc _ _ => ?_)
                  rotate_left
                  · refine ⟨Turned.refl _ _, ?_⟩
                    show undef = bif (true && (B78 == true)) then _ else undef
                    rw [hc]; rfl
                  · intro ac W hT hI hO
                    have h79 : ac.tmps.getD 79 undef = .bool B78 := hI 79 (by simp)
                    have h13 : ac.tmps.getD 13 undef = .int .i64 ((min a.size 2001 : Nat) : Int) := hO 13 (by simp)
                    show Brings Try.prog (fun v w' => Turned (fun _ => False) W w' ∧ v = bif (true && (B78 == true)) then .int .i64 ((min a.size 2001 : Nat) : Int) else undef) _
                    rw [hc, cond_true]
                    simp only [execOp, Act.eval, h79, h13]
                    go_simp
                    try exact ⟨Turned.refl _ _, rfl⟩
                case s8 =>
                  refine fun hs hle => stepG_guard [81, 82, 79] [] (by kernel_rfl) 4 true 79 rfl rfl (by simp) true B78 (fun _ _ h => h) (fun hc => ?_) (fun hc _ _ => ?_)
                  rotate_left
                  · refine ⟨Turned.refl _ _, ?_⟩
                    show undef = bif (true && (B78 == true)) then _ else undef
                    rw [hc]; rfl
                  · intro ac W hT hI hO
                    have h81 : ac.tmps.getD 81 undef = bif (true && (B78 == true)) then .int .i64 ((min a.size 2001 : Nat) : Int) else undef := hI 81 (by simp)
                    rw [hc, cond_true] at h81
                    have h82 : ac.tmps.getD 82 undef = bif (true && (B78 == true)) then .int .i64 ((min a.size 2001 : Nat) : Int) else undef := hI 82 (by simp)
                    rw [hc, cond_true] at h82
                    have h79 : ac.tmps.getD 79 undef = .bool B78 := hI 79 (by simp)
                    show Brings Try.prog (fun v w' => Turned (fun _ => False) W w' ∧ v = bif (true && (B78 == true)) then .bool B83 else undef) _
                    rw [hc, cond_true]
                    rw [HB83.out]
                    simp only [execOp, Act.eval, h81, h82, h79]
                    go_simp
                    try exact ⟨Turned.refl _ _, rfl⟩
                case s9 =>
                  refine fun hs hle => stepG_free [79, 83] [] (by kernel_rfl) rfl ?_
                  · intro ac W hT hI hO
                    have h79 : ac.tmps.getD 79 undef = .bool B78 := hI 79 (by simp)
                    have h83 : ac.tmps.getD 83 undef = bif (true && (B78 == true)) then .bool B83 else undef := hI 83 (by simp)
                    show Brings Try.prog (fun v w' => Turned (fun _ => False) W w' ∧ v = .bool B84) _
                    rw [HB84.out]
                    cases hB : B78
                    · simp only [hB] at *
                      simp [execOp, Act.eval, go_sem, Brings, h79, h83]
                      try exact Turned.refl _ _
                    · simp only [hB] at *
                      simp [execOp, Act.eval, go_sem, Brings, h79, h83]
                      try exact Turned.refl _ _
                case s10 =>
                  refine fun hs hle => stepG_free [84] [] (by kernel_rfl) rfl ?_
                  · intro ac W hT hI hO
                    have h84 : ac.tmps.getD 84 undef = .bool B84 := hI 84 (by simp)
                    show Brings Try.prog (fun v w' => Turned (fun _ => False) W w' ∧ v = .bool B84) _
                    simp only [execOp, Act.eval, h84]
                    go_simp
                    try exact ⟨Turned.refl _ _, rfl⟩
                case s11 =>
                  refine fun hs hle => stepG_guard [85] [2] (by kernel_rfl) 10 true 85 rfl rfl (by simp) true B84 (fun _ _ h => h) (fun hc => ?_) (fun hc _ _ => ?_)
                  rotate_left
                  · refine ⟨Turned.refl _ _, ?_⟩
                    show undef = bif (true && (B84 == true)) then _ else undef
                    rw [hc]; rfl
                  · intro ac W hT hI hO
                    have h85 : ac.tmps.getD 85 undef = .bool B84 := hI 85 (by simp)
                    have h2 : ac.tmps.getD 2 undef = .pointer (some ⟨w.heap.size, 0, none⟩) := hO 2 (by simp)
                    show Brings Try.prog (fun v w' => Turned (fun _ => False) W w' ∧ v = bif (true && (B84 == true)) then .agg #[.int .i64 a.kind, .int .i64 a.n, .string a.name, .slice a.at_.1 a.args.length a.at_.2] else undef) _
                    rw [hc, cond_true]
                    have SW := SI.out.turned0 (TY.trans (VarsS.turned hs W hT)); obtain ⟨c0, c1, c2, c3⟩ := SW.ca; obtain ⟨d0, d1, d2, d3⟩ := SW.cb; obtain ⟨e0, e1, e2, e3⟩ := SW.cx; obtain ⟨f0, f1, f2, f3⟩ := SW.cy
                    simp only [execOp, Act.eval, h85, h2]
                    go_simp
                    exact ⟨Turned.refl _ _, rfl⟩
                case s12 =>
                  refine fun hs hle => stepG_guard [86, 85] [] (by kernel_rfl) 10 true 85 rfl rfl (by simp) true B84 (fun _ _ h => h) (fun hc => ?_) (fun hc _ _ => ?_)
                  rotate_left
                  · refine ⟨Turned.refl _ _, ?_⟩
                    show undef = bif (true && (B84 == true)) then _ else undef
                    rw [hc]; rfl
                  · intro ac W hT hI hO
                    have h86 : ac.tmps.getD 86 undef = bif (true && (B84 == true)) then .agg #[.int .i64 a.kind, .int .i64 a.n, .string a.name, .slice a.at_.1 a.args.length a.at_.2] else undef := hI 86 (by simp)
                    rw [hc, cond_true] at h86
                    have h85 : ac.tmps.getD 85 undef = .bool B84 := hI 85 (by simp)
                    show Brings Try.prog (fun v w' => Turned (fun _ => False) W w' ∧ v = bif (true && (B84 == true)) then .int .i64 ((min a.depth 65 : Nat) : Int) else undef) _
                    rw [hc, cond_true]
                    simp only [execOp, Act.eval, h86, h85]
                    go_simp
                    show Calls Try.prog 36 _ W _
                    (with_reducible refine (HDA'.out W (TY.trans (VarsS.turned hs W hT))).mono ?_)
                    rintro e w' ⟨rfl, T'⟩
                    exact ⟨_, rfl, T', rfl⟩
                case s13 =>
                  refine fun hs hle => stepG_guard [85] [14] (by kernel_rfl) 10 true 85 rfl rfl (by simp) true B84 (fun _ _ h => h) (fun hc => ?_) (fun hc _ _ => ?_)
                  rotate_left
                  · refine ⟨Turned.refl _ _, ?_⟩
                    show undef = bif (true && (B84 == true)) then _ else undef
                    rw [hc]; rfl
                  · intro ac W hT hI hO
                    have h85 : ac.tmps.getD 85 undef = .bool B84 := hI 85 (by simp)
                    have h14 : ac.tmps.getD 14 undef = .int .i64 ((min a.depth 65 : Nat) : Int) := hO 14 (by simp)
                    show Brings Try.prog (fun v w' => Turned (fun _ => False) W w' ∧ v = bif (true && (B84 == true)) then .int .i64 ((min a.depth 65 : Nat) : Int) else undef) _
                    rw [hc, cond_true]
                    simp only [execOp, Act.eval, h85, h14]
                    go_simp
                    try exact ⟨Turned.refl _ _, rfl⟩
                case s14 =>
                  refine fun hs hle => stepG_guard [87, 88, 85] [] (by kernel_rfl) 10 true 85 rfl rfl (by simp) true B84 (fun _ _ h => h) (fun hc => ?_) (fun hc _ _ => ?_)
                  rotate_left
                  · refine ⟨Turned.refl _ _, ?_⟩
                    show undef = bif (true && (B84 == true)) then _ else undef
                    rw [hc]; rfl
                  · intro ac W hT hI hO
                    have h87 : ac.tmps.getD 87 undef = bif (true && (B84 == true)) then .int .i64 ((min a.depth 65 : Nat) : Int) else undef := hI 87 (by simp)
                    rw [hc, cond_true] at h87
                    have h88 : ac.tmps.getD 88 undef = bif (true && (B84 == true)) then .int .i64 ((min a.depth 65 : Nat) : Int) else undef := hI 88 (by simp)
                    rw [hc, cond_true] at h88
                    have h85 : ac.tmps.getD 85 undef = .bool B84 := hI 85 (by simp)
                    show Brings Try.prog (fun v w' => Turned (fun _ => False) W w' ∧ v = bif (true && (B84 == true)) then .bool B89 else undef) _
                    rw [hc, cond_true]
                    rw [HB89.out]
                    simp only [execOp, Act.eval, h87, h88, h85]
                    go_simp
                    try exact ⟨Turned.refl _ _, rfl⟩
                case s15 =>
                  refine fun hs hle => stepG_free [85, 89] [] (by kernel_rfl) rfl ?_
                  · intro ac W hT hI hO
                    have h85 : ac.tmps.getD 85 undef = .bool B84 := hI 85 (by simp)
                    have h89 : ac.tmps.getD 89 undef = bif (true && (B84 == true)) then .bool B89 else undef := hI 89 (by simp)
                    show Brings Try.prog (fun v w' => Turned (fun _ => False) W w' ∧ v = .bool B90) _
                    rw [HB90.out]
                    cases hB : B84
                    · simp only [hB] at *
                      simp [execOp, Act.eval, go_sem, Brings, h85, h89]
                      try exact Turned.refl _ _
                    · simp only [hB] at *
                      simp [execOp, Act.eval, go_sem, Brings, h85, h89]
                      try exact Turned.refl _ _
                case s16 =>
                  refine fun hs hle => stepG_free [90] [] (by kernel_rfl) rfl ?_
                  · intro ac W hT hI hO
                    have h90 : ac.tmps.getD 90 undef = .bool B90 := hI 90 (by simp)
                    show Brings Try.prog (fun v w' => Turned (fun _ => False) W w' ∧ v = .bool B90) _
                    simp only [execOp, Act.eval, h90]
                    go_simp
                    try exact ⟨Turned.refl _ _, rfl⟩
                case s17 =>
                  refine fun hs hle => stepG_guard [91] [2] (by kernel_rfl) 16 true 91 rfl rfl (by simp) true B90 (fun _ _ h => h) (fun hc => ?_) (fun hc _ _ => ?_)
                  rotate_left
                  · refine ⟨Turned.refl _ _, ?_⟩
                    show undef = bif (true && (B90 == true)) then _ else undef
                    rw [hc]; rfl
                  · intro ac W hT hI hO
                    have h91 : ac.tmps.getD 91 undef = .bool B90 := hI 91 (by simp)
                    have h2 : ac.tmps.getD 2 undef = .pointer (some ⟨w.heap.size, 0, none⟩) := hO 2 (by simp)
                    show Brings Try.prog (fun v w' => Turned (fun _ => False) W w' ∧ v = bif (true && (B90 == true)) then .agg #[.int .i64 a.kind, .int .i64 a.n, .string a.name, .slice a.at_.1 a.args.length a.at_.2] else undef) _
                    rw [hc, cond_true]
                    have SW := SI.out.turned0 (TY.trans (VarsS.turned hs W hT)); obtain ⟨c0, c1, c2, c3⟩ := SW.ca; obtain ⟨d0, d1, d2, d3⟩ := SW.cb; obtain ⟨e0, e1, e2, e3⟩ := SW.cx; obtain ⟨f0, f1, f2, f3⟩ := SW.cy
                    simp only [execOp, Act.eval, h91, h2]
                    go_simp
                    exact ⟨Turned.refl _ _, rfl⟩
                case s18 =>
                  refine fun hs hlen => stepG_guard [92, 91] [] (by kernel_rfl) 16 true 91 rfl rfl (by simp) true B90 (fun _ _ h => h) (fun hc => ?_) (fun hc _ _ => ?_)
                  rotate_left
                  · exact absurd hc (by rw [hB90]; decide)
                  · intro ac W hT hI hO
                    have h92 : ac.tmps.getD 92 undef = bif (true && (B90 == true)) then .agg #[.int .i64 a.kind, .int .i64 a.n, .string a.name, .slice a.at_.1 a.args.length a.at_.2] else undef := hI 92 (by simp)
                    rw [hc, cond_true] at h92
                    have h91 : ac.tmps.getD 91 undef = .bool B90 := hI 91 (by simp)
                    show Brings Try.prog (fun v w' => VarsS w18 (varsB a) (hs ++ [v]) w') _
                    obtain rfl : hs = [] := List.eq_nil_of_length_eq_zero hlen
                    replace hT : Turned (fun _ => False) w18 W := hT
                    simp only [execOp, Act.eval, h92, h91]
                    go_simp
                    show Calls Try.prog 34 _ W _
                    (with_reducible refine (HVA'.out W (TY.trans hT)).mono ?_)
                    rintro e w' ⟨v, rfl, hv, T'⟩
                    exact ⟨_, rfl, hT.trans T', hv⟩
                case s19 =>
                  refine fun hs hle => stepG_guard [91] [5] (by kernel_rfl) 16 true 91 rfl rfl (by simp) true B90 (fun _ _ h => h) (fun hc => ?_) (fun hc _ _ => ?_)
                  rotate_left
                  · refine ⟨Turned.refl _ _, ?_⟩
                    show undef = bif (true && (B90 == true)) then _ else undef
                    rw [hc]; rfl
                  · intro ac W hT hI hO
                    have h91 : ac.tmps.getD 91 undef = .bool B90 := hI 91 (by simp)
                    have h5 : ac.tmps.getD 5 undef = .pointer (some ⟨gx, 0, none⟩) := hO 5 (by simp)
                    show Brings Try.prog (fun v w' => Turned (fun _ => False) W w' ∧ v = bif (true && (B90 == true)) then .agg #[.int .i64 x.kind, .int .i64 x.n, .string x.name, .slice x.at_.1 x.args.length x.at_.2] else undef) _
                    rw [hc, cond_true]
                    have SW := SI.out.turned0 (TY.trans (VarsS.turned hs W hT)); obtain ⟨c0, c1, c2, c3⟩ := SW.ca; obtain ⟨d0, d1, d2, d3⟩ := SW.cb; obtain ⟨e0, e1, e2, e3⟩ := SW.cx; obtain ⟨f0, f1, f2, f3⟩ := SW.cy
                    simp only [execOp, Act.eval, h91, h5]
                    go_simp
                    exact ⟨Turned.refl _ _, rfl⟩
                case s20 =>
                  refine fun hs hlen => stepG_guard [94, 91] [] (by kernel_rfl) 16 true 91 rfl rfl (by simp) true B90 (fun _ _ h => h) (fun hc => ?_) (fun hc _ _ => ?_)
                  rotate_left
                  · exact absurd hc (by rw [hB90]; decide)
                  · intro ac W hT hI hO
                    have h94 : ac.tmps.getD 94 undef = bif (true && (B90 == true)) then .agg #[.int .i64 x.kind, .int .i64 x.n, .string x.name, .slice x.at_.1 x.args.length x.at_.2] else undef := hI 94 (by simp)
                    rw [hc, cond_true] at h94
                    have h91 : ac.tmps.getD 91 undef = .bool B90 := hI 91 (by simp)
                    show Brings Try.prog (fun v w' => VarsS w18 (varsB a) (hs ++ [v]) w') _
                    obtain ⟨v0, rfl⟩ := List.length_eq_one_iff.1 hlen
                    obtain ⟨hT1, hrow⟩ := hT
                    simp only [execOp, Act.eval, h94, h91]
                    go_simp
                    show Calls Try.prog 51 _ W _
                    (with_reducible refine (HVX'.out W (TY.trans hT1)).mono ?_)
                    rintro e w' ⟨v, rfl, hv, T'⟩
                    exact ⟨_, rfl, hT1.trans T', hrow.turned0 T', hv⟩
                case s21 =>
                  refine fun hs hle => stepG_guard [93, 95, 91] [] (by kernel_rfl) 16 true 91 rfl rfl (by simp) true B90 (fun _ _ h => h) (fun hc => ?_) (fun hc _ _ => ?_)
                  rotate_left
                  · refine ⟨Turned.refl _ _, ?_⟩
                    show undef = bif (true && (B90 == true)) then _ else undef
                    rw [hc]; rfl
                  · intro ac W hT hI hO
                    have h93 : hs[0]? = some (ac.tmps.getD 93 undef) := hI 93 (by simp)
                    have h95 : hs[1]? = some (ac.tmps.getD 95 undef) := hI 95 (by simp)
                    have h91 : ac.tmps.getD 91 undef = .bool B90 := hI 91 (by simp)
                    show Brings Try.prog (fun v w' => Turned (fun _ => False) W w' ∧ v = bif (true && (B90 == true)) then .bool true else undef) _
                    rw [hc, cond_true]
                    obtain ⟨v0, e93⟩ : ∃ v, ac.tmps.getD 93 undef = v := ⟨_, rfl⟩
                    obtain ⟨v1, e95⟩ : ∃ v, ac.tmps.getD 95 undef = v := ⟨_, rfl⟩
                    rw [e93] at h93
                    rw [e95] at h95
                    obtain ⟨r1, r2⟩ := VarsS.both hT h93 h95
                    simp only [execOp, Act.eval, e93, e95]
                    go_simp
                    have hn := nums39 r1 r2
                    rw [decide_eq_true rfl] at hn
                    show Calls Try.prog 39 _ W _
                    (with_reducible refine hn.mono ?_)
                    rintro e w' ⟨rfl, T'⟩
                    exact ⟨_, rfl, T', rfl⟩
                case s22 =>
                  refine fun hs hle => stepG_free [91, 96] [] (by kernel_rfl) rfl ?_
                  · intro ac W hT hI hO
                    have h91 : ac.tmps.getD 91 undef = .bool B90 := hI 91 (by simp)
                    have h96 : ac.tmps.getD 96 undef = bif (true && (B90 == true)) then .bool true else undef := hI 96 (by simp)
                    show Brings Try.prog (fun v w' => Turned (fun _ => False) W w' ∧ v = .bool B97) _
                    rw [HB97.out]
                    cases hB : B90
                    · simp only [hB] at *
                      simp [execOp, Act.eval, go_sem, Brings, h91, h96]
                      try exact Turned.refl _ _
                    · simp only [hB] at *
                      simp [execOp, Act.eval, go_sem, Brings, h91, h96]
                      try exact Turned.refl _ _
                case s23 =>
                  refine fun hs hle => stepG_free [97] [] (by kernel_rfl) rfl ?_
                  · intro ac W hT hI hO
                    have h97 : ac.tmps.getD 97 undef = .bool B97 := hI 97 (by simp)
                    show Brings Try.prog (fun v w' => Turned (fun _ => False) W w' ∧ v = .bool B97) _
                    simp only [execOp, Act.eval, h97]
                    go_simp
                    try exact ⟨Turned.refl _ _, rfl⟩
                case s24 =>
                  refine fun hs hle => stepG_guard [98] [2] (by kernel_rfl) 23 true 98 rfl rfl (by simp) true B97 (fun _ _ h => h) (fun hc => ?_) (fun hc _ _ => ?_)
                  rotate_left
                  · refine ⟨Turned.refl _ _, ?_⟩
                    show undef = bif (true && (B97 == true)) then _ else undef
                    rw [hc]; rfl
                  · intro ac W hT hI hO
                    have h98 : ac.tmps.getD 98 undef = .bool B97 := hI 98 (by simp)
                    have h2 : ac.tmps.getD 2 undef = .pointer (some ⟨w.heap.size, 0, none⟩) := hO 2 (by simp)
                    show Brings Try.prog (fun v w' => Turned (fun _ => False) W w' ∧ v = bif (true && (B97 == true)) then .agg #[.int .i64 a.kind, .int .i64 a.n, .string a.name, .slice a.at_.1 a.args.length a.at_.2] else undef) _
                    rw [hc, cond_true]
                    have SW := SI.out.turned0 (TY.trans (VarsS.turned hs W hT)); obtain ⟨c0, c1, c2, c3⟩ := SW.ca; obtain ⟨d0, d1, d2, d3⟩ := SW.cb; obtain ⟨e0, e1, e2, e3⟩ := SW.cx; obtain ⟨f0, f1, f2, f3⟩ := SW.cy
                    simp only [execOp, Act.eval, h98, h2]
                    go_simp
                    exact ⟨Turned.refl _ _, rfl⟩
                case s25 =>
                  refine fun hs hle => stepG_guard [98] [3] (by kernel_rfl) 23 true 98 rfl rfl (by simp) true B97 (fun _ _ h => h) (fun hc => ?_) (fun hc _ _ => ?_)
                  rotate_left
                  · refine ⟨Turned.refl _ _, ?_⟩
                    show undef = bif (true && (B97 == true)) then _ else undef
                    rw [hc]; rfl
                  · intro ac W hT hI hO
                    have h98 : ac.tmps.getD 98 undef = .bool B97 := hI 98 (by simp)
                    have h3 : ac.tmps.getD 3 undef = .pointer (some ⟨(w.heap.size + 1), 0, none⟩) := hO 3 (by simp)
                    show Brings Try.prog (fun v w' => Turned (fun _ => False) W w' ∧ v = bif (true && (B97 == true)) then .agg #[.int .i64 b.kind, .int .i64 b.n, .string b.name, .slice b.at_.1 b.args.length b.at_.2] else undef) _
                    rw [hc, cond_true]
                    have SW := SI.out.turned0 (TY.trans (VarsS.turned hs W hT)); obtain ⟨c0, c1, c2, c3⟩ := SW.ca; obtain ⟨d0, d1, d2, d3⟩ := SW.cb; obtain ⟨e0, e1, e2, e3⟩ := SW.cx; obtain ⟨f0, f1, f2, f3⟩ := SW.cy
                    simp only [execOp, Act.eval, h98, h3]
                    go_simp
                    exact ⟨Turned.refl _ _, rfl⟩
                case s26 =>
                  refine fun hs hle => stepG_guard [99, 100, 98] [] (by kernel_rfl) 23 true 98 rfl rfl (by simp) true B97 (fun _ _ h => h) (fun hc => ?_) (fun hc _ _ => ?_)
                  rotate_left
                  · refine ⟨Turned.refl _ _, ?_⟩
                    show undef = bif (true && (B97 == true)) then _ else undef
                    rw [hc]; rfl
                  · intro ac W hT hI hO
                    have h99 : ac.tmps.getD 99 undef = bif (true && (B97 == true)) then .agg #[.int .i64 a.kind, .int .i64 a.n, .string a.name, .slice a.at_.1 a.args.length a.at_.2] else undef := hI 99 (by simp)
                    rw [hc, cond_true] at h99
                    have h100 : ac.tmps.getD 100 undef = bif (true && (B97 == true)) then .agg #[.int .i64 b.kind, .int .i64 b.n, .string b.name, .slice b.at_.1 b.args.length b.at_.2] else undef := hI 100 (by simp)
                    rw [hc, cond_true] at h100
                    have h98 : ac.tmps.getD 98 undef = .bool B97 := hI 98 (by simp)
                    show Brings Try.prog (fun v w' => Turned (fun _ => False) W w' ∧ v = bif (true && (B97 == true)) then .bool SS else undef) _
                    rw [hc, cond_true]
                    simp only [execOp, Act.eval, h99, h100, h98]
                    go_simp
                    show Calls Try.prog 52 _ W _
                    (with_reducible refine (HSS'.out W (TY.trans (VarsS.turned hs W hT))).mono ?_)
                    rintro e w' ⟨rfl, T'⟩
                    exact ⟨_, rfl, T', rfl⟩
                case s27 =>
                  refine fun hs hle => stepG_guard [98] [7] (by kernel_rfl) 23 true 98 rfl rfl (by simp) true B97 (fun _ _ h => h) (fun hc => ?_) (fun hc _ _ => ?_)
                  rotate_left
                  · refine ⟨Turned.refl _ _, ?_⟩
                    show undef = bif (true && (B97 == true)) then _ else undef
                    rw [hc]; rfl
                  · intro ac W hT hI hO
                    have h98 : ac.tmps.getD 98 undef = .bool B97 := hI 98 (by simp)
                    have h7 : ac.tmps.getD 7 undef = .bool true := hO 7 (by simp)
                    show Brings Try.prog (fun v w' => Turned (fun _ => False) W w' ∧ v = bif (true && (B97 == true)) then .bool true else undef) _
                    rw [hc, cond_true]
                    simp only [execOp, Act.eval, h98, h7]
                    go_simp
                    try exact ⟨Turned.refl _ _, rfl⟩
                case s28 =>
                  refine fun hs hle => stepG_guard [102, 98] [] (by kernel_rfl) 23 true 98 rfl rfl (by simp) true B97 (fun _ _ h => h) (fun hc => ?_) (fun hc _ _ => ?_)
                  rotate_left
                  · refine ⟨Turned.refl _ _, ?_⟩
                    show undef = bif (true && (B97 == true)) then _ else undef
                    rw [hc]; rfl
                  · intro ac W hT hI hO
                    have h102 : ac.tmps.getD 102 undef = bif (true && (B97 == true)) then .bool true else undef := hI 102 (by simp)
                    rw [hc, cond_true] at h102
                    have h98 : ac.tmps.getD 98 undef = .bool B97 := hI 98 (by simp)
                    show Brings Try.prog (fun v w' => Turned (fun _ => False) W w' ∧ v = bif (true && (B97 == true)) then .bool true else undef) _
                    rw [hc, cond_true]
                    simp only [execOp, Act.eval, h102, h98]
                    go_simp
                    try exact ⟨Turned.refl _ _, rfl⟩
                case s29 =>
                  refine fun hs hle => stepG_guard [103] [5] (by kernel_rfl) 28 true 103 rfl rfl (by simp) (true && (B97 == true)) true (fun _ _ h => h) (fun hc => ?_) (fun hc _ _ => ?_)
                  rotate_left
                  · refine ⟨Turned.refl _ _, ?_⟩
                    show undef = bif ((true && (B97 == true)) && (true == true)) then _ else undef
                    rw [hc]; rfl
                  · intro ac W hT hI hO
                    have h103 : ac.tmps.getD 103 undef = bif (true && (B97 == true)) then .bool true else undef := hI 103 (by simp)
                    rw [show (true && (B97 == true)) = true from by simp only [Bool.and_eq_true] at hc ⊢; simp [hc]] at h103
                    have h5 : ac.tmps.getD 5 undef = .pointer (some ⟨gx, 0, none⟩) := hO 5 (by simp)
                    show Brings Try.prog (fun v w' => Turned (fun _ => False) W w' ∧ v = bif ((true && (B97 == true)) && (true == true)) then .agg #[.int .i64 x.kind, .int .i64 x.n, .string x.name, .slice x.at_.1 x.args.length x.at_.2] else undef) _
                    rw [hc, cond_true]
                    have SW := SI.out.turned0 (TY.trans (VarsS.turned hs W hT)); obtain ⟨c0, c1, c2, c3⟩ := SW.ca; obtain ⟨d0, d1, d2, d3⟩ := SW.cb; obtain ⟨e0, e1, e2, e3⟩ := SW.cx; obtain ⟨f0, f1, f2, f3⟩ := SW.cy
                    simp only [execOp, Act.eval, h103, h5]
                    go_simp
                    exact ⟨Turned.refl _ _, rfl⟩
                case s30 =>
                  refine fun hs hle => stepG_guard [103] [6] (by kernel_rfl) 28 true 103 rfl rfl (by simp) (true && (B97 == true)) true (fun _ _ h => h) (fun hc => ?_) (fun hc _ _ => ?_)
                  rotate_left
                  · refine ⟨Turned.refl _ _, ?_⟩
                    show undef = bif ((true && (B97 == true)) && (true == true)) then _ else undef
                    rw [hc]; rfl
                  · intro ac W hT hI hO
                    have h103 : ac.tmps.getD 103 undef = bif (true && (B97 == true)) then .bool true else undef := hI 103 (by simp)
                    rw [show (true && (B97 == true)) = true from by simp only [Bool.and_eq_true] at hc ⊢; simp [hc]] at h103
                    have h6 : ac.tmps.getD 6 undef = .pointer (some ⟨gy, 0, none⟩) := hO 6 (by simp)
                    show Brings Try.prog (fun v w' => Turned (fun _ => False) W w' ∧ v = bif ((true && (B97 == true)) && (true == true)) then .agg #[.int .i64 y.kind, .int .i64 y.n, .string y.name, .slice y.at_.1 y.args.length y.at_.2] else undef) _
                    rw [hc, cond_true]
                    have SW := SI.out.turned0 (TY.trans (VarsS.turned hs W hT)); obtain ⟨c0, c1, c2, c3⟩ := SW.ca; obtain ⟨d0, d1, d2, d3⟩ := SW.cb; obtain ⟨e0, e1, e2, e3⟩ := SW.cx; obtain ⟨f0, f1, f2, f3⟩ := SW.cy
                    simp only [execOp, Act.eval, h103, h6]
                    go_simp
                    exact ⟨Turned.refl _ _, rfl⟩
                case s31 =>
                  refine fun hs hle => stepG_guard [104, 105, 103] [] (by kernel_rfl) 28 true 103 rfl rfl (by simp) (true && (B97 == true)) true (fun _ _ h => h) (fun hc => ?_) (fun hc _ _ => ?_)
                  rotate_left
                  · refine ⟨Turned.refl _ _, ?_⟩
                    show undef = bif ((true && (B97 == true)) && (true == true)) then _ else undef
                    rw [hc]; rfl
                  · intro ac W hT hI hO
                    have h104 : ac.tmps.getD 104 undef = bif ((true && (B97 == true)) && (true == true)) then .agg #[.int .i64 x.kind, .int .i64 x.n, .string x.name, .slice x.at_.1 x.args.length x.at_.2] else undef := hI 104 (by simp)
                    rw [hc, cond_true] at h104
                    have h105 : ac.tmps.getD 105 undef = bif ((true && (B97 == true)) && (true == true)) then .agg #[.int .i64 y.kind, .int .i64 y.n, .string y.name, .slice y.at_.1 y.args.length y.at_.2] else undef := hI 105 (by simp)
                    rw [hc, cond_true] at h105
                    have h103 : ac.tmps.getD 103 undef = bif (true && (B97 == true)) then .bool true else undef := hI 103 (by simp)
                    rw [show (true && (B97 == true)) = true from by simp only [Bool.and_eq_true] at hc ⊢; simp [hc]] at h103
                    show Brings Try.prog (fun v w' => Turned (fun _ => False) W w' ∧ v = bif ((true && (B97 == true)) && (true == true)) then .bool SS else undef) _
                    rw [hc, cond_true]
                    simp only [execOp, Act.eval, h104, h105, h103]
                    go_simp
                    show Calls Try.prog 48 _ W _
                    (with_reducible refine (HSY'.out W (TY.trans (VarsS.turned hs W hT))).mono ?_)
                    rintro e w' ⟨rfl, T'⟩
                    exact ⟨_, rfl, T', rfl⟩
                case s32 =>
                  refine fun hs hle => stepG_guard [103, 106, 98] [] (by kernel_rfl) 23 true 98 rfl rfl (by simp) true B97 (fun _ _ h => h) (fun hc => ?_) (fun hc _ _ => ?_)
                  rotate_left
                  · refine ⟨Turned.refl _ _, ?_⟩
                    show undef = bif (true && (B97 == true)) then _ else undef
                    rw [hc]; rfl
                  · intro ac W hT hI hO
                    have h103 : ac.tmps.getD 103 undef = bif (true && (B97 == true)) then .bool true else undef := hI 103 (by simp)
                    rw [hc, cond_true] at h103
                    have h106 : ac.tmps.getD 106 undef = bif ((true && (B97 == true)) && (true == true)) then .bool SS else undef := hI 106 (by simp)
                    have h98 : ac.tmps.getD 98 undef = .bool B97 := hI 98 (by simp)
                    show Brings Try.prog (fun v w' => Turned (fun _ => False) W w' ∧ v = bif (true && (B97 == true)) then .bool B107 else undef) _
                    rw [hc, cond_true]
                    rw [HB107.out]
                    simp only [Bool.true_and, Bool.and_eq_true, beq_iff_eq] at hc
                    cases hB : true
                    · simp only [hB] at *
                      simp [execOp, Act.eval, go_sem, Brings, h103, h106, h98, hc]
                      try exact Turned.refl _ _
                    · simp only [hB] at *
                      simp [execOp, Act.eval, go_sem, Brings, h103, h106, h98, hc]
                      try exact Turned.refl _ _
                case s33 =>
                  refine fun hs hle => stepG_guard [101, 107, 98] [] (by kernel_rfl) 23 true 98 rfl rfl (by simp) true B97 (fun _ _ h => h) (fun hc => ?_) (fun hc _ _ => ?_)
                  rotate_left
                  · refine ⟨Turned.refl _ _, ?_⟩
                    show undef = bif (true && (B97 == true)) then _ else undef
                    rw [hc]; rfl
                  · intro ac W hT hI hO
                    have h101 : ac.tmps.getD 101 undef = bif (true && (B97 == true)) then .bool SS else undef := hI 101 (by simp)
                    rw [hc, cond_true] at h101
                    have h107 : ac.tmps.getD 107 undef = bif (true && (B97 == true)) then .bool B107 else undef := hI 107 (by simp)
                    rw [hc, cond_true] at h107
                    have h98 : ac.tmps.getD 98 undef = .bool B97 := hI 98 (by simp)
                    show Brings Try.prog (fun v w' => Turned (fun _ => False) W w' ∧ v = bif (true && (B97 == true)) then .bool B108 else undef) _
                    rw [hc, cond_true]
                    rw [HB108.out]
                    simp only [execOp, Act.eval, h101, h107, h98]
                    go_simp
                    try exact ⟨Turned.refl _ _, rfl⟩
                case s34 =>
                  refine fun hs hle => stepG_free [98, 108] [] (by kernel_rfl) rfl ?_
                  · intro ac W hT hI hO
                    have h98 : ac.tmps.getD 98 undef = .bool B97 := hI 98 (by simp)
                    have h108 : ac.tmps.getD 108 undef = bif (true && (B97 == true)) then .bool B108 else undef := hI 108 (by simp)
                    show Brings Try.prog (fun v w' => Turned (fun _ => False) W w' ∧ v = .bool B109) _
                    rw [HB109.out]
                    cases hB : B97
                    · simp only [hB] at *
                      simp [execOp, Act.eval, go_sem, Brings, h98, h108]
                      try exact Turned.refl _ _
                    · simp only [hB] at *
                      simp [execOp, Act.eval, go_sem, Brings, h98, h108]
                      try exact Turned.refl _ _
                case s35 =>
                  refine fun hs hle => stepG_free [109] [] (by kernel_rfl) rfl ?_
                  · intro ac W hT hI hO
                    have h109 : ac.tmps.getD 109 undef = .bool B109 := hI 109 (by simp)
                    show Brings Try.prog (fun v w' => Turned (fun _ => False) W w' ∧ v = .bool B109) _
                    simp only [execOp, Act.eval, h109]
                    go_simp
                    try exact ⟨Turned.refl _ _, rfl⟩
              case hQ =>
                intro hs vq w19 hlen hR hV
                have q4 : vq 4 = .bool B109 := hV 4 (by simp)
                rw [hB109] at q4
                have T19 := VarsS.turned hs w19 hR
                simp only [List.foldl_cons, List.foldl_nil, List.setIfInBounds_toArray, List.set_cons_zero, List.set_cons_succ, q4]
                clear hV q4 hlen hR hs
                go_wp2_with fail
                go_ret
                exact ⟨rfl, HTZ.out.trans (TY.trans T19)⟩
    | false =>
      rw [hg] at hgx hga
      have HGX := Lib.hid hgx
      have HGA4 := Lib.hid hga
      have HSY4 := Lib.hid hsy
      have HSF : Hid (SS = false) := by show _ = _; rw [hSS]; unfold sameB; rw [hg]; rfl
      have HGF := Lib.hid hg
      clear hgx hga hg hsy hSS
      obtain ⟨⟨x0, x1, x2, x3⟩, _⟩ := HKX.out w4 (Turned.refl _ w4)
      go_wp2_with (first
      | (go_at_call 47; (with_reducible refine (HIX.out _ U6).mono ?_); rintro e w7 ⟨ma, mc, vs, en, rfl, hres2, hrow2, T7⟩)
      | (go_at_call 46; (with_reducible refine (HIA.out _ U5).mono ?_); rintro e w6 ⟨la, lc, us, tl, rfl, hres, hrow, T6⟩; have U6 := (U5.trans T6).alloc (.cells #[.int .i64 tl.kind, .int .i64 tl.n, .string tl.name, .slice tl.at_.1 tl.args.length tl.at_.2] 27); obtain ⟨⟨x0, x1, x2, x3⟩, _⟩ := HKX.out _ U6)
      | (go_at_call 45; (with_reducible refine (HGX.out _ (Turned.refl _ w4)).mono ?_); rintro e w5 ⟨rfl, U5⟩; obtain ⟨_, a0, a1, a2, a3⟩ := HKX.out _ U5))
      have UZ : Turned (fun _ => False) w4 (w7.alloc (.cells #[.int .i64 en.kind, .int .i64 en.n, .string en.name, .slice en.at_.1 en.args.length en.at_.2] 41)) := (U6.trans T7).alloc _
      have t67 : Turned (fun _ => False) w6 (w7.alloc (.cells #[.int .i64 en.kind, .int .i64 en.n, .string en.name, .slice en.at_.1 en.args.length en.at_.2] 41)) := (((Turned.refl _ w6).alloc _).trans T7).alloc _
      have hbt : (w7.alloc (.cells #[.int .i64 en.kind, .int .i64 en.n, .string en.name, .slice en.at_.1 en.args.length en.at_.2] 41)).heap[w6.heap.size]? = some (.cells #[.int .i64 tl.kind, .int .i64 tl.n, .string tl.name, .slice tl.at_.1 tl.args.length tl.at_.2] 27 (0, 0)) := ((T7.alloc (.cells #[.int .i64 en.kind, .int .i64 en.n, .string en.name, .slice en.at_.1 en.args.length en.at_.2] 41)).block _ (by simp) (fun f => f)).trans (heap_alloc_new w6 _)
      have hbe : (w7.alloc (.cells #[.int .i64 en.kind, .int .i64 en.n, .string en.name, .slice en.at_.1 en.args.length en.at_.2] 41)).heap[w7.heap.size]? = some (.cells #[.int .i64 en.kind, .int .i64 en.n, .string en.name, .slice en.at_.1 en.args.length en.at_.2] 41 (0, 0)) := heap_alloc_new w7 _
      have hl67 : w6.heap.size < w7.heap.size := by have := T7.size; simp at this; omega
      have HL67 := Lib.hid hl67
      rw [HGF.out, if_neg (by decide)] at hres
      obtain ⟨hus, htl⟩ : us = [] ∧ tl = a := by injection hres with h1 h2; exact ⟨h1, h2⟩
      have HUS := Lib.hid hus
      have HTL := Lib.hid htl
      have U7 := U6.trans T7
      have hbt7 : w7.heap[w6.heap.size]? = some (.cells #[.int .i64 tl.kind, .int .i64 tl.n, .string tl.name, .slice tl.at_.1 tl.args.length tl.at_.2] 27 (0, 0)) := (T7.block _ (by simp) (fun f => f)).trans (heap_alloc_new w6 _)
      have hrow7 := hrow.turned0 (((Turned.refl _ w6).alloc (.cells #[.int .i64 tl.kind, .int .i64 tl.n, .string tl.name, .slice tl.at_.1 tl.args.length tl.at_.2] 27)).trans T7)
      have T7q : Turned (fun _ => False) w7 (w7.alloc (.cells #[.int .i64 en.kind, .int .i64 en.n, .string en.name, .slice en.at_.1 en.args.length en.at_.2] 41)) := (Turned.refl _ w7).alloc _
      obtain ⟨wq, hwq⟩ : ∃ z, z = w7.alloc (.cells #[.int .i64 en.kind, .int .i64 en.n, .string en.name, .slice en.at_.1 en.args.length en.at_.2] 41) := ⟨_, rfl⟩
      rw [← hwq] at UZ hbe T7q
      try rw [← hwq]
      obtain ⟨bT, hbT⟩ : ∃ z, z = w6.heap.size := ⟨_, rfl⟩
      obtain ⟨bE, hbE⟩ : ∃ z, z = w7.heap.size := ⟨_, rfl⟩
      rw [← hbE] at hbe
      rw [← hbT] at hbt7
      try rw [← hbT]
      try rw [← hbE]
      have HBE := Lib.hid hbe
      have HBT := Lib.hid hbt7
      have HR7 := Lib.hid hrow7
      have HU7 := Lib.hid U7
      have HUQ := Lib.hid UZ
      have HTQ := Lib.hid T7q
      have HbE := Lib.hid hbE
      clear hbT hbE hwq hbt hbe hbt7 hl67 t67 hrow hrow2 hrow7 hres hres2 hus htl T7 T6 U6 U5 U7 UZ T7q
      refine wp_region_hs [41, 10] [2] [0, 1, 1] [100002] (fun d v => (match d with | 41 => v = .agg #[.int .i64 x.kind, .int .i64 x.n, .string x.name, .slice x.at_.1 x.args.length x.at_.2] | 10 => v = .slice none 0 0 | _ => True : Prop)) (EndS bE 41 x wq) (by kernel_rfl) rfl (by kernel_rfl) (by kernel_rfl) (by kernel_rfl) (by kernel_rfl) (fun _ h => h) (fun hs w w' h ht => EndS.turned0 hs w w' h ht) ?hs ?hQ
      case hs =>
        refine ⟨?s0, ?s1, ?s2, trivial⟩
        case s0 =>
          refine fun hs hle => stepG_free [] [5] (by kernel_rfl) rfl ?_
          · intro ac W hT hI hO
            have hle : hs.length ≤ 0 := hle
            have h5 : ac.tmps.getD 5 undef = .pointer (some ⟨gx, 0, none⟩) := hO 5 (by simp)
            show Brings Try.prog (fun v w' => Turned (fun _ => False) W w' ∧ v = .agg #[.int .i64 x.kind, .int .i64 x.n, .string x.name, .slice x.at_.1 x.args.length x.at_.2]) _
            have hT0 := end_nil (by omega) hT; obtain ⟨⟨e0, e1, e2, e3⟩, _⟩ := HKX.out W (HUQ.out.trans hT0)
            simp only [execOp, Act.eval, h5]
            go_simp
            exact ⟨Turned.refl _ _, rfl⟩
        case s1 =>
          refine fun hs hle => stepG_free [] [] (by kernel_rfl) rfl ?_
          · intro ac W hT hI hO
            show Brings Try.prog (fun v w' => Turned (fun _ => False) W w' ∧ v = .slice none 0 0) _
            simp only [execOp, Act.eval]
            go_simp
            try exact ⟨Turned.refl _ _, rfl⟩
        case s2 =>
          refine fun hs hlen => stepG_free [41] [11] (by kernel_rfl) rfl ?_
          · intro ac W hT hI hO
            have h41 : ac.tmps.getD 41 undef = .agg #[.int .i64 x.kind, .int .i64 x.n, .string x.name, .slice x.at_.1 x.args.length x.at_.2] := hI 41 (by simp)
            have h11 : ac.tmps.getD 11 undef = .pointer (some ⟨bE, 0, none⟩) := hO 11 (by simp)
            show Brings Try.prog (fun v w' => EndS bE 41 x wq (hs ++ [v]) w') _
            obtain rfl : hs = [] := List.eq_nil_of_length_eq_zero hlen
            replace hT : Turned (fun _ => False) wq W := hT
            have hb1 := (hT.block bE (Array.getElem?_eq_some_iff.1 HBE.out).1 (fun f => f)).trans HBE.out
            obtain ⟨d0, d1, d2, d3, f0, f1, f2, f3⟩ := cells4 hb1
            simp only [execOp, Act.eval, h41, h11]
            go_simp
            exact ⟨set4 hb1, ((((hT.mono (T := fun k => k = bE) (fun _ _ f => f.elim)).setCell (p := ⟨bE, 0, none⟩) (.inr rfl) _).setCell (p := ⟨bE, 1, none⟩) (.inr rfl) _).setCell (p := ⟨bE, 2, none⟩) (.inr rfl) _).setCell (p := ⟨bE, 3, none⟩) (.inr rfl) _⟩
      case hQ =>
        intro hs vq wz hlen hR hV
        have q10 : vq 10 = .slice none 0 0 := hV 10 (by simp)
        obtain ⟨r1, r2⟩ := end_one hlen hR
        obtain ⟨vt, hvt⟩ : ∃ z : List LT, z = [] := ⟨_, rfl⟩
        obtain ⟨mb, hmb⟩ : ∃ z : Option Addr, z = none := ⟨_, rfl⟩
        obtain ⟨md, hmd⟩ : ∃ z : Nat, z = 0 := ⟨_, rfl⟩
        replace q10 : vq 10 = .slice mb vt.length md := q10.trans (by rw [hvt, hmb, hmd]; rfl)
        simp only [List.foldl_cons, List.foldl_nil, List.setIfInBounds_toArray, List.set_cons_zero, List.set_cons_succ, q10]
        clear hV q10 hlen hR hs
        have hc : ∀ {q : Addr} {v : Value}, w7.cell? q = some v → wz.cell? q = some v := fun h => r2.cell (HTQ.out.cell0 h) (fun e => by have := World.block_lt_of_cell? w7 _ h; have := HbE.out; omega)
        have hc4 : ∀ {g : Nat} {u : LT}, (w7.cell? ⟨g, 0, none⟩ = some (.int .i64 u.kind) ∧ w7.cell? ⟨g, 1, none⟩ = some (.int .i64 u.n) ∧ w7.cell? ⟨g, 2, none⟩ = some (.string u.name) ∧ w7.cell? ⟨g, 3, none⟩ = some (.slice u.at_.1 u.args.length u.at_.2)) → (wz.cell? ⟨g, 0, none⟩ = some (.int .i64 u.kind) ∧ wz.cell? ⟨g, 1, none⟩ = some (.int .i64 u.n) ∧ wz.cell? ⟨g, 2, none⟩ = some (.string u.name) ∧ wz.cell? ⟨g, 3, none⟩ = some (.slice u.at_.1 u.args.length u.at_.2)) := fun h => ⟨hc h.1, hc h.2.1, hc h.2.2.1, hc h.2.2.2⟩
        have hi : ∀ u : LT, u.In (fun _ => True) w7 → u.In (fun _ => True) wz := fun u h => LT.In.turned r2 (fun k _ hk e => by have := HbE.out; omega) (fun _ _ _ => trivial) u (LT.In.turned (q := fun k => k < w7.heap.size) HTQ.out (fun _ _ _ f => f) (fun k hk _ => hk) u h)
        have UZ : Turned (fun _ => False) w4 wz := HUQ.out.step r2 (fun i hi e => by have := HU7.out.size; have := HbE.out; omega)
        have HB : Hid (tl.bare = x.bare) := by show _ = _; rw [HTL.out]; exact HXB.out.symm
        have HUV : Hid (us.map Tm.bare = vt.map Tm.bare) := by show _ = _; rw [HUS.out, hvt]
        have HLE : Hid (us.length = vt.length) := by show _ = _; rw [HUS.out, hvt]
        have SI : Hid (SaysI w.heap.size (w.heap.size + 1) gx gy bT bE a b x y tl x us vt (.slice la us.length lc) (.slice mb vt.length md) wz) :=
          ⟨hc4 (HKP.out _ (HS4.out.trans HU7.out)).1, hc4 (HKP.out _ (HS4.out.trans HU7.out)).2, hc4 (four_of ((HU7.out.block _ (Array.getElem?_eq_some_iff.1 HBX.out).1 (fun f => f)).trans HBX.out)), hc4 (four_of ((HU7.out.block _ (Array.getElem?_eq_some_iff.1 HBY.out).1 (fun f => f)).trans HBY.out)), hc4 (four_of HBT.out), four_of r1,
           hi a (HA1.out.turned0 (HS4.out.trans HU7.out)), hi b (HB1.out.turned0 (HS4.out.trans HU7.out)), hi x (HIXX.out.turned0 HU7.out), hi y (HIYY.out.turned0 HU7.out), by rw [HTL.out]; exact hi a (HA1.out.turned0 (HS4.out.trans HU7.out)), hi x (HIXX.out.turned0 HU7.out), by rw [HUS.out]; intro u hu; exact absurd hu (List.not_mem_nil), by rw [hvt]; intro u hu; exact absurd hu (List.not_mem_nil),
           (HR7.out.turned0 HTQ.out).turned r2 (fun k hk e => by have := HR7.out.lt k hk; have := HbE.out; omega), by rw [hvt, hmb, hmd]; exact Row.nil _ _ _⟩
        have HST : Hid (slim tl) := by show slim _; rw [HTL.out]; exact HSa.out
        have HSU : Hid (∀ u ∈ us, slim u) := by show ∀ u ∈ us, slim u; rw [HUS.out]; intro u hu; exact absurd hu (List.not_mem_nil)
        have HTZ := Lib.hid (HT1.out.trans (HS4.out.trans UZ))
        clear hvt hmb hmd r1 r2 hc hc4 hi HL67
        go_wp2_with fail
        have HSX' := Lib.hid (fun W (h : Turned (fun _ => False) wz W) => HSX4.out W (UZ.trans h))
        have HDX' := Lib.hid (fun W (h : Turned (fun _ => False) wz W) => HDX4.out W (UZ.trans h))
        have HSA' := Lib.hid (fun W (h : Turned (fun _ => False) wz W) => HSA4.out W (UZ.trans h))
        have HDA' := Lib.hid (fun W (h : Turned (fun _ => False) wz W) => HDDA4.out W (UZ.trans h))
        have HVA' := Lib.hid (fun W (h : Turned (fun _ => False) wz W) => HVA4.out W (UZ.trans h))
        have HVX' := Lib.hid (fun W (h : Turned (fun _ => False) wz W) => HVX4.out W (UZ.trans h))
        have HSS' := Lib.hid (fun W (h : Turned (fun _ => False) wz W) => HSS4.out W (UZ.trans h))
        have HSY' := Lib.hid (fun W (h : Turned (fun _ => False) wz W) => HSY4.out W (UZ.trans h))
        have HGA' := Lib.hid (fun W (h : Turned (fun _ => False) wz W) => HGA4.out W (UZ.trans h))
        have hot := fun W (h : Turned (fun _ => False) wz W) => own44 tl.depth tl W (Nat.le_refl _) (SI.out.it.turned0 h) HST.out
        rw [LT.val_eq tl] at hot
        have HOT := Lib.hid hot
        clear hot
        obtain ⟨B46, HB46⟩ : ∃ B, Hid (B = ((us.length : Int) != (vt.length : Int))) := ⟨_, rfl⟩
        have hB46 : B46 = false := by rw [HB46.out, HLE.out]; simp
        obtain ⟨B52, HB52⟩ : ∃ B, Hid (B = (!true)) := ⟨_, rfl⟩
        obtain ⟨B53, HB53⟩ : ∃ B, Hid (B = (B46 || B52)) := ⟨_, rfl⟩
        refine wp_region_hs [42, 43, 44, 45, 46, 47, 48, 49, 50, 51, 52, 53] [7] [1, 1, 1, 1, 1, 1, 1, 1, 1, 1, 1, 1] [49] (fun d v => (match d with | 42 => v = .slice la us.length lc | 43 => v = .int .i64 (us.length : Int) | 44 => v = .slice mb vt.length md | 45 => v = .int .i64 (vt.length : Int) | 46 => v = .bool B46 | 47 => v = .bool B46 | 48 => v = bif (true && (B46 == false)) then .agg #[.int .i64 tl.kind, .int .i64 tl.n, .string tl.name, .slice tl.at_.1 tl.args.length tl.at_.2] else undef | 50 => v = bif (true && (B46 == false)) then .agg #[.int .i64 x.kind, .int .i64 x.n, .string x.name, .slice x.at_.1 x.args.length x.at_.2] else undef | 51 => v = bif (true && (B46 == false)) then .bool true else undef | 52 => v = bif (true && (B46 == false)) then .bool B52 else undef | 53 => v = .bool B53 | _ => True : Prop)) (OneS wz tl) (by kernel_rfl) rfl (by kernel_rfl) (by kernel_rfl) (by kernel_rfl) (by kernel_rfl) (fun _ h => h) (fun hs w w' h ht => OneS.turned0 hs w w' h ht) ?hs ?hQ
        case hs =>
          refine ⟨?s0, ?s1, ?s2, ?s3, ?s4, ?s5, ?s6, ?s7, ?s8, ?s9, ?s10, ?s11, trivial⟩
          case s0 =>
            refine fun hs hle => stepG_free [] [8] (by kernel_rfl) rfl ?_
            · intro ac W hT hI hO
              have h8 : ac.tmps.getD 8 undef = .slice la us.length lc := hO 8 (by simp)
              show Brings Try.prog (fun v w' => Turned (fun _ => False) W w' ∧ v = .slice la us.length lc) _
              simp only [execOp, Act.eval, h8]
              go_simp
              try exact ⟨Turned.refl _ _, rfl⟩
          case s1 =>
            refine fun hs hle => stepG_free [42] [] (by kernel_rfl) rfl ?_
            · intro ac W hT hI hO
              have h42 : ac.tmps.getD 42 undef = .slice la us.length lc := hI 42 (by simp)
              show Brings Try.prog (fun v w' => Turned (fun _ => False) W w' ∧ v = .int .i64 (us.length : Int)) _
              simp only [execOp, Act.eval, h42]
              go_simp
              try exact ⟨Turned.refl _ _, rfl⟩
          case s2 =>
            refine fun hs hle => stepG_free [] [10] (by kernel_rfl) rfl ?_
            · intro ac W hT hI hO
              have h10 : ac.tmps.getD 10 undef = .slice mb vt.length md := hO 10 (by simp)
              show Brings Try.prog (fun v w' => Turned (fun _ => False) W w' ∧ v = .slice mb vt.length md) _
              simp only [execOp, Act.eval, h10]
              go_simp
              try exact ⟨Turned.refl _ _, rfl⟩
          case s3 =>
            refine fun hs hle => stepG_free [44] [] (by kernel_rfl) rfl ?_
            · intro ac W hT hI hO
              have h44 : ac.tmps.getD 44 undef = .slice mb vt.length md := hI 44 (by simp)
              show Brings Try.prog (fun v w' => Turned (fun _ => False) W w' ∧ v = .int .i64 (vt.length : Int)) _
              simp only [execOp, Act.eval, h44]
              go_simp
              try exact ⟨Turned.refl _ _, rfl⟩
          case s4 =>
            refine fun hs hle => stepG_free [43, 45] [] (by kernel_rfl) rfl ?_
            · intro ac W hT hI hO
              have h43 : ac.tmps.getD 43 undef = .int .i64 (us.length : Int) := hI 43 (by simp)
              have h45 : ac.tmps.getD 45 undef = .int .i64 (vt.length : Int) := hI 45 (by simp)
              show Brings Try.prog (fun v w' => Turned (fun _ => False) W w' ∧ v = .bool B46) _
              rw [HB46.out]
              simp only [execOp, Act.eval, h43, h45]
              go_simp
              try exact ⟨Turned.refl _ _, rfl⟩
          case s5 =>
            refine fun hs hle => stepG_free [46] [] (by kernel_rfl) rfl ?_
            · intro ac W hT hI hO
              have h46 : ac.tmps.getD 46 undef = .bool B46 := hI 46 (by simp)
              show Brings Try.prog (fun v w' => Turned (fun _ => False) W w' ∧ v = .bool B46) _
              simp only [execOp, Act.eval, h46]
              go_simp
              try exact ⟨Turned.refl _ _, rfl⟩
          case s6 =>
            refine fun hs hle => stepG_guard [47] [9] (by kernel_rfl) 5 false 47 rfl rfl (by simp) true B46 (fun _ _ h => h) (fun hc => ?_) (fun hc _ _ => ?_)
            rotate_left
            · refine ⟨Turned.refl _ _, ?_⟩
              show undef = bif (true && (B46 == false)) then _ else undef
              rw [hc]; rfl
            · intro ac W hT hI hO
              have h47 : ac.tmps.getD 47 undef = .bool B46 := hI 47 (by simp)
              have h9 : ac.tmps.getD 9 undef = .pointer (some ⟨bT, 0, none⟩) := hO 9 (by simp)
              show Brings Try.prog (fun v w' => Turned (fun _ => False) W w' ∧ v = bif (true && (B46 == false)) then .agg #[.int .i64 tl.kind, .int .i64 tl.n, .string tl.name, .slice tl.at_.1 tl.args.length tl.at_.2] else undef) _
              rw [hc, cond_true]
              obtain ⟨c0, c1, c2, c3⟩ := (SI.out.turned0 (OneS.turned hs W hT)).ct; obtain ⟨d0, d1, d2, d3⟩ := (SI.out.turned0 (OneS.turned hs W hT)).ce
              simp only [execOp, Act.eval, h47, h9]
              go_simp
              exact ⟨Turned.refl _ _, rfl⟩
          case s7 =>
            refine fun hs hlen => stepG_guard [48, 47] [] (by kernel_rfl) 5 false 47 rfl rfl (by simp) true B46 (fun _ _ h => h) (fun hc => ?_) (fun hc _ _ => ?_)
            rotate_left
            · exact absurd hc (by rw [hB46]; decide)
            · intro ac W hT hI hO
              have h48 : ac.tmps.getD 48 undef = bif (true && (B46 == false)) then .agg #[.int .i64 tl.kind, .int .i64 tl.n, .string tl.name, .slice tl.at_.1 tl.args.length tl.at_.2] else undef := hI 48 (by simp)
              rw [hc, cond_true] at h48
              have h47 : ac.tmps.getD 47 undef = .bool B46 := hI 47 (by simp)
              show Brings Try.prog (fun v w' => OneS wz tl (hs ++ [v]) w') _
              obtain rfl : hs = [] := List.eq_nil_of_length_eq_zero hlen
              replace hT : Turned (fun _ => False) wz W := hT
              simp only [execOp, Act.eval, h48, h47]
              go_simp
              show Calls Try.prog 44 _ W _
              (with_reducible refine (HOT.out W hT).mono ?_)
              rintro e w' ⟨u, rfl, hb, hu, T'⟩
              exact ⟨_, rfl, hT.trans T', u, rfl, hb, hu.mono (fun _ _ _ => trivial)⟩
          case s8 =>
            refine fun hs hle => stepG_guard [47] [11] (by kernel_rfl) 5 false 47 rfl rfl (by simp) true B46 (fun _ _ h => h) (fun hc => ?_) (fun hc _ _ => ?_)
            rotate_left
            · refine ⟨Turned.refl _ _, ?_⟩
              show undef = bif (true && (B46 == false)) then _ else undef
              rw [hc]; rfl
            · intro ac W hT hI hO
              have h47 : ac.tmps.getD 47 undef = .bool B46 := hI 47 (by simp)
              have h11 : ac.tmps.getD 11 undef = .pointer (some ⟨bE, 0, none⟩) := hO 11 (by simp)
              show Brings Try.prog (fun v w' => Turned (fun _ => False) W w' ∧ v = bif (true && (B46 == false)) then .agg #[.int .i64 x.kind, .int .i64 x.n, .string x.name, .slice x.at_.1 x.args.length x.at_.2] else undef) _
              rw [hc, cond_true]
              obtain ⟨c0, c1, c2, c3⟩ := (SI.out.turned0 (OneS.turned hs W hT)).ct; obtain ⟨d0, d1, d2, d3⟩ := (SI.out.turned0 (OneS.turned hs W hT)).ce
              simp only [execOp, Act.eval, h47, h11]
              go_simp
              exact ⟨Turned.refl _ _, rfl⟩
          case s9 =>
            refine fun hs hle => stepG_guard [49, 50, 47] [] (by kernel_rfl) 5 false 47 rfl rfl (by simp) true B46 (fun _ _ h => h) (fun hc => ?_) (fun hc _ _ => ?_)
            rotate_left
            · refine ⟨Turned.refl _ _, ?_⟩
              show undef = bif (true && (B46 == false)) then _ else undef
              rw [hc]; rfl
            · intro ac W hT hI hO
              have h49 : hs[0]? = some (ac.tmps.getD 49 undef) := hI 49 (by simp)
              have h50 : ac.tmps.getD 50 undef = bif (true && (B46 == false)) then .agg #[.int .i64 x.kind, .int .i64 x.n, .string x.name, .slice x.at_.1 x.args.length x.at_.2] else undef := hI 50 (by simp)
              rw [hc, cond_true] at h50
              have h47 : ac.tmps.getD 47 undef = .bool B46 := hI 47 (by simp)
              show Brings Try.prog (fun v w' => Turned (fun _ => False) W w' ∧ v = bif (true && (B46 == false)) then .bool true else undef) _
              rw [hc, cond_true]
              obtain ⟨u, eu, hbu, iu⟩ := OneS.at hT h49
              rw [LT.val_eq] at eu
              simp only [execOp, Act.eval, eu, h50]
              go_simp
              have hsm := rSame48 (p := fun _ => True) u.depth u x W (Nat.le_refl _) iu ((SI.out.turned0 (OneS.turned hs W hT)).ie)
              rw [LT.val_eq u, LT.val_eq x, same_of_bare (hbu.trans HB.out)] at hsm
              show Calls Try.prog 48 _ W _
              (with_reducible refine hsm.mono ?_)
              rintro e w' ⟨rfl, T'⟩
              exact ⟨_, rfl, T', rfl⟩
          case s10 =>
            refine fun hs hle => stepG_guard [51, 47] [] (by kernel_rfl) 5 false 47 rfl rfl (by simp) true B46 (fun _ _ h => h) (fun hc => ?_) (fun hc _ _ => ?_)
            rotate_left
            · refine ⟨Turned.refl _ _, ?_⟩
              show undef = bif (true && (B46 == false)) then _ else undef
              rw [hc]; rfl
            · intro ac W hT hI hO
              have h51 : ac.tmps.getD 51 undef = bif (true && (B46 == false)) then .bool true else undef := hI 51 (by simp)
              rw [hc, cond_true] at h51
              have h47 : ac.tmps.getD 47 undef = .bool B46 := hI 47 (by simp)
              show Brings Try.prog (fun v w' => Turned (fun _ => False) W w' ∧ v = bif (true && (B46 == false)) then .bool B52 else undef) _
              rw [hc, cond_true]
              rw [HB52.out]
              simp only [execOp, Act.eval, h51, h47]
              go_simp
              try exact ⟨Turned.refl _ _, rfl⟩
          case s11 =>
            refine fun hs hle => stepG_free [47, 52] [] (by kernel_rfl) rfl ?_
            · intro ac W hT hI hO
              have h47 : ac.tmps.getD 47 undef = .bool B46 := hI 47 (by simp)
              have h52 : ac.tmps.getD 52 undef = bif (true && (B46 == false)) then .bool B52 else undef := hI 52 (by simp)
              show Brings Try.prog (fun v w' => Turned (fun _ => False) W w' ∧ v = .bool B53) _
              rw [HB53.out]
              cases hB : B46
              · simp only [hB] at *
                simp [execOp, Act.eval, go_sem, Brings, h47, h52]
                try exact Turned.refl _ _
              · simp only [hB] at *
                simp [execOp, Act.eval, go_sem, Brings, h47, h52]
                try exact Turned.refl _ _
        case hQ =>
          intro hs vq w11 hlen hR hV
          have q53 : vq 53 = .bool B53 := hV 53 (by simp)
          have hB53 : B53 = false := by
            rw [HB53.out, HB52.out, hB46]; rfl
          rw [hB53] at q53
          have T11 := OneS.turned hs w11 hR
          simp only [List.foldl_cons, List.foldl_nil, List.setIfInBounds_toArray, List.set_cons_zero, List.set_cons_succ, q53]
          clear hV q53 hlen hR hs
          go_wp2_with fail
          go_loopg [12] us.length (fun g i wr => ∃ j : Nat, Hid (j + g = us.length) ∧ j ≤ us.length ∧ i = .int .i64 j ∧ Turned (fun _ => False) w11 wr)
          case atStart => exact ⟨0, Nat.zero_add _, Nat.zero_le _, rfl, Turned.refl _ _⟩
          case round =>
            obtain ⟨j, HG, hj, rfl, Tr⟩ := hrel
            by_cases hjl : j < us.length
            · have SW := SI.out.turned0 (T11.trans Tr)
              obtain ⟨u, hu⟩ : ∃ u, us[j]? = some u := ⟨_, List.getElem?_eq_getElem hjl⟩
              obtain ⟨z, hz⟩ : ∃ z, vt[j]? = some z := ⟨_, List.getElem?_eq_getElem (by have := HLE.out; omega)⟩
              have HUZ : Hid (u.bare = z.bare) := bare_at HUV.out hu hz
              have hou := fun W (h : Turned (fun _ => False) wr W) => own44 u.depth u W (Nat.le_refl _) ((SW.iu u (List.mem_of_getElem? hu)).turned0 h) (HSU.out u (List.mem_of_getElem? hu))
              rw [LT.val_eq u] at hou
              have HOU := Lib.hid hou
              have HIZ := Lib.hid (SW.iv z (List.mem_of_getElem? hz))
              obtain ⟨gl, rfl, c0, c1, c2, c3⟩ := row_at SW.rl hu
              obtain ⟨gm, rfl, d0, d1, d2, d3⟩ := row_at SW.rm hz
              have hm1 := SW.rl.max
              have hm2 := SW.rm.max
              have z1 : (j : Int) < (vt.length : Int) := by have := HLE.out; omega
              have z2 : j < vt.length := by have := HLE.out; omega
              clear hou SW hu hz
              go_wp2_with fail
              obtain ⟨B70, HB70⟩ : ∃ B, Hid (B = (!true)) := ⟨_, rfl⟩
              refine wp_region_hs [60, 61, 62, 63, 64, 65, 66, 67, 68, 69, 70] [4] [1, 1, 1, 1, 1, 1, 1, 1, 1, 1, 1] [64] (fun d v => (match d with | 60 => v = .slice (some ⟨gl, 0, none⟩) us.length lc | 61 => v = .int .i64 (j : Int) | 62 => v = .pointer (some ⟨gl, j * 4, none⟩) | 63 => v = .agg #[.int .i64 u.kind, .int .i64 u.n, .string u.name, .slice u.at_.1 u.args.length u.at_.2] | 65 => v = .slice (some ⟨gm, 0, none⟩) vt.length md | 66 => v = .int .i64 (j : Int) | 67 => v = .pointer (some ⟨gm, j * 4, none⟩) | 68 => v = .agg #[.int .i64 z.kind, .int .i64 z.n, .string z.name, .slice z.at_.1 z.args.length z.at_.2] | 69 => v = .bool true | 70 => v = .bool B70 | _ => True : Prop)) (OneS wr u) (by kernel_rfl) rfl (by kernel_rfl) (by kernel_rfl) (by kernel_rfl) (by kernel_rfl) (fun _ h => h) (fun hs w w' h ht => OneS.turned0 hs w w' h ht) ?hs ?hQ
              case hs =>
                refine ⟨?s0, ?s1, ?s2, ?s3, ?s4, ?s5, ?s6, ?s7, ?s8, ?s9, ?s10, trivial⟩
                case s0 =>
                  refine fun hs hle => stepG_free [] [8] (by kernel_rfl) rfl ?_
                  · intro ac W hT hI hO
                    have h8 : ac.tmps.getD 8 undef = .slice (some ⟨gl, 0, none⟩) us.length lc := hO 8 (by simp)
                    show Brings Try.prog (fun v w' => Turned (fun _ => False) W w' ∧ v = .slice (some ⟨gl, 0, none⟩) us.length lc) _
                    simp only [execOp, Act.eval, h8]
                    go_simp
                    try exact ⟨Turned.refl _ _, rfl⟩
                case s1 =>
                  refine fun hs hle => stepG_free [] [12] (by kernel_rfl) rfl ?_
                  · intro ac W hT hI hO
                    have h12 : ac.tmps.getD 12 undef = .int .i64 (j : Int) := hO 12 (by simp)
                    show Brings Try.prog (fun v w' => Turned (fun _ => False) W w' ∧ v = .int .i64 (j : Int)) _
                    simp only [execOp, Act.eval, h12]
                    go_simp
                    try exact ⟨Turned.refl _ _, rfl⟩
                case s2 =>
                  refine fun hs hle => stepG_free [60, 61] [] (by kernel_rfl) rfl ?_
                  · intro ac W hT hI hO
                    have h60 : ac.tmps.getD 60 undef = .slice (some ⟨gl, 0, none⟩) us.length lc := hI 60 (by simp)
                    have h61 : ac.tmps.getD 61 undef = .int .i64 (j : Int) := hI 61 (by simp)
                    show Brings Try.prog (fun v w' => Turned (fun _ => False) W w' ∧ v = .pointer (some ⟨gl, j * 4, none⟩)) _
                    simp only [execOp, Act.eval, h60, h61]
                    go_simp
                    try exact ⟨Turned.refl _ _, rfl⟩
                case s3 =>
                  refine fun hs hle => stepG_free [62] [] (by kernel_rfl) rfl ?_
                  · intro ac W hT hI hO
                    have h62 : ac.tmps.getD 62 undef = .pointer (some ⟨gl, j * 4, none⟩) := hI 62 (by simp)
                    show Brings Try.prog (fun v w' => Turned (fun _ => False) W w' ∧ v = .agg #[.int .i64 u.kind, .int .i64 u.n, .string u.name, .slice u.at_.1 u.args.length u.at_.2]) _
                    have Tq := OneS.turned hs W hT; have c0 := Tq.cell0 c0; have c1 := Tq.cell0 c1; have c2 := Tq.cell0 c2; have c3 := Tq.cell0 c3; have d0 := Tq.cell0 d0; have d1 := Tq.cell0 d1; have d2 := Tq.cell0 d2; have d3 := Tq.cell0 d3
                    simp only [execOp, Act.eval, h62]
                    go_simp
                    exact ⟨Turned.refl _ _, rfl⟩
                case s4 =>
                  refine fun hs hlen => stepG_free [63] [] (by kernel_rfl) rfl ?_
                  · intro ac W hT hI hO
                    have h63 : ac.tmps.getD 63 undef = .agg #[.int .i64 u.kind, .int .i64 u.n, .string u.name, .slice u.at_.1 u.args.length u.at_.2] := hI 63 (by simp)
                    show Brings Try.prog (fun v w' => OneS wr u (hs ++ [v]) w') _
                    obtain rfl : hs = [] := List.eq_nil_of_length_eq_zero hlen
                    replace hT : Turned (fun _ => False) wr W := hT
                    simp only [execOp, Act.eval, h63]
                    go_simp
                    show Calls Try.prog 44 _ W _
                    (with_reducible refine (HOU.out W hT).mono ?_)
                    rintro e w' ⟨u, rfl, hb, hu, T'⟩
                    exact ⟨_, rfl, hT.trans T', u, rfl, hb, hu.mono (fun _ _ _ => trivial)⟩
                case s5 =>
                  refine fun hs hle => stepG_free [] [10] (by kernel_rfl) rfl ?_
                  · intro ac W hT hI hO
                    have h10 : ac.tmps.getD 10 undef = .slice (some ⟨gm, 0, none⟩) vt.length md := hO 10 (by simp)
                    show Brings Try.prog (fun v w' => Turned (fun _ => False) W w' ∧ v = .slice (some ⟨gm, 0, none⟩) vt.length md) _
                    simp only [execOp, Act.eval, h10]
                    go_simp
                    try exact ⟨Turned.refl _ _, rfl⟩
                case s6 =>
                  refine fun hs hle => stepG_free [] [12] (by kernel_rfl) rfl ?_
                  · intro ac W hT hI hO
                    have h12 : ac.tmps.getD 12 undef = .int .i64 (j : Int) := hO 12 (by simp)
                    show Brings Try.prog (fun v w' => Turned (fun _ => False) W w' ∧ v = .int .i64 (j : Int)) _
                    simp only [execOp, Act.eval, h12]
                    go_simp
                    try exact ⟨Turned.refl _ _, rfl⟩
                case s7 =>
                  refine fun hs hle => stepG_free [65, 66] [] (by kernel_rfl) rfl ?_
                  · intro ac W hT hI hO
                    have h65 : ac.tmps.getD 65 undef = .slice (some ⟨gm, 0, none⟩) vt.length md := hI 65 (by simp)
                    have h66 : ac.tmps.getD 66 undef = .int .i64 (j : Int) := hI 66 (by simp)
                    show Brings Try.prog (fun v w' => Turned (fun _ => False) W w' ∧ v = .pointer (some ⟨gm, j * 4, none⟩)) _
                    simp only [execOp, Act.eval, h65, h66]
                    go_simp
                    try exact ⟨Turned.refl _ _, rfl⟩
                case s8 =>
                  refine fun hs hle => stepG_free [67] [] (by kernel_rfl) rfl ?_
                  · intro ac W hT hI hO
                    have h67 : ac.tmps.getD 67 undef = .pointer (some ⟨gm, j * 4, none⟩) := hI 67 (by simp)
                    show Brings Try.prog (fun v w' => Turned (fun _ => False) W w' ∧ v = .agg #[.int .i64 z.kind, .int .i64 z.n, .string z.name, .slice z.at_.1 z.args.length z.at_.2]) _
                    have Tq := OneS.turned hs W hT; have c0 := Tq.cell0 c0; have c1 := Tq.cell0 c1; have c2 := Tq.cell0 c2; have c3 := Tq.cell0 c3; have d0 := Tq.cell0 d0; have d1 := Tq.cell0 d1; have d2 := Tq.cell0 d2; have d3 := Tq.cell0 d3
                    simp only [execOp, Act.eval, h67]
                    go_simp
                    exact ⟨Turned.refl _ _, rfl⟩
                case s9 =>
                  refine fun hs hle => stepG_free [64, 68] [] (by kernel_rfl) rfl ?_
                  · intro ac W hT hI hO
                    have h64 : hs[0]? = some (ac.tmps.getD 64 undef) := hI 64 (by simp)
                    have h68 : ac.tmps.getD 68 undef = .agg #[.int .i64 z.kind, .int .i64 z.n, .string z.name, .slice z.at_.1 z.args.length z.at_.2] := hI 68 (by simp)
                    show Brings Try.prog (fun v w' => Turned (fun _ => False) W w' ∧ v = .bool true) _
                    obtain ⟨u, eu, hbu, iu⟩ := OneS.at hT h64
                    rw [LT.val_eq] at eu
                    simp only [execOp, Act.eval, eu, h68]
                    go_simp
                    have hsm := rSame48 (p := fun _ => True) u.depth u z W (Nat.le_refl _) iu (HIZ.out.turned0 (OneS.turned hs W hT))
                    rw [LT.val_eq u, LT.val_eq z, same_of_bare (hbu.trans HUZ.out)] at hsm
                    show Calls Try.prog 48 _ W _
                    (with_reducible refine hsm.mono ?_)
                    rintro e w' ⟨rfl, T'⟩
                    exact ⟨_, rfl, T', rfl⟩
                case s10 =>
                  refine fun hs hle => stepG_free [69] [] (by kernel_rfl) rfl ?_
                  · intro ac W hT hI hO
                    have h69 : ac.tmps.getD 69 undef = .bool true := hI 69 (by simp)
                    show Brings Try.prog (fun v w' => Turned (fun _ => False) W w' ∧ v = .bool B70) _
                    rw [HB70.out]
                    simp only [execOp, Act.eval, h69]
                    go_simp
                    try exact ⟨Turned.refl _ _, rfl⟩
              case hQ =>
                intro hs vq w16 hlen hR hV
                have q70 : vq 70 = .bool B70 := hV 70 (by simp)
                have hB70 : B70 = false := by rw [HB70.out]; rfl
                rw [hB70] at q70
                have T16 := OneS.turned hs w16 hR
                simp only [List.foldl_cons, List.foldl_nil, List.setIfInBounds_toArray, List.set_cons_zero, List.set_cons_succ, q70]
                clear hV q70 hlen hR hs
                go_wp2_with fail
                go_roundg (gk - 1)
                case measure => have := HG.out; omega
                case rel => exact ⟨j + 1, show _ = _ by have := HG.out; omega, by omega, by go_num, Tr.trans T16⟩
            · have TZ := T11.trans Tr
              go_wp2_with fail
              refine wp_region_hs [71, 72, 73, 74, 13, 14] [] [0, 0, 0, 0, 0, 0] [] (fun d v => (match d with | 71 => v = .agg #[.int .i64 x.kind, .int .i64 x.n, .string x.name, .slice x.at_.1 x.args.length x.at_.2] | 72 => v = .int .i64 ((min a.size 2001 : Nat) : Int) | 73 => v = .agg #[.int .i64 x.kind, .int .i64 x.n, .string x.name, .slice x.at_.1 x.args.length x.at_.2] | 74 => v = .int .i64 ((min a.depth 65 : Nat) : Int) | 13 => v = .int .i64 ((min a.size 2001 : Nat) : Int) | 14 => v = .int .i64 ((min a.depth 65 : Nat) : Int) | _ => True : Prop)) (fun _ W => Turned (fun _ => False) wr W) (by kernel_rfl) rfl (by kernel_rfl) (by kernel_rfl) (by kernel_rfl) (by kernel_rfl) (fun _ h => h) (fun _ _ _ h ht => h.trans ht) ?hs ?hQ
              case hs =>
                refine ⟨?s0, ?s1, ?s2, ?s3, ?s4, ?s5, trivial⟩
                case s0 =>
                  refine fun hs hle => stepG_free [] [5] (by kernel_rfl) rfl ?_
                  · intro ac W hT hI hO
                    have h5 : ac.tmps.getD 5 undef = .pointer (some ⟨gx, 0, none⟩) := hO 5 (by simp)
                    show Brings Try.prog (fun v w' => Turned (fun _ => False) W w' ∧ v = .agg #[.int .i64 x.kind, .int .i64 x.n, .string x.name, .slice x.at_.1 x.args.length x.at_.2]) _
                    have SW := SI.out.turned0 (TZ.trans hT); obtain ⟨c0, c1, c2, c3⟩ := SW.cx
                    simp only [execOp, Act.eval, h5]
                    go_simp
                    exact ⟨Turned.refl _ _, rfl⟩
                case s1 =>
                  refine fun hs hle => stepG_free [71] [] (by kernel_rfl) rfl ?_
                  · intro ac W hT hI hO
                    have h71 : ac.tmps.getD 71 undef = .agg #[.int .i64 x.kind, .int .i64 x.n, .string x.name, .slice x.at_.1 x.args.length x.at_.2] := hI 71 (by simp)
                    show Brings Try.prog (fun v w' => Turned (fun _ => False) W w' ∧ v = .int .i64 ((min a.size 2001 : Nat) : Int)) _
                    simp only [execOp, Act.eval, h71]
                    go_simp
                    show Calls Try.prog 49 _ W _
                    (with_reducible refine (HSX'.out W (TZ.trans hT)).mono ?_)
                    rintro e w' ⟨rfl, T'⟩
                    exact ⟨_, rfl, T', rfl⟩
                case s2 =>
                  refine fun hs hle => stepG_free [] [5] (by kernel_rfl) rfl ?_
                  · intro ac W hT hI hO
                    have h5 : ac.tmps.getD 5 undef = .pointer (some ⟨gx, 0, none⟩) := hO 5 (by simp)
                    show Brings Try.prog (fun v w' => Turned (fun _ => False) W w' ∧ v = .agg #[.int .i64 x.kind, .int .i64 x.n, .string x.name, .slice x.at_.1 x.args.length x.at_.2]) _
                    have SW := SI.out.turned0 (TZ.trans hT); obtain ⟨c0, c1, c2, c3⟩ := SW.cx
                    simp only [execOp, Act.eval, h5]
                    go_simp
                    exact ⟨Turned.refl _ _, rfl⟩
                case s3 =>
                  refine fun hs hle => stepG_free [73] [] (by kernel_rfl) rfl ?_
                  · intro ac W hT hI hO
                    have h73 : ac.tmps.getD 73 undef = .agg #[.int .i64 x.kind, .int .i64 x.n, .string x.name, .slice x.at_.1 x.args.length x.at_.2] := hI 73 (by simp)
                    show Brings Try.prog (fun v w' => Turned (fun _ => False) W w' ∧ v = .int .i64 ((min a.depth 65 : Nat) : Int)) _
                    simp only [execOp, Act.eval, h73]
                    go_simp
                    show Calls Try.prog 50 _ W _
                    (with_reducible refine (HDX'.out W (TZ.trans hT)).mono ?_)
                    rintro e w' ⟨rfl, T'⟩
                    exact ⟨_, rfl, T', rfl⟩
                case s4 =>
                  refine fun hs hle => stepG_free [72] [] (by kernel_rfl) rfl ?_
                  · intro ac W hT hI hO
                    have h72 : ac.tmps.getD 72 undef = .int .i64 ((min a.size 2001 : Nat) : Int) := hI 72 (by simp)
                    show Brings Try.prog (fun v w' => Turned (fun _ => False) W w' ∧ v = .int .i64 ((min a.size 2001 : Nat) : Int)) _
                    simp only [execOp, Act.eval, h72]
                    go_simp
                    try exact ⟨Turned.refl _ _, rfl⟩
                case s5 =>
                  refine fun hs hle => stepG_free [74] [] (by kernel_rfl) rfl ?_
                  · intro ac W hT hI hO
                    have h74 : ac.tmps.getD 74 undef = .int .i64 ((min a.depth 65 : Nat) : Int) := hI 74 (by simp)
                    show Brings Try.prog (fun v w' => Turned (fun _ => False) W w' ∧ v = .int .i64 ((min a.depth 65 : Nat) : Int)) _
                    simp only [execOp, Act.eval, h74]
                    go_simp
                    try exact ⟨Turned.refl _ _, rfl⟩
              case hQ =>
                intro hs vq w18 hlen T18 hV
                have q13 : vq 13 = .int .i64 ((min a.size 2001 : Nat) : Int) := hV 13 (by simp)
                have q14 : vq 14 = .int .i64 ((min a.depth 65 : Nat) : Int) := hV 14 (by simp)
                simp only [List.foldl_cons, List.foldl_nil, List.setIfInBounds_toArray, List.set_cons_zero, List.set_cons_succ, q13, q14]
                clear hV q13 q14 hlen hs
                have TY := TZ.trans T18
                go_wp2_with fail
                obtain ⟨B78, HB78⟩ : ∃ B, Hid (B = (false == false)) := ⟨_, rfl⟩
                obtain ⟨B83, HB83⟩ : ∃ B, Hid (B = (((min a.size 2001 : Nat) : Int) == ((min a.size 2001 : Nat) : Int))) := ⟨_, rfl⟩
                obtain ⟨B84, HB84⟩ : ∃ B, Hid (B = (B78 && B83)) := ⟨_, rfl⟩
                obtain ⟨B89, HB89⟩ : ∃ B, Hid (B = (((min a.depth 65 : Nat) : Int) == ((min a.depth 65 : Nat) : Int))) := ⟨_, rfl⟩
                obtain ⟨B90, HB90⟩ : ∃ B, Hid (B = (B84 && B89)) := ⟨_, rfl⟩
                obtain ⟨B97, HB97⟩ : ∃ B, Hid (B = (B90 && true)) := ⟨_, rfl⟩
                obtain ⟨B107, HB107⟩ : ∃ B, Hid (B = (false && (Tm.same x y))) := ⟨_, rfl⟩
                obtain ⟨B108, HB108⟩ : ∃ B, Hid (B = (SS == B107)) := ⟨_, rfl⟩
                obtain ⟨B109, HB109⟩ : ∃ B, Hid (B = (B97 && B108)) := ⟨_, rfl⟩
                have hB78 : B78 = true := by rw [HB78.out]; rfl
                have hB83 : B83 = true := by rw [HB83.out]; simp
                have hB84 : B84 = true := by rw [HB84.out, hB78, hB83]; rfl
                have hB89 : B89 = true := by rw [HB89.out]; simp
                have hB90 : B90 = true := by rw [HB90.out, hB84, hB89]; rfl
                have hB97 : B97 = true := by rw [HB97.out, hB90]; rfl
                have hB109 : B109 = true := by
                  rw [HB109.out, HB108.out, HB107.out, hB97, HSF.out]
                  first
                    | rfl
                    | (cases SS <;> rfl)
                    | simp
                refine wp_region_hs [75, 76, 77, 78, 79, 80, 81, 82, 83, 84, 85, 86, 87, 88, 89, 90, 91, 92, 93, 94, 95, 96, 97, 98, 99, 100, 101, 102, 103, 104, 105, 106, 107, 108, 109, 4] [18, 20] [2, 2, 2, 2, 2, 2, 2, 2, 2, 2, 2, 2, 2, 2, 2, 2, 2, 2, 2, 2, 2, 2, 2, 2, 2, 2, 2, 2, 2, 2, 2, 2, 2, 2, 2, 2] [93, 95] (fun d v => (match d with | 75 => v = .agg #[.int .i64 a.kind, .int .i64 a.n, .string a.name, .slice a.at_.1 a.args.length a.at_.2] | 76 => v = .bool false | 77 => v = .bool false | 78 => v = .bool B78 | 79 => v = .bool B78 | 80 => v = bif (true && (B78 == true)) then .agg #[.int .i64 a.kind, .int .i64 a.n, .string a.name, .slice a.at_.1 a.args.length a.at_.2] else undef | 81 => v = bif (true && (B78 == true)) then .int .i64 ((min a.size 2001 : Nat) : Int) else undef | 82 => v = bif (true && (B78 == true)) then .int .i64 ((min a.size 2001 : Nat) : Int) else undef | 83 => v = bif (true && (B78 == true)) then .bool B83 else undef | 84 => v = .bool B84 | 85 => v = .bool B84 | 86 => v = bif (true && (B84 == true)) then .agg #[.int .i64 a.kind, .int .i64 a.n, .string a.name, .slice a.at_.1 a.args.length a.at_.2] else undef | 87 => v = bif (true && (B84 == true)) then .int .i64 ((min a.depth 65 : Nat) : Int) else undef | 88 => v = bif (true && (B84 == true)) then .int .i64 ((min a.depth 65 : Nat) : Int) else undef | 89 => v = bif (true && (B84 == true)) then .bool B89 else undef | 90 => v = .bool B90 | 91 => v = .bool B90 | 92 => v = bif (true && (B90 == true)) then .agg #[.int .i64 a.kind, .int .i64 a.n, .string a.name, .slice a.at_.1 a.args.length a.at_.2] else undef | 94 => v = bif (true && (B90 == true)) then .agg #[.int .i64 x.kind, .int .i64 x.n, .string x.name, .slice x.at_.1 x.args.length x.at_.2] else undef | 96 => v = bif (true && (B90 == true)) then .bool true else undef | 97 => v = .bool B97 | 98 => v = .bool B97 | 99 => v = bif (true && (B97 == true)) then .agg #[.int .i64 a.kind, .int .i64 a.n, .string a.name, .slice a.at_.1 a.args.length a.at_.2] else undef | 100 => v = bif (true && (B97 == true)) then .agg #[.int .i64 b.kind, .int .i64 b.n, .string b.name, .slice b.at_.1 b.args.length b.at_.2] else undef | 101 => v = bif (true && (B97 == true)) then .bool SS else undef | 102 => v = bif (true && (B97 == true)) then .bool false else undef | 103 => v = bif (true && (B97 == true)) then .bool false else undef | 104 => v = bif ((true && (B97 == true)) && (false == true)) then .agg #[.int .i64 x.kind, .int .i64 x.n, .string x.name, .slice x.at_.1 x.args.length x.at_.2] else undef | 105 => v = bif ((true && (B97 == true)) && (false == true)) then .agg #[.int .i64 y.kind, .int .i64 y.n, .string y.name, .slice y.at_.1 y.args.length y.at_.2] else undef | 106 => v = bif ((true && (B97 == true)) && (false == true)) then .bool (Tm.same x y) else undef | 107 => v = bif (true && (B97 == true)) then .bool B107 else undef | 108 => v = bif (true && (B97 == true)) then .bool B108 else undef | 109 => v = .bool B109 | 4 => v = .bool B109 | _ => True : Prop)) (VarsS w18 (varsB a)) (by kernel_rfl) rfl (by kernel_rfl) (by kernel_rfl) (by kernel_rfl) (by kernel_rfl) (fun _ h => h) (fun hs w w' h ht => VarsS.turned0 hs w w' h ht) ?hs ?hQ
                case hs =>
                  refine ⟨?s0, ?s1, ?s2, ?s3, ?s4, ?s5, ?s6, ?s7, ?s8, ?s9, ?s10, ?s11, ?s12, ?s13, ?s14, ?s15, ?s16, ?s17, ?s18, ?s19, ?s20, ?s21, ?s22, ?s23, ?s24, ?s25, ?s26, ?s27, ?s28, ?s29, ?s30, ?s31, ?s32, ?s33, ?s34, ?s35, trivial⟩
                  case s0 =>
                    refine fun hs hle => stepG_free [] [2] (by kernel_rfl) rfl ?_
                    · intro ac W hT hI hO
                      have h2 : ac.tmps.getD 2 undef = .pointer (some ⟨w.heap.size, 0, none⟩) := hO 2 (by simp)
                      show Brings Try.prog (fun v w' => Turned (fun _ => False) W w' ∧ v = .agg #[.int .i64 a.kind, .int .i64 a.n, .string a.name, .slice a.at_.1 a.args.length a.at_.2]) _
                      have SW := SI.out.turned0 (TY.trans (VarsS.turned hs W hT)); obtain ⟨c0, c1, c2, c3⟩ := SW.ca; obtain ⟨d0, d1, d2, d3⟩ := SW.cb; obtain ⟨e0, e1, e2, e3⟩ := SW.cx; obtain ⟨f0, f1, f2, f3⟩ := SW.cy
                      simp only [execOp, Act.eval, h2]
                      go_simp
                      exact ⟨Turned.refl _ _, rfl⟩
                  case s1 =>
                    refine fun hs hle => stepG_free [75] [] (by kernel_rfl) rfl ?_
                    · intro ac W hT hI hO
                      have h75 : ac.tmps.getD 75 undef = .agg #[.int .i64 a.kind, .int .i64 a.n, .string a.name, .slice a.at_.1 a.args.length a.at_.2] := hI 75 (by simp)
                      show Brings Try.prog (fun v w' => Turned (fun _ => False) W w' ∧ v = .bool false) _
                      simp only [execOp, Act.eval, h75]
                      go_simp
                      show Calls Try.prog 38 _ W _
                      (with_reducible refine (HGA'.out W (TY.trans (VarsS.turned hs W hT))).mono ?_)
                      rintro e w' ⟨rfl, T'⟩
                      exact ⟨_, rfl, T', rfl⟩
                  case s2 =>
                    refine fun hs hle => stepG_free [] [7] (by kernel_rfl) rfl ?_
                    · intro ac W hT hI hO
                      have h7 : ac.tmps.getD 7 undef = .bool false := hO 7 (by simp)
                      show Brings Try.prog (fun v w' => Turned (fun _ => False) W w' ∧ v = .bool false) _
                      simp only [execOp, Act.eval, h7]
                      go_simp
                      try exact ⟨Turned.refl _ _, rfl⟩
                  case s3 =>
                    refine fun hs hle => stepG_free [76, 77] [] (by kernel_rfl) rfl ?_
                    · intro ac W hT hI hO
                      have h76 : ac.tmps.getD 76 undef = .bool false := hI 76 (by simp)
                      have h77 : ac.tmps.getD 77 undef = .bool false := hI 77 (by simp)
                      show Brings Try.prog (fun v w' => Turned (fun _ => False) W w' ∧ v = .bool B78) _
                      rw [HB78.out]
                      simp only [execOp, Act.eval, h76, h77]
                      go_simp
                      try exact ⟨Turned.refl _ _, rfl⟩
                  case s4 =>
                    refine fun hs hle => stepG_free [78] [] (by kernel_rfl) rfl ?_
                    · intro ac W hT hI hO
                      have h78 : ac.tmps.getD 78 undef = .bool B78 := hI 78 (by simp)
                      show Brings Try.prog (fun v w' => Turned (fun _ => False) W w' ∧ v = .bool B78) _
                      simp only [execOp, Act.eval, h78]
                      go_simp
                      try exact ⟨Turned.refl _ _, rfl⟩
                  case s5 =>
                    refine fun hs hle => stepG_guard [79] [2] (by kernel_rfl) 4 true 79 rfl rfl (by simp) true B78 (fun _ _ h => h) (fun hc => ?_) (fun hc _ _ => ?_)
                    rotate_left
                    · refine ⟨Turned.refl _ _, ?_⟩
                      show undef = bif (true && (B78 == true)) then _ else undef
                      rw [hc]; rfl
                    · intro ac W hT hI hO
                      have h79 : ac.tmps.getD 79 undef = .bool B78 := hI 79 (by simp)
                      have h2 : ac.tmps.getD 2 undef = .pointer (some ⟨w.heap.size, 0, none⟩) := hO 2 (by simp)
                      show Brings Try.prog (fun v w' => Turned (fun _ => False) W w' ∧ v = bif (true && (B78 == true)) then .agg #[.int .i64 a.kind, .int .i64 a.n, .string a.name, .slice a.at_.1 a.args.length a.at_.2] else undef) _
                      rw [hc, cond_true]
                      have SW := SI.out.turned0 (TY.trans (VarsS.turned hs W hT)); obtain ⟨c0, c1, c2, c3⟩ := SW.ca; obtain ⟨d0, d1, d2, d3⟩ := SW.cb; obtain ⟨e0, e1, e2, e3⟩ := SW.cx; obtain ⟨f0, f1, f2, f3⟩ := SW.cy
                      simp only [execOp, Act.eval, h79, h2]
                      go_simp
                      exact ⟨Turned.refl _ _, rfl⟩
                  case s6 =>
                    refine fun hs hle => stepG_guard [80, 79] [] (by kernel_rfl) 4 true 79 rfl rfl (by simp) true B78 (fun _ _ h => h) (fun hc => ?_) (fun hc _ _ => ?_)
                    rotate_left
                    · refine ⟨Turned.refl _ _, ?_⟩
                      show undef = bif (true && (B78 == true)) then _ else undef
                      rw [hc]; rfl
                    · intro ac W hT hI hO
                      have h80 : ac.tmps.getD 80 undef = bif (true && (B78 == true)) then .agg #[.int .i64 a.kind, .int .i64 a.n, .string a.name, .slice a.at_.1 a.args.length a.at_.2] else undef := hI 80 (by simp)
                      rw [hc, cond_true] at h80
                      have h79 : ac.tmps.getD 79 undef = .bool B78 := hI 79 (by simp)
                      show Brings Try.prog (fun v w' => Turned (fun _ => False) W w' ∧ v = bif (true && (B78 == true)) then .int .i64 ((min a.size 2001 : Nat) : Int) else undef) _
                      rw [hc, cond_true]
                      simp only [execOp, Act.eval, h80, h79]
                      go_simp
                      show Calls Try.prog 35 _ W _
                      (with_reducible refine (HSA'.out W (TY.trans (VarsS.turned hs W hT))).mono ?_)
                      rintro e w' ⟨rfl, T'⟩
                      exact ⟨_, rfl, T', rfl⟩
                  case s7 =>
                    refine fun hs hle => stepG_guard [79] [13] (by kernel_rfl) 4 true 79 rfl rfl (by simp) true B78 (fun _ _ h => h) (fun hc => ?_) (fun hc _ _ => ?_)
                    rotate_left
                    · refine ⟨Turned.refl _ _, ?_⟩
                      show undef = bif (true && (B78 == true)) then _ else undef
                      rw [hc]; rfl
                    · intro ac W hT hI hO
                      have h79 : ac.tmps.getD 79 undef = .bool B78 := hI 79 (by simp)
                      have h13 : ac.tmps.getD 13 undef = .int .i64 ((min a.size 2001 : Nat) : Int) := hO 13 (by simp)
                      show Brings Try.prog (fun v w' => Turned (fun _ => False) W w' ∧ v = bif (true && (B78 == true)) then .int .i64 ((min a.size 2001 : Nat) : Int) else undef) _
                      rw [hc, cond_true]
                      simp only [execOp, Act.eval, h79, h13]
                      go_simp
                      try exact ⟨Turned.refl _ _, rfl⟩
                  case s8 =>
                    refine fun hs hle => stepG_guard [81, 82, 79] [] (by kernel_rfl) 4 true 79 rfl rfl (by simp) true B78 (fun _ _ h => h) (fun hc => ?_) (fun hc _ _ => ?_)
                    rotate_left
                    · refine ⟨Turned.refl _ _, ?_⟩
                      show undef = bif (true && (B78 == true)) then _ else undef
                      rw [hc]; rfl
                    · intro ac W hT hI hO
                      have h81 : ac.tmps.getD 81 undef = bif (true && (B78 == true)) then .int .i64 ((min a.size 2001 : Nat) : Int) else undef := hI 81 (by simp)
                      rw [hc, cond_true] at h81
                      have h82 : ac.tmps.getD 82 undef = bif (true && (B78 == true)) then .int .i64 ((min a.size 2001 : Nat) : Int) else undef := hI 82 (by simp)
                      rw [hc, cond_true] at h82
                      have h79 : ac.tmps.getD 79 undef = .bool B78 := hI 79 (by simp)
                      show Brings Try.prog (fun v w' => Turned (fun _ => False) W w' ∧ v = bif (true && (B78 == true)) then .bool B83 else undef) _
                      rw [hc, cond_true]
                      rw [HB83.out]
                      simp only [execOp, Act.eval, h81, h82, h79]
                      go_simp
                      try exact ⟨Turned.refl _ _, rfl⟩
                  case s9 =>
                    refine fun hs hle => stepG_free [79, 83] [] (by kernel_rfl) rfl ?_
                    · intro ac W hT hI hO
                      have h79 : ac.tmps.getD 79 undef = .bool B78 := hI 79 (by simp)
                      have h83 : ac.tmps.getD 83 undef = bif (true && (B78 == true)) then .bool B83 else undef := hI 83 (by simp)
                      show Brings Try.prog (fun v w' => Turned (fun _ => False) W w' ∧ v = .bool B84) _
                      rw [HB84.out]
                      cases hB : B78
                      · simp only [hB] at *
                        simp [execOp, Act.eval, go_sem, Brings, h79, h83]
                        try exact Turned.refl _ _
                      · simp only [hB] at *
                        simp [execOp, Act.eval, go_sem, Brings, h79, h83]
                        try exact Turned.refl _ _
                  case s10 =>
                    refine fun hs hle => stepG_free [84] [] (by kernel_rfl) rfl ?_
                    · intro ac W hT hI hO
                      have h84 : ac.tmps.getD 84 undef = .bool B84 := hI 84 (by simp)
                      show Brings Try.prog (fun v w' => Turned (fun _ => False) W w' ∧ v = .bool B84) _
                      simp only [execOp, Act.eval, h84]
                      go_simp
                      try exact ⟨Turned.refl _ _, rfl⟩
                  case s11 =>
                    refine fun hs hle => stepG_guard [85] [2] (by kernel_rfl) 10 true 85 rfl rfl (by simp) true B84 (fun _ _ h => h) (fun hc => ?_) (fun hc _ _ => ?_)
                    rotate_left
                    · refine ⟨Turned.refl _ _, ?_⟩
                      show undef = bif (true && (B84 == true)) then _ else undef
                      rw [hc]; rfl
                    · intro ac W hT hI hO
                      have h85 : ac.tmps.getD 85 undef = .bool B84 := hI 85 (by simp)
                      have h2 : ac.tmps.getD 2 undef = .pointer (some ⟨w.heap.size, 0, none⟩) := hO 2 (by simp)
                      show Brings Try.prog (fun v w' => Turned (fun _ => False) W w' ∧ v = bif (true && (B84 == true)) then .agg #[.int .i64 a.kind, .int .i64 a.n, .string a.name, .slice a.at_.1 a.args.length a.at_.2] else undef) _
                      rw [hc, cond_true]
                      have SW := SI.out.turned0 (TY.trans (VarsS.turned hs W hT)); obtain ⟨c0, c1, c2, c3⟩ := SW.ca; obtain ⟨d0, d1, d2, d3⟩ := SW.cb; obtain ⟨e0, e1, e2, e3⟩ := SW.cx; obtain ⟨f0, f1, f2, f3⟩ := SW.cy
                      simp only [execOp, Act.eval, h85, h2]
                      go_simp
                      exact ⟨Turned.refl _ _, rfl⟩
                  case s12 =>
                    refine fun hs hle => stepG_guard [86, 85] [] (by kernel_rfl) 10 true 85 rfl rfl (by simp) true B84 (fun _ _ h => h) (fun hc => ?_) (fun hc _ _ => ?_)
                    rotate_left
                    · refine ⟨Turned.refl _ _, ?_⟩
                      show undef = bif (true && (B84 == true)) then _ else undef
                      rw [hc]; rfl
                    · intro ac W hT hI hO
                      have h86 : ac.tmps.getD 86 undef = bif (true && (B84 == true)) then .agg #[.int .i64 a.kind, .int .i64 a.n, .string a.name, .slice a.at_.1 a.args.length a.at_.2] else undef := hI 86 (by simp)
                      rw [hc, cond_true] at h86
                      have h85 : ac.tmps.getD 85 undef = .bool B84 := hI 85 (by simp)
                      show Brings Try.prog (fun v w' => Turned (fun _ => False) W w' ∧ v = bif (true && (B84 == true)) then .int .i64 ((min a.depth 65 : Nat) : Int) else undef) _
                      rw [hc, cond_true]
                      simp only [execOp, Act.eval, h86, h85]
                      go_simp
                      show Calls Try.prog 36 _ W _
                      (with_reducible refine (HDA'.out W (TY.trans (VarsS.turned hs W hT))).mono ?_)
                      rintro e w' ⟨rfl, T'⟩
                      exact ⟨_, rfl, T', rfl⟩
                  case s13 =>
                    refine fun hs hle => stepG_guard [85] [14] (by kernel_rfl) 10 true 85 rfl rfl (by simp) true B84 (fun _ _ h => h) (fun hc => ?_) (fun hc _ _ => ?_)
                    rotate_left
                    · refine ⟨Turned.refl _ _, ?_⟩
                      show undef = bif (true && (B84 == true)) then _ else undef
                      rw [hc]; rfl
                    · intro ac W hT hI hO
                      have h85 : ac.tmps.getD 85 undef = .bool B84 := hI 85 (by simp)
                      have h14 : ac.tmps.getD 14 undef = .int .i64 ((min a.depth 65 : Nat) : Int) := hO 14 (by simp)
                      show Brings Try.prog (fun v w' => Turned (fun _ => False) W w' ∧ v = bif (true && (B84 == true)) then .int .i64 ((min a.depth 65 : Nat) : Int) else undef) _
                      rw [hc, cond_true]
                      simp only [execOp, Act.eval, h85, h14]
                      go_simp
                      try exact ⟨Turned.refl _ _, rfl⟩
                  case s14 =>
                    refine fun hs hle => stepG_guard [87, 88, 85] [] (by kernel_rfl) 10 true 85 rfl rfl (by simp) true B84 (fun _ _ h => h) (fun hc => ?_) (fun hc _ _ => ?_)
                    rotate_left
                    · refine ⟨Turned.refl _ _, ?_⟩
                      show undef = bif (true && (B84 == true)) then _ else undef
                      rw [hc]; rfl
                    · intro ac W hT hI hO
                      have h87 : ac.tmps.getD 87 undef = bif (true && (B84 == true)) then .int .i64 ((min a.depth 65 : Nat) : Int) else undef := hI 87 (by simp)
                      rw [hc, cond_true] at h87
                      have h88 : ac.tmps.getD 88 undef = bif (true && (B84 == true)) then .int .i64 ((min a.depth 65 : Nat) : Int) else undef := hI 88 (by simp)
                      rw [hc, cond_true] at h88
                      have h85 : ac.tmps.getD 85 undef = .bool B84 := hI 85 (by simp)
                      show Brings Try.prog (fun v w' => Turned (fun _ => False) W w' ∧ v = bif (true && (B84 == true)) then .bool B89 else undef) _
                      rw [hc, cond_true]
                      rw [HB89.out]
                      simp only [execOp, Act.eval, h87, h88, h85]
                      go_simp
                      try exact ⟨Turned.refl _ _, rfl⟩
                  case s15 =>
                    refine fun hs hle => stepG_free [85, 89] [] (by kernel_rfl) rfl ?_
                    · intro ac W hT hI hO
                      have h85 : ac.tmps.getD 85 undef = .bool B84 := hI 85 (by simp)
                      have h89 : ac.tmps.getD 89 undef = bif (true && (B84 == true)) then .bool B89 else undef := hI 89 (by simp)
                      show Brings Try.prog (fun v w' => Turned (fun _ => False) W w' ∧ v = .bool B90) _
                      rw [HB90.out]
                      cases hB : B84
                      · simp only [hB] at *
                        simp [execOp, Act.eval, go_sem, Brings, h85, h89]
                        try exact Turned.refl _ _
                      · simp only [hB] at *
                        simp [execOp, Act.eval, go_sem, Brings, h85, h89]
                        try exact Turned.refl _ _
                  case s16 =>
                    refine fun hs hle => stepG_free [90] [] (by kernel_rfl) rfl ?_
                    · intro ac W hT hI hO
                      have h90 : ac.tmps.getD 90 undef = .bool B90 := hI 90 (by simp)
                      show Brings Try.prog (fun v w' => Turned (fun _ => False) W w' ∧ v = .bool B90) _
                      simp only [execOp, Act.eval, h90]
                      go_simp
                      try exact ⟨Turned.refl _ _, rfl⟩
                  case s17 =>
                    refine fun hs hle => stepG_guard [91] [2] (by kernel_rfl) 16 true 91 rfl rfl (by simp) true B90 (fun _ _ h => h) (fun hc => ?_) (fun hc _ _ => ?_)
                    rotate_left
                    · refine ⟨Turned.refl _ _, ?_⟩
                      show undef = bif (true && (B90 == true)) then _ else undef
                      rw [hc]; rfl
                    · intro ac W hT hI hO
                      have h91 : ac.tmps.getD 91 undef = .bool B90 := hI 91 (by simp)
                      have h2 : ac.tmps.getD 2 undef = .pointer (some ⟨w.heap.size, 0, none⟩) := hO 2 (by simp)
                      show Brings Try.prog (fun v w' => Turned (fun _ => False) W w' ∧ v = bif (true && (B90 == true)) then .agg #[.int .i64 a.kind, .int .i64 a.n, .string a.name, .slice a.at_.1 a.args.length a.at_.2] else undef) _
                      rw [hc, cond_true]
                      have SW := SI.out.turned0 (TY.trans (VarsS.turned hs W hT)); obtain ⟨c0, c1, c2, c3⟩ := SW.ca; obtain ⟨d0, d1, d2, d3⟩ := SW.cb; obtain ⟨e0, e1, e2, e3⟩ := SW.cx; obtain ⟨f0, f1, f2, f3⟩ := SW.cy
                      simp only [execOp, Act.eval, h91, h2]
                      go_simp
                      exact ⟨Turned.refl _ _, rfl⟩
                  case s18 =>
                    refine fun hs hlen => stepG_guard [92, 91] [] (by kernel_rfl) 16 true 91 rfl rfl (by simp) true B90 (fun _ _ h => h) (fun hc => ?_) (fun hc _ _ => ?_)
                    rotate_left
                    · exact absurd hc (by rw [hB90]; decide)
                    · intro ac W hT hI hO
                      have h92 : ac.tmps.getD 92 undef = bif (true && (B90 == true)) then .agg #[.int .i64 a.kind, .int .i64 a.n, .string a.name, .slice a.at_.1 a.args.length a.at_.2] else undef := hI 92 (by simp)
                      rw [hc, cond_true] at h92
                      have h91 : ac.tmps.getD 91 undef = .bool B90 := hI 91 (by simp)
                      show Brings Try.prog (fun v w' => VarsS w18 (varsB a) (hs ++ [v]) w') _
                      obtain rfl : hs = [] := List.eq_nil_of_length_eq_zero hlen
                      replace hT : Turned (fun _ => False) w18 W := hT
                      simp only [execOp, Act.eval, h92, h91]
                      go_simp
                      show Calls Try.prog 34 _ W _
                      (with_reducible refine (HVA'.out W (TY.trans hT)).mono ?_)
                      rintro e w' ⟨v, rfl, hv, T'⟩
                      exact ⟨_, rfl, hT.trans T', hv⟩
                  case s19 =>
                    refine fun hs hle => stepG_guard [91] [5] (by kernel_rfl) 16 true 91 rfl rfl (by simp) true B90 (fun _ _ h => h) (fun hc => ?_) (fun hc _ _ => ?_)
                    rotate_left
                    · refine ⟨Turned.refl _ _, ?_⟩
                      show undef = bif (true && (B90 == true)) then _ else undef
                      rw [hc]; rfl
                    · intro ac W hT hI hO
                      have h91 : ac.tmps.getD 91 undef = .bool B90 := hI 91 (by simp)
                      have h5 : ac.tmps.getD 5 undef = .pointer (some ⟨gx, 0, none⟩) := hO 5 (by simp)
                      show Brings Try.prog (fun v w' => Turned (fun _ => False) W w' ∧ v = bif (true && (B90 == true)) then .agg #[.int .i64 x.kind, .int .i64 x.n, .string x.name, .slice x.at_.1 x.args.length x.at_.2] else undef) _
                      rw [hc, cond_true]
                      have SW := SI.out.turned0 (TY.trans (VarsS.turned hs W hT)); obtain ⟨c0, c1, c2, c3⟩ := SW.ca; obtain ⟨d0, d1, d2, d3⟩ := SW.cb; obtain ⟨e0, e1, e2, e3⟩ := SW.cx; obtain ⟨f0, f1, f2, f3⟩ := SW.cy
                      simp only [execOp, Act.eval, h91, h5]
                      go_simp
                      exact ⟨Turned.refl _ _, rfl⟩
                  case s20 =>
                    refine fun hs hlen => stepG_guard [94, 91] [] (by kernel_rfl) 16 true 91 rfl rfl (by simp) true B90 (fun _ _ h => h) (fun hc => ?_) (fun hc _ _ => ?_)
                    rotate_left
                    · exact absurd hc (by rw [hB90]; decide)
                    · intro ac W hT hI hO
                      have h94 : ac.tmps.getD 94 undef = bif (true && (B90 == true)) then .agg #[.int .i64 x.kind, .int .i64 x.n, .string x.name, .slice x.at_.1 x.args.length x.at_.2] else undef := hI 94 (by simp)
                      rw [hc, cond_true] at h94
                      have h91 : ac.tmps.getD 91 undef = .bool B90 := hI 91 (by simp)
                      show Brings Try.prog (fun v w' => VarsS w18 (varsB a) (hs ++ [v]) w') _
                      obtain ⟨v0, rfl⟩ := List.length_eq_one_iff.1 hlen
                      obtain ⟨hT1, hrow⟩ := hT
                      simp only [execOp, Act.eval, h94, h91]
                      go_simp
                      show Calls Try.prog 51 _ W _
                      (with_reducible refine (HVX'.out W (TY.trans hT1)).mono ?_)
                      rintro e w' ⟨v, rfl, hv, T'⟩
                      exact ⟨_, rfl, hT1.trans T', hrow.turned0 T', hv⟩
                  case s21 =>
                    refine fun hs hle => stepG_guard [93, 95, 91] [] (by kernel_rfl) 16 true 91 rfl rfl (by simp) true B90 (fun _ _ h => h) (fun hc => ?_) (fun hc _ _ => ?_)
                    rotate_left
                    · refine ⟨Turned.refl _ _, ?_⟩
                      show undef = bif (true && (B90 == true)) then _ else undef
                      rw [hc]; rfl
                    · intro ac W hT hI hO
                      have h93 : hs[0]? = some (ac.tmps.getD 93 undef) := hI 93 (by simp)
                      have h95 : hs[1]? = some (ac.tmps.getD 95 undef) := hI 95 (by simp)
                      have h91 : ac.tmps.getD 91 undef = .bool B90 := hI 91 (by simp)
                      show Brings Try.prog (fun v w' => Turned (fun _ => False) W w' ∧ v = bif (true && (B90 == true)) then .bool true else undef) _
                      rw [hc, cond_true]
                      obtain ⟨v0, e93⟩ : ∃ v, ac.tmps.getD 93 undef = v := ⟨_, rfl⟩
                      obtain ⟨v1, e95⟩ : ∃ v, ac.tmps.getD 95 undef = v := ⟨_, rfl⟩
                      rw [e93] at h93
                      rw [e95] at h95
                      obtain ⟨r1, r2⟩ := VarsS.both hT h93 h95
                      simp only [execOp, Act.eval, e93, e95]
                      go_simp
                      have hn := nums39 r1 r2
                      rw [decide_eq_true rfl] at hn
                      show Calls Try.prog 39 _ W _
                      (with_reducible refine hn.mono ?_)
                      rintro e w' ⟨rfl, T'⟩
                      exact ⟨_, rfl, T', rfl⟩
                  case s22 =>
                    refine fun hs hle => stepG_free [91, 96] [] (by kernel_rfl) rfl ?_
                    · intro ac W hT hI hO
                      have h91 : ac.tmps.getD 91 undef = .bool B90 := hI 91 (by simp)
                      have h96 : ac.tmps.getD 96 undef = bif (true && (B90 == true)) then .bool true else undef := hI 96 (by simp)
                      show Brings Try.prog (fun v w' => Turned (fun _ => False) W w' ∧ v = .bool B97) _
                      rw [HB97.out]
                      cases hB : B90
                      · simp only [hB] at *
                        simp [execOp, Act.eval, go_sem, Brings, h91, h96]
                        try exact Turned.refl _ _
                      · simp only [hB] at *
                        simp [execOp, Act.eval, go_sem, Brings, h91, h96]
                        try exact Turned.refl _ _
                  case s23 =>
                    refine fun hs hle => stepG_free [97] [] (by kernel_rfl) rfl ?_
                    · intro ac W hT hI hO
                      have h97 : ac.tmps.getD 97 undef = .bool B97 := hI 97 (by simp)
                      show Brings Try.prog (fun v w' => Turned (fun _ => False) W w' ∧ v = .bool B97) _
                      simp only [execOp, Act.eval, h97]
                      go_simp
                      try exact ⟨Turned.refl _ _, rfl⟩
                  case s24 =>
                    refine fun hs hle => stepG_guard [98] [2] (by kernel_rfl) 23 true 98 rfl rfl (by simp) true B97 (fun _ _ h => h) (fun hc => ?_) (fun hc _ _ => ?_)
                    rotate_left
                    · refine ⟨Turned.refl _ _, ?_⟩
                      show undef = bif (true && (B97 == true)) then _ else undef
                      rw [hc]; rfl
                    · intro ac W hT hI hO
                      have h98 : ac.tmps.getD 98 undef = .bool B97 := hI 98 (by simp)
                      have h2 : ac.tmps.getD 2 undef = .pointer (some ⟨w.heap.size, 0, none⟩) := hO 2 (by simp)
                      show Brings Try.prog (fun v w' => Turned (fun _ => False) W w' ∧ v = bif (true && (B97 == true)) then .agg #[.int .i64 a.kind, .int .i64 a.n, .string a.name, .slice a.at_.1 a.args.length a.at_.2] else undef) _
                      rw [hc, cond_true]
                      have SW := SI.out.turned0 (TY.trans (VarsS.turned hs W hT)); obtain ⟨c0, c1, c2, c3⟩ := SW.ca; obtain ⟨d0, d1, d2, d3⟩ := SW.cb; obtain ⟨e0, e1, e2, e3⟩ := SW.cx; obtain ⟨f0, f1, f2, f3⟩ := SW.cy
                      simp only [execOp, Act.eval, h98, h2]
                      go_simp
                      exact ⟨Turned.refl _ _, rfl⟩
                  case s25 =>
                    refine fun hs hle => stepG_guard [98] [3] (by kernel_rfl) 23 true 98 rfl rfl (by simp) true B97 (fun _ _ h => h) (fun hc => ?_) (fun hc _ _ => ?_)
                    rotate_left
                    · refine ⟨Turned.refl _ _, ?_⟩
                      show undef = bif (true && (B97 == true)) then _ else undef
                      rw [hc]; rfl
                    · intro ac W hT hI hO
                      have h98 : ac.tmps.getD 98 undef = .bool B97 := hI 98 (by simp)
                      have h3 : ac.tmps.getD 3 undef = .pointer (some ⟨(w.heap.size + 1), 0, none⟩) := hO 3 (by simp)
                      show Brings Try.prog (fun v w' => Turned (fun _ => False) W w' ∧ v = bif (true && (B97 == true)) then .agg #[.int .i64 b.kind, .int .i64 b.n, .string b.name, .slice b.at_.1 b.args.length b.at_.2] else undef) _
                      rw [hc, cond_true]
                      have SW := SI.out.turned0 (TY.trans (VarsS.turned hs W hT)); obtain ⟨c0, c1, c2, c3⟩ := SW.ca; obtain ⟨d0, d1, d2, d3⟩ := SW.cb; obtain ⟨e0, e1, e2, e3⟩ := SW.cx; obtain ⟨f0, f1, f2, f3⟩ := SW.cy
                      simp only [execOp, Act.eval, h98, h3]
                      go_simp
                      exact ⟨Turned.refl _ _, rfl⟩
                  case s26 =>
                    refine fun hs hle => stepG_guard [99, 100, 98] [] (by kernel_rfl) 23 true 98 rfl rfl (by simp) true B97 (fun _ _ h => h) (fun hc => ?_) (fun hc _ _ => ?_)
                    rotate_left
                    · refine ⟨Turned.refl _ _, ?_⟩
                      show undef = bif (true && (B97 == true)) then _ else undef
                      rw [hc]; rfl
                    · intro ac W hT hI hO
                      have h99 : ac.tmps.getD 99 undef = bif (true && (B97 == true)) then .agg #[.int .i64 a.kind, .int .i64 a.n, .string a.name, .slice a.at_.1 a.args.length a.at_.2] else undef := hI 99 (by simp)
                      rw [hc, cond_true] at h99
                      have h100 : ac.tmps.getD 100 undef = bif (true && (B97 == true)) then .agg #[.int .i64 b.kind, .int .i64 b.n, .string b.name, .slice b.at_.1 b.args.length b.at_.2] else undef := hI 100 (by simp)
                      rw [hc, cond_true] at h100
                      have h98 : ac.tmps.getD 98 undef = .bool B97 := hI 98 (by simp)
                      show Brings Try.prog (fun v w' => Turned (fun _ => False) W w' ∧ v = bif (true && (B97 == true)) then .bool SS else undef) _
                      rw [hc, cond_true]
                      simp only [execOp, Act.eval, h99, h100, h98]
                      go_simp
                      show Calls Try.prog 52 _ W _
                      (with_reducible refine (HSS'.out W (TY.trans (VarsS.turned hs W hT))).mono ?_)
                      rintro e w' ⟨rfl, T'⟩
                      exact ⟨_, rfl, T', rfl⟩
                  case s27 =>
                    refine fun hs hle => stepG_guard [98] [7] (by kernel_rfl) 23 true 98 rfl rfl (by simp) true B97 (fun _ _ h => h) (fun hc => ?_) (fun hc _ _ => ?_)
                    rotate_left
                    · refine ⟨Turned.refl _ _, ?_⟩
                      show undef = bif (true && (B97 == true)) then _ else undef
                      rw [hc]; rfl
                    · intro ac W hT hI hO
                      have h98 : ac.tmps.getD 98 undef = .bool B97 := hI 98 (by simp)
                      have h7 : ac.tmps.getD 7 undef = .bool false := hO 7 (by simp)
                      show Brings Try.prog (fun v w' => Turned (fun _ => False) W w' ∧ v = bif (true && (B97 == true)) then .bool false else undef) _
                      rw [hc, cond_true]
                      simp only [execOp, Act.eval, h98, h7]
                      go_simp
                      try exact ⟨Turned.refl _ _, rfl⟩
                  case s28 =>
                    refine fun hs hle => stepG_guard [102, 98] [] (by kernel_rfl) 23 true 98 rfl rfl (by simp) true B97 (fun _ _ h => h) (fun hc => ?_) (fun hc _ _ => ?_)
                    rotate_left
                    · refine ⟨Turned.refl _ _, ?_⟩
                      show undef = bif (true && (B97 == true)) then _ else undef
                      rw [hc]; rfl
                    · intro ac W hT hI hO
                      have h102 : ac.tmps.getD 102 undef = bif (true && (B97 == true)) then .bool false else undef := hI 102 (by simp)
                      rw [hc, cond_true] at h102
                      have h98 : ac.tmps.getD 98 undef = .bool B97 := hI 98 (by simp)
                      show Brings Try.prog (fun v w' => Turned (fun _ => False) W w' ∧ v = bif (true && (B97 == true)) then .bool false else undef) _
                      rw [hc, cond_true]
                      simp only [execOp, Act.eval, h102, h98]
                      go_simp
                      try exact ⟨Turned.refl _ _, rfl⟩
                  case s29 =>
                    refine fun hs hle => stepG_guard [103] [5] (by kernel_rfl) 28 true 103 rfl rfl (by simp) (true && (B97 == true)) false (fun _ _ h => h) (fun hc => ?_) (fun hc _ _ => ?_)
                    rotate_left
                    · refine ⟨Turned.refl _ _, ?_⟩
                      show undef = bif ((true && (B97 == true)) && (false == true)) then _ else undef
                      rw [hc]; rfl
                    · intro ac W hT hI hO
                      have h103 : ac.tmps.getD 103 undef = bif (true && (B97 == true)) then .bool false else undef := hI 103 (by simp)
                      rw [show (true && (B97 == true)) = true from by simp only [Bool.and_eq_true] at hc ⊢; simp [hc]] at h103
                      have h5 : ac.tmps.getD 5 undef = .pointer (some ⟨gx, 0, none⟩) := hO 5 (by simp)
                      show Brings Try.prog (fun v w' => Turned (fun _ => False) W w' ∧ v = bif ((true && (B97 == true)) && (false == true)) then .agg #[.int .i64 x.kind, .int .i64 x.n, .string x.name, .slice x.at_.1 x.args.length x.at_.2] else undef) _
                      rw [hc, cond_true]
                      have SW := SI.out.turned0 (TY.trans (VarsS.turned hs W hT)); obtain ⟨c0, c1, c2, c3⟩ := SW.ca; obtain ⟨d0, d1, d2, d3⟩ := SW.cb; obtain ⟨e0, e1, e2, e3⟩ := SW.cx; obtain ⟨f0, f1, f2, f3⟩ := SW.cy
                      simp only [execOp, Act.eval, h103, h5]
                      go_simp
                      exact ⟨Turned.refl _ _, rfl⟩
                  case s30 =>
                    refine fun hs hle => stepG_guard [103] [6] (by kernel_rfl) 28 true 103 rfl rfl (by simp) (true && (B97 == true)) false (fun _ _ h => h) (fun hc => ?_) (fun hc _ _ => ?_)
                    rotate_left
                    · refine ⟨Turned.refl _ _, ?_⟩
                      show undef = bif ((true && (B97 == true)) && (false == true)) then _ else undef
                      rw [hc]; rfl
                    · intro ac W hT hI hO
                      have h103 : ac.tmps.getD 103 undef = bif (true && (B97 == true)) then .bool false else undef := hI 103 (by simp)
                      rw [show (true && (B97 == true)) = true from by simp only [Bool.and_eq_true] at hc ⊢; simp [hc]] at h103
                      have h6 : ac.tmps.getD 6 undef = .pointer (some ⟨gy, 0, none⟩) := hO 6 (by simp)
                      show Brings Try.prog (fun v w' => Turned (fun _ => False) W w' ∧ v = bif ((true && (B97 == true)) && (false == true)) then .agg #[.int .i64 y.kind, .int .i64 y.n, .string y.name, .slice y.at_.1 y.args.length y.at_.2] else undef) _
                      rw [hc, cond_true]
                      have SW := SI.out.turned0 (TY.trans (VarsS.turned hs W hT)); obtain ⟨c0, c1, c2, c3⟩ := SW.ca; obtain ⟨d0, d1, d2, d3⟩ := SW.cb; obtain ⟨e0, e1, e2, e3⟩ := SW.cx; obtain ⟨f0, f1, f2, f3⟩ := SW.cy
                      simp only [execOp, Act.eval, h103, h6]
                      go_simp
                      exact ⟨Turned.refl _ _, rfl⟩
                  case s31 =>
                    refine fun hs hle => stepG_guard [104, 105, 103] [] (by kernel_rfl) 28 true 103 rfl rfl (by simp) (true && (B97 == true)) false (fun _ _ h => h) (fun hc => ?_) (fun hc _ _ => ?_)
                    rotate_left
                    · refine ⟨Turned.refl _ _, ?_⟩
                      show undef = bif ((true && (B97 == true)) && (false == true)) then _ else undef
                      rw [hc]; rfl
                    · intro ac W hT hI hO
                      have h104 : ac.tmps.getD 104 undef = bif ((true && (B97 == true)) && (false == true)) then .agg #[.int .i64 x.kind, .int .i64 x.n, .string x.name, .slice x.at_.1 x.args.length x.at_.2] else undef := hI 104 (by simp)
                      rw [hc, cond_true] at h104
                      have h105 : ac.tmps.getD 105 undef = bif ((true && (B97 == true)) && (false == true)) then .agg #[.int .i64 y.kind, .int .i64 y.n, .string y.name, .slice y.at_.1 y.args.length y.at_.2] else undef := hI 105 (by simp)
                      rw [hc, cond_true] at h105
                      have h103 : ac.tmps.getD 103 undef = bif (true && (B97 == true)) then .bool false else undef := hI 103 (by simp)
                      rw [show (true && (B97 == true)) = true from by simp only [Bool.and_eq_true] at hc ⊢; simp [hc]] at h103
                      show Brings Try.prog (fun v w' => Turned (fun _ => False) W w' ∧ v = bif ((true && (B97 == true)) && (false == true)) then .bool (Tm.same x y) else undef) _
                      rw [hc, cond_true]
                      simp only [execOp, Act.eval, h104, h105, h103]
                      go_simp
                      show Calls Try.prog 48 _ W _
                      (with_reducible refine (HSY'.out W (TY.trans (VarsS.turned hs W hT))).mono ?_)
                      rintro e w' ⟨rfl, T'⟩
                      exact ⟨_, rfl, T', rfl⟩
                  case s32 =>
                    refine fun hs hle => stepG_guard [103, 106, 98] [] (by kernel_rfl) 23 true 98 rfl rfl (by simp) true B97 (fun _ _ h => h) (fun hc => ?_) (fun hc _ _ => ?_)
                    rotate_left
                    · refine ⟨Turned.refl _ _, ?_⟩
                      show undef = bif (true && (B97 == true)) then _ else undef
                      rw [hc]; rfl
                    · intro ac W hT hI hO
                      have h103 : ac.tmps.getD 103 undef = bif (true && (B97 == true)) then .bool false else undef := hI 103 (by simp)
                      rw [hc, cond_true] at h103
                      have h106 : ac.tmps.getD 106 undef = bif ((true && (B97 == true)) && (false == true)) then .bool (Tm.same x y) else undef := hI 106 (by simp)
                      have h98 : ac.tmps.getD 98 undef = .bool B97 := hI 98 (by simp)
                      show Brings Try.prog (fun v w' => Turned (fun _ => False) W w' ∧ v = bif (true && (B97 == true)) then .bool B107 else undef) _
                      rw [hc, cond_true]
                      rw [HB107.out]
                      simp only [Bool.true_and, Bool.and_eq_true, beq_iff_eq] at hc
                      cases hB : false
                      · simp only [hB] at *
                        simp [execOp, Act.eval, go_sem, Brings, h103, h106, h98, hc]
                        try exact Turned.refl _ _
                      · simp only [hB] at *
                        simp [execOp, Act.eval, go_sem, Brings, h103, h106, h98, hc]
                        try exact Turned.refl _ _
                  case s33 =>
                    refine fun hs hle => stepG_guard [101, 107, 98] [] (by kernel_rfl) 23 true 98 rfl rfl (by simp) true B97 (fun _ _ h => h) (fun hc => ?_) (fun hc _ _ => ?_)
                    rotate_left
                    · refine ⟨Turned.refl _ _, ?_⟩
                      show undef = bif (true && (B97 == true)) then _ else undef
                      rw [hc]; rfl
                    · intro ac W hT hI hO
                      have h101 : ac.tmps.getD 101 undef = bif (true && (B97 == true)) then .bool SS else undef := hI 101 (by simp)
                      rw [hc, cond_true] at h101
                      have h107 : ac.tmps.getD 107 undef = bif (true && (B97 == true)) then .bool B107 else undef := hI 107 (by simp)
                      rw [hc, cond_true] at h107
                      have h98 : ac.tmps.getD 98 undef = .bool B97 := hI 98 (by simp)
                      show Brings Try.prog (fun v w' => Turned (fun _ => False) W w' ∧ v = bif (true && (B97 == true)) then .bool B108 else undef) _
                      rw [hc, cond_true]
                      rw [HB108.out]
                      simp only [execOp, Act.eval, h101, h107, h98]
                      go_simp
                      try exact ⟨Turned.refl _ _, rfl⟩
                  case s34 =>
                    refine fun hs hle => stepG_free [98, 108] [] (by kernel_rfl) rfl ?_
                    · intro ac W hT hI hO
                      have h98 : ac.tmps.getD 98 undef = .bool B97 := hI 98 (by simp)
                      have h108 : ac.tmps.getD 108 undef = bif (true && (B97 == true)) then .bool B108 else undef := hI 108 (by simp)
                      show Brings Try.prog (fun v w' => Turned (fun _ => False) W w' ∧ v = .bool B109) _
                      rw [HB109.out]
                      cases hB : B97
                      · simp only [hB] at *
                        simp [execOp, Act.eval, go_sem, Brings, h98, h108]
                        try exact Turned.refl _ _
                      · simp only [hB] at *
                        simp [execOp, Act.eval, go_sem, Brings, h98, h108]
                        try exact Turned.refl _ _
                  case s35 =>
                    refine fun hs hle => stepG_free [109] [] (by kernel_rfl) rfl ?_
                    · intro ac W hT hI hO
                      have h109 : ac.tmps.getD 109 undef = .bool B109 := hI 109 (by simp)
                      show Brings Try.prog (fun v w' => Turned (fun _ => False) W w' ∧ v = .bool B109) _
                      simp only [execOp, Act.eval, h109]
                      go_simp
                      try exact ⟨Turned.refl _ _, rfl⟩
                case hQ =>
                  intro hs vq w19 hlen hR hV
                  have q4 : vq 4 = .bool B109 := hV 4 (by simp)
                  rw [hB109] at q4
                  have T19 := VarsS.turned hs w19 hR
                  simp only [List.foldl_cons, List.foldl_nil, List.setIfInBounds_toArray, List.set_cons_zero, List.set_cons_succ, q4]
                  clear hV q4 hlen hR hs
                  go_wp2_with fail
                  go_ret
                  exact ⟨rfl, HTZ.out.trans (TY.trans T19)⟩
end Go.Proofs.Ytoihjobdfjajfaa
