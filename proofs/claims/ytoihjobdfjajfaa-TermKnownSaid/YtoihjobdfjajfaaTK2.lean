/- TermKnown: the walk. -/
import Derived.Test.YtoihjobdfjajfaaTK1
import Derived.Test.YtoihjobdfjajfaaLB2
import Derived.Test.YtoihjobdfjajfaaAny6
namespace Go.Proofs.Ytoihjobdfjajfaa
set_option linter.unusedVariables false
set_option linter.unusedSimpArgs false
open Go.RowKit
/-- Vars has been called: there are none. -/
def NoneS (wr : World) : List Value → World → Prop
  | [], W => Turned (fun _ => False) wr W
  | [v], W => Turned (fun _ => False) wr W ∧ ∃ a c, v = .slice a 0 c
  | _, _ => False
theorem NoneS.turned {wr : World} : ∀ (hs : List Value) (W : World), NoneS wr hs W → Turned (fun _ => False) wr W
  | [], _, h => h
  | [_], _, h => h.1
  | _ :: _ :: _, _, h => h.elim
theorem NoneS.turned0 {wr : World} : ∀ (hs : List Value) (w w' : World), NoneS wr hs w → Turned (fun _ => False) w w' → NoneS wr hs w'
  | [], _, _, h, ht => Turned.trans h ht
  | [_], _, _, h, ht => ⟨h.1.trans ht, h.2⟩
  | _ :: _ :: _, _, _, h, _ => h.elim
theorem NoneS.at {wr W : World} {hs : List Value} (h : NoneS wr hs W) {v : Value} (hv : hs[0]? = some v) : ∃ a c, v = .slice a 0 c := by
  match hs, h, hv with
  | [_], h, hv => simp at hv; subst hv; exact h.2
/-- A variable's box, in a world turned but for it. -/
structure BoxI (B : Nat) (D : LT) (w0 W : World) : Prop where
  blk : W.heap[B]? = some (.cells #[.int .i64 D.kind, .int .i64 D.n, .string D.name, .slice D.at_.1 D.args.length D.at_.2] 27 (0, 0))
  inn : D.In (fun k => k ≠ B) W
  turned : Turned (fun k => k = B) w0 W
theorem BoxI.lt {B : Nat} {D : LT} {w0 W : World} (h : BoxI B D w0 W) : B < W.heap.size := (Array.getElem?_eq_some_iff.1 h.blk).1
theorem BoxI.new {D : LT} {w : World} (h : D.In (fun _ => True) w) : BoxI w.heap.size D (w.alloc (.cells #[.int .i64 D.kind, .int .i64 D.n, .string D.name, .slice D.at_.1 D.args.length D.at_.2] 27)) (w.alloc (.cells #[.int .i64 D.kind, .int .i64 D.n, .string D.name, .slice D.at_.1 D.args.length D.at_.2] 27)) :=
  ⟨heap_alloc_new w _, LT.In.turned ((Turned.refl (fun _ => False) w).alloc _) (fun _ _ _ f => f) (fun k hk _ => by omega) D h, Turned.refl _ _⟩
theorem BoxI.step {B : Nat} {D D' : LT} {w0 wr w8 : World} (h : BoxI B D w0 wr) (T : Turned (fun _ => False) wr w8) (hi : D'.In (fun k => k ≠ B) w8) :
    BoxI B D' w0 ((((w8.setCell ⟨B, 0, none⟩ (.int .i64 D'.kind)).setCell ⟨B, 1, none⟩ (.int .i64 D'.n)).setCell ⟨B, 2, none⟩ (.string D'.name)).setCell ⟨B, 3, none⟩ (.slice D'.at_.1 D'.args.length D'.at_.2)) := by
  have hb := (T.block B h.lt (fun f => f)).trans h.blk
  have Tq : Turned (fun k => k = B) w8 _ := ((((Turned.refl (fun k => k = B) w8).setCell (p := ⟨B, 0, none⟩) (.inr rfl) (.int .i64 D'.kind)).setCell (p := ⟨B, 1, none⟩) (.inr rfl) (.int .i64 D'.n)).setCell (p := ⟨B, 2, none⟩) (.inr rfl) (.string D'.name)).setCell (p := ⟨B, 3, none⟩) (.inr rfl) (.slice D'.at_.1 D'.args.length D'.at_.2)
  exact ⟨set4 hb, LT.In.turned Tq (fun k _ h e => h e) (fun k _ h => h) D' hi, (h.turned.trans (T.mono (fun _ _ f => f.elim))).trans Tq⟩
theorem BoxI.cells {B : Nat} {D : LT} {w0 W W' : World} (h : BoxI B D w0 W) (T : Turned (fun _ => False) W W') : W'.cell? ⟨B, 0, none⟩ = some (.int .i64 D.kind) ∧ W'.cell? ⟨B, 1, none⟩ = some (.int .i64 D.n) ∧ W'.cell? ⟨B, 2, none⟩ = some (.string D.name) ∧ W'.cell? ⟨B, 3, none⟩ = some (.slice D.at_.1 D.args.length D.at_.2) ∧ W'.frozen? ⟨B, 0, none⟩ = false ∧ W'.frozen? ⟨B, 1, none⟩ = false ∧ W'.frozen? ⟨B, 2, none⟩ = false ∧ W'.frozen? ⟨B, 3, none⟩ = false :=
  cells4 ((T.block B h.lt (fun f => f)).trans h.blk)
/-- What lies in memory at the last region. -/
structure KnI (B5 B7 B8 B10 B12 B14 mb mo : Nat) (D F G t y x : LT) (W : World) : Prop where
  c5 : (W.cell? ⟨B5, 0, none⟩ = some (.int .i64 D.kind) ∧ W.cell? ⟨B5, 1, none⟩ = some (.int .i64 D.n) ∧ W.cell? ⟨B5, 2, none⟩ = some (.string D.name) ∧ W.cell? ⟨B5, 3, none⟩ = some (.slice D.at_.1 D.args.length D.at_.2))
  c7 : (W.cell? ⟨B7, 0, none⟩ = some (.int .i64 F.kind) ∧ W.cell? ⟨B7, 1, none⟩ = some (.int .i64 F.n) ∧ W.cell? ⟨B7, 2, none⟩ = some (.string F.name) ∧ W.cell? ⟨B7, 3, none⟩ = some (.slice F.at_.1 F.args.length F.at_.2))
  c8 : (W.cell? ⟨B8, 0, none⟩ = some (.int .i64 G.kind) ∧ W.cell? ⟨B8, 1, none⟩ = some (.int .i64 G.n) ∧ W.cell? ⟨B8, 2, none⟩ = some (.string G.name) ∧ W.cell? ⟨B8, 3, none⟩ = some (.slice G.at_.1 G.args.length G.at_.2))
  c10 : (W.cell? ⟨B10, 0, none⟩ = some (.int .i64 t.kind) ∧ W.cell? ⟨B10, 1, none⟩ = some (.int .i64 t.n) ∧ W.cell? ⟨B10, 2, none⟩ = some (.string t.name) ∧ W.cell? ⟨B10, 3, none⟩ = some (.slice t.at_.1 t.args.length t.at_.2))
  c12 : (W.cell? ⟨B12, 0, none⟩ = some (.int .i64 y.kind) ∧ W.cell? ⟨B12, 1, none⟩ = some (.int .i64 y.n) ∧ W.cell? ⟨B12, 2, none⟩ = some (.string y.name) ∧ W.cell? ⟨B12, 3, none⟩ = some (.slice y.at_.1 y.args.length y.at_.2))
  c14 : W.cell? ⟨B14, 0, none⟩ = some (.int .i64 2) ∧ W.cell? ⟨B14, 1, none⟩ = some (.int .i64 0) ∧ W.cell? ⟨B14, 2, none⟩ = some (.string ⟨#[91, 93]⟩) ∧ W.cell? ⟨B14, 3, none⟩ = some (.slice none 0 0)
  cx : W.cell? ⟨mb, mo + 4, none⟩ = some (.int .i64 x.kind) ∧ W.cell? ⟨mb, mo + 5, none⟩ = some (.int .i64 x.n) ∧ W.cell? ⟨mb, mo + 6, none⟩ = some (.string x.name) ∧ W.cell? ⟨mb, mo + 7, none⟩ = some (.slice x.at_.1 x.args.length x.at_.2)
  i5 : D.In (fun _ => True) W
  i7 : F.In (fun _ => True) W
  i8 : G.In (fun _ => True) W
  i10 : t.In (fun _ => True) W
  i12 : y.In (fun _ => True) W
  ix : x.In (fun _ => True) W
theorem four0 {w w' : World} {B a b c d : Nat} {v1 v2 v3 v4 : Value} (ht : Turned (fun _ => False) w w') (h : w.cell? ⟨B, a, none⟩ = some v1 ∧ w.cell? ⟨B, b, none⟩ = some v2 ∧ w.cell? ⟨B, c, none⟩ = some v3 ∧ w.cell? ⟨B, d, none⟩ = some v4) : w'.cell? ⟨B, a, none⟩ = some v1 ∧ w'.cell? ⟨B, b, none⟩ = some v2 ∧ w'.cell? ⟨B, c, none⟩ = some v3 ∧ w'.cell? ⟨B, d, none⟩ = some v4 :=
  ⟨ht.cell0 h.1, ht.cell0 h.2.1, ht.cell0 h.2.2.1, ht.cell0 h.2.2.2⟩
theorem KnI.turned0 {B5 B7 B8 B10 B12 B14 mb mo : Nat} {D F G t y x : LT} {w w' : World} (h : KnI B5 B7 B8 B10 B12 B14 mb mo D F G t y x w) (ht : Turned (fun _ => False) w w') : KnI B5 B7 B8 B10 B12 B14 mb mo D F G t y x w' :=
  ⟨four0 ht h.c5, four0 ht h.c7, four0 ht h.c8, four0 ht h.c10, four0 ht h.c12, four0 ht h.c14, four0 ht h.cx, h.i5.turned0 ht, h.i7.turned0 ht, h.i8.turned0 ht, h.i10.turned0 ht, h.i12.turned0 ht, h.ix.turned0 ht⟩
/-- What the last region has brought so far. -/
def KnS (wz : World) (F : LT) : List Value → World → Prop
  | [], W => Turned (fun _ => False) wz W
  | [v], W => Turned (fun _ => False) wz W ∧ ∃ g : Nat, v = .slice (some ⟨g, 0, none⟩) 1 1 ∧ LT.Sl (fun _ => True) W (some ⟨g, 0, none⟩) 1 [F]
  | [_, v], W => Turned (fun _ => False) wz W ∧ ∃ u : LT, v = u.val ∧ u.bare = .mk 2 0 ⟨#[102]⟩ () [F.bare] ∧ u.In (fun _ => True) W
  | [_, _, v], W => Turned (fun _ => False) wz W ∧ ∃ u : LT, v = u.val ∧ u.bare = (leaf 1 3 ByteArray.empty).bare ∧ u.In (fun _ => True) W
  | [_, _, _, v], W => Turned (fun _ => False) wz W ∧ ∃ g : Nat, v = .slice (some ⟨g, 0, none⟩) 1 1 ∧ LT.Sl (fun _ => True) W (some ⟨g, 0, none⟩) 1 [leaf 1 1 ByteArray.empty]
  | [_, _, _, _, v], W => Turned (fun _ => False) wz W ∧ ∃ u : LT, v = u.val ∧ u.bare = .mk 2 0 ⟨#[97]⟩ () [(leaf 1 1 ByteArray.empty).bare] ∧ u.In (fun _ => True) W
  | _, _ => False
theorem KnS.turned {wz : World} {F : LT} : ∀ (hs : List Value) (W : World), KnS wz F hs W → Turned (fun _ => False) wz W
  | [], _, h => h
  | [_], _, h => h.1
  | [_, _], _, h => h.1
  | [_, _, _], _, h => h.1
  | [_, _, _, _], _, h => h.1
  | [_, _, _, _, _], _, h => h.1
  | _ :: _ :: _ :: _ :: _ :: _ :: _, _, h => h.elim
theorem KnS.turned0 {wz : World} {F : LT} : ∀ (hs : List Value) (w w' : World), KnS wz F hs w → Turned (fun _ => False) w w' → KnS wz F hs w'
  | [], _, _, h, ht => Turned.trans h ht
  | [_], _, _, h, ht => by obtain ⟨h1, g, h2, h3⟩ := h; exact ⟨h1.trans ht, g, h2, h3.turned0 ht⟩
  | [_, _], _, _, h, ht => by obtain ⟨h1, u, h2, h3, h4⟩ := h; exact ⟨h1.trans ht, u, h2, h3, h4.turned0 ht⟩
  | [_, _, _], _, _, h, ht => by obtain ⟨h1, u, h2, h3, h4⟩ := h; exact ⟨h1.trans ht, u, h2, h3, h4.turned0 ht⟩
  | [_, _, _, _], _, _, h, ht => by obtain ⟨h1, g, h2, h3⟩ := h; exact ⟨h1.trans ht, g, h2, h3.turned0 ht⟩
  | [_, _, _, _, _], _, _, h, ht => by obtain ⟨h1, u, h2, h3, h4⟩ := h; exact ⟨h1.trans ht, u, h2, h3, h4.turned0 ht⟩
  | _ :: _ :: _ :: _ :: _ :: _ :: _, _, _, h, _ => h.elim
theorem KnS.at1 {wz W : World} {F : LT} {hs : List Value} (h : KnS wz F hs W) (hl : hs.length ≤ 2) {v : Value} (hv : hs[1]? = some v) : ∃ u : LT, v = u.val ∧ u.bare = .mk 2 0 ⟨#[102]⟩ () [F.bare] ∧ u.In (fun _ => True) W := by
  match hs, h, hv, hl with
  | [_, _], h, hv, _ => simp at hv; subst hv; exact h.2
theorem KnS.at2 {wz W : World} {F : LT} {hs : List Value} (h : KnS wz F hs W) (hl : hs.length ≤ 3) {v : Value} (hv : hs[2]? = some v) : ∃ u : LT, v = u.val ∧ u.bare = (leaf 1 3 ByteArray.empty).bare ∧ u.In (fun _ => True) W := by
  match hs, h, hv, hl with
  | [_, _, _], h, hv, _ => simp at hv; subst hv; exact h.2
theorem KnS.at4 {wz W : World} {F : LT} {hs : List Value} (h : KnS wz F hs W) {v : Value} (hv : hs[4]? = some v) : ∃ u : LT, v = u.val ∧ u.bare = .mk 2 0 ⟨#[97]⟩ () [(leaf 1 1 ByteArray.empty).bare] ∧ u.In (fun _ => True) W := by
  match hs, h, hv with
  | [_, _, _, _, _], h, hv => simp at hv; subst hv; exact h.2
/-- Two boxes, and what they hold. -/
structure KI (B5 B7 : Nat) (D F : LT) (p : Nat → Prop) (W : World) : Prop where
  b5 : W.heap[B5]? = some (.cells #[.int .i64 D.kind, .int .i64 D.n, .string D.name, .slice D.at_.1 D.args.length D.at_.2] 27 (0, 0))
  b7 : W.heap[B7]? = some (.cells #[.int .i64 F.kind, .int .i64 F.n, .string F.name, .slice F.at_.1 F.args.length F.at_.2] 27 (0, 0))
  i5 : D.In p W
  i7 : F.In p W
theorem KI.turned {B5 B7 B : Nat} {D F : LT} {w w' : World} (h : KI B5 B7 D F (fun k => k ≠ B) w) (T : Turned (fun k => k = B) w w') (h5 : B5 ≠ B) (h7 : B7 ≠ B) : KI B5 B7 D F (fun _ => True) w' :=
  ⟨(T.block _ (Array.getElem?_eq_some_iff.1 h.b5).1 h5).trans h.b5, (T.block _ (Array.getElem?_eq_some_iff.1 h.b7).1 h7).trans h.b7, LT.In.turned T (fun k _ h e => h e) (fun _ _ _ => trivial) D h.i5, LT.In.turned T (fun k _ h e => h e) (fun _ _ _ => trivial) F h.i7⟩
theorem goodVal {t : LT} {w : World} {b : Bool} (ht : t.In (fun _ => True) w) (hs : slim t) (hg : goodB t = b) : Calls Try.prog 38 #[.agg #[.int .i64 t.kind, .int .i64 t.n, .string t.name, .slice t.at_.1 t.args.length t.at_.2]] w fun e w' => e = .returned (.bool b) ∧ Turned (fun _ => False) w w' := by
  have h := good38 ht hs
  rw [LT.val_eq, hg] at h
  exact h
theorem depthVal {t : LT} {w : World} {d : Int} (ht : t.In (fun _ => True) w) (hd : ((min t.depth 65 : Nat) : Int) = d) : Calls Try.prog 36 #[.agg #[.int .i64 t.kind, .int .i64 t.n, .string t.name, .slice t.at_.1 t.args.length t.at_.2]] w fun e w' => e = .returned (.int .i64 d) ∧ Turned (fun _ => False) w w' := by
  have h := depth36 ht
  rw [LT.val_eq, hd] at h
  exact h
theorem sizeVal {t : LT} {w : World} {d : Int} (ht : t.In (fun _ => True) w) (hs : slim t) (hd : ((min t.size 2001 : Nat) : Int) = d) : Calls Try.prog 35 #[.agg #[.int .i64 t.kind, .int .i64 t.n, .string t.name, .slice t.at_.1 t.args.length t.at_.2]] w fun e w' => e = .returned (.int .i64 d) ∧ Turned (fun _ => False) w w' := by
  have h := size35 ht hs
  rw [LT.val_eq, hd] at h
  exact h
theorem sameVal {a b : LT} {w : World} {r : Bool} (ha : a.In (fun _ => True) w) (hb : b.In (fun _ => True) w) (sa : slim a) (sb : slim b) (hr : sameB a b = r) : Calls Try.prog 52 #[.agg #[.int .i64 a.kind, .int .i64 a.n, .string a.name, .slice a.at_.1 a.args.length a.at_.2], .agg #[.int .i64 b.kind, .int .i64 b.n, .string b.name, .slice b.at_.1 b.args.length b.at_.2]] w fun e w' => e = .returned (.bool r) ∧ Turned (fun _ => False) w w' := by
  have h := same52 ha hb sa sb
  rw [LT.val_eq a, LT.val_eq b, hr] at h
  exact h
/-- The list's end, alone. -/
theorem itemsEnd {w : World} : Calls Try.prog 46 #[.agg #[.int .i64 2, .int .i64 0, .string ⟨#[91, 93]⟩, .slice none 0 0]] w fun e w' => ∃ (va : Option Addr) (vc : Nat), e = .returned (.tuple #[.slice va 0 vc, .agg #[.int .i64 2, .int .i64 0, .string ⟨#[91, 93]⟩, .slice none 0 0]]) ∧ Turned (fun _ => False) w w' := by
  have h := itemsV46 (p := fun _ => True) (t := leaf 2 0 ⟨#[91, 93]⟩) (w := w) (leafIn' (i64_lit _ (by omega)) (i64_lit _ (by omega)) (by unfold maxLen; decide)) (leafSlim' _ _ _)
  refine h.mono ?_
  rintro e w' ⟨va, vc, us, y, rfl, hi, _, hT⟩
  rw [show goodB (leaf 2 0 ⟨#[91, 93]⟩) = true from by kernel_rfl, if_pos rfl, Tm.items_end (by kernel_rfl)] at hi
  injection hi with h1 h2
  subst h1 h2
  exact ⟨va, vc, rfl, hT⟩
theorem itemsTwo {t : LT} {w : World} (ht : t.In (fun _ => True) w) (hb : t.bare = Tm.listB ([leaf 1 1 ByteArray.empty, leaf 2 0 ⟨#[98]⟩].map Tm.bare) (leaf 0 0 ByteArray.empty).bare) : Calls Try.prog 46 #[.agg #[.int .i64 t.kind, .int .i64 t.n, .string t.name, .slice t.at_.1 t.args.length t.at_.2]] w fun e w' => ∃ (b o vc : Nat) (x y : LT), e = .returned (.tuple #[.slice (some ⟨b, o, none⟩) 2 vc, .agg #[.int .i64 y.kind, .int .i64 y.n, .string y.name, .slice y.at_.1 y.args.length y.at_.2]]) ∧ x.bare = (leaf 2 0 ⟨#[98]⟩).bare ∧ y.bare = (leaf 0 0 ByteArray.empty).bare ∧ x.In (fun _ => True) w' ∧ y.In (fun _ => True) w' ∧ 2 ≤ vc ∧ vc ≤ maxLen ∧
    (w'.cell? ⟨b, o + 4, none⟩ = some (.int .i64 x.kind) ∧ w'.cell? ⟨b, o + 5, none⟩ = some (.int .i64 x.n) ∧ w'.cell? ⟨b, o + 6, none⟩ = some (.string x.name) ∧ w'.cell? ⟨b, o + 7, none⟩ = some (.slice x.at_.1 x.args.length x.at_.2)) ∧ Turned (fun _ => False) w w' := by
  obtain ⟨hg, hs, _⟩ := two_of hb
  have h := itemsV46 ht hs
  rw [LT.val_eq] at h
  refine h.mono ?_
  rintro e w' ⟨va, vc, us, y, rfl, hi, hrow, hT⟩
  rw [hg, if_pos rfl] at hi
  obtain ⟨hl, ⟨x, hx, hxb⟩, hyb⟩ := two_items hb hi
  have hmem := Tm.items_mem _ t (Nat.le_refl _)
  rw [← hi] at hmem
  have hins : LT.Ins (fun _ => True) w' us := (LT.ins_iff us).2 (fun x hx => LT.In.flat t (ht.turned0 hT) x (hmem.1 x hx))
  obtain ⟨_, hsl⟩ := LT.Sl.of_row (p := fun _ => True) hrow (fun _ _ => trivial) hins
  obtain ⟨b, o, rfl, _, c0, c1, c2, c3⟩ := hsl.lies.cell hx
  have h1 := hsl.cap
  have h2 := hsl.max
  rw [hl] at h1 ⊢
  exact ⟨b, o, vc, x, y, rfl, hxb, hyb, (LT.ins_iff us).1 hins x (List.mem_of_getElem? hx), LT.In.flat t (ht.turned0 hT) y hmem.2, h1, h2, ⟨c0, c1, c2, c3⟩, hT⟩
theorem itemsBad {t : LT} {w : World} (ht : t.In (fun _ => True) w) (hs : slim t) (hg : goodB t = false) : Calls Try.prog 46 #[.agg #[.int .i64 t.kind, .int .i64 t.n, .string t.name, .slice t.at_.1 t.args.length t.at_.2]] w fun e w' => ∃ (va : Option Addr) (vc : Nat), e = .returned (.tuple #[.slice va 0 vc, .agg #[.int .i64 t.kind, .int .i64 t.n, .string t.name, .slice t.at_.1 t.args.length t.at_.2]]) ∧ Turned (fun _ => False) w w' := by
  have h := itemsV46 ht hs
  rw [LT.val_eq] at h
  refine h.mono ?_
  rintro e w' ⟨va, vc, us, y, rfl, hi, _, hT⟩
  rw [hg] at hi
  injection hi with h1 h2
  subst h1 h2
  exact ⟨va, vc, rfl, hT⟩
theorem varsBad {t : LT} {w : World} (ht : t.In (fun _ => True) w) (hs : slim t) (hg : goodB t = false) : Calls Try.prog 34 #[.agg #[.int .i64 t.kind, .int .i64 t.n, .string t.name, .slice t.at_.1 t.args.length t.at_.2]] w fun e w' => ∃ (va : Option Addr) (vc : Nat), e = .returned (.slice va 0 vc) ∧ Turned (fun _ => False) w w' := by
  have h := varsV34 ht hs
  rw [LT.val_eq] at h
  refine h.mono ?_
  rintro e w' ⟨v, rfl, hr, hT⟩
  have e0 : varsB t = [] := by unfold varsB; rw [hg]; rfl
  rw [e0] at hr
  obtain ⟨a, c, rfl⟩ := hr.shape
  exact ⟨a, c, rfl, hT⟩
theorem goodBad {t : LT} {w : World} (ht : t.In (fun _ => True) w) (hs : slim t) (hg : goodB t = false) : Calls Try.prog 38 #[.agg #[.int .i64 t.kind, .int .i64 t.n, .string t.name, .slice t.at_.1 t.args.length t.at_.2]] w fun e w' => e = .returned (.bool false) ∧ Turned (fun _ => False) w w' := by
  have h := good38 ht hs
  rw [LT.val_eq, hg] at h
  exact h
theorem sameBad {t : LT} {w : World} (ht : t.In (fun _ => True) w) (hs : slim t) (hg : goodB t = false) : Calls Try.prog 52 #[.agg #[.int .i64 t.kind, .int .i64 t.n, .string t.name, .slice t.at_.1 t.args.length t.at_.2], .agg #[.int .i64 t.kind, .int .i64 t.n, .string t.name, .slice t.at_.1 t.args.length t.at_.2]] w fun e w' => e = .returned (.bool false) ∧ Turned (fun _ => False) w w' := by
  have h := same52 ht ht hs hs
  rw [LT.val_eq, show sameB t t = false from by unfold sameB; rw [hg]; rfl] at h
  exact h
set_option maxRecDepth 100000 in
set_option maxHeartbeats 6400000 in
theorem termKnown (w : World) : Calls Try.prog 10 #[] w fun e w' => e = .returned (.bool true) ∧ Turned (fun _ => False) w w' := by
  have hmk : ∀ w, (Instr.makeSlice 22 (.int .i64 9) (.int .i64 9)).run Try.prog w = .ok (.slice (some ⟨w.heap.size, 0, none⟩) 9 9) (w.alloc (.cells #[.int .i64 0, .int .i64 0, .string ⟨#[]⟩, .slice none 0 0, .int .i64 0, .int .i64 0, .string ⟨#[]⟩, .slice none 0 0, .int .i64 0, .int .i64 0, .string ⟨#[]⟩, .slice none 0 0, .int .i64 0, .int .i64 0, .string ⟨#[]⟩, .slice none 0 0, .int .i64 0, .int .i64 0, .string ⟨#[]⟩, .slice none 0 0, .int .i64 0, .int .i64 0, .string ⟨#[]⟩, .slice none 0 0, .int .i64 0, .int .i64 0, .string ⟨#[]⟩, .slice none 0 0, .int .i64 0, .int .i64 0, .string ⟨#[]⟩, .slice none 0 0, .int .i64 0, .int .i64 0, .string ⟨#[]⟩, .slice none 0 0] 27)) := fun _ => by kernel_rfl
  have zin : ∀ W, zt.In (fun _ => True) W := fun W => leafIn' (i64_lit _ (by omega)) (i64_lit _ (by omega)) (by unfold maxLen; decide)
  have ZIN := Lib.hid zin
  clear zin
  go_enter Try.func10, Try.ntmps10
  go_wp2_with (first
    | (go_at_call 32; refine (awake32 _).mono ?_; rintro e W0 ⟨rfl, T0⟩)
    | (go_at_call 37; refine (compV ⟨#[102]⟩ (by unfold maxLen; decide) 9 (by decide) rfl (sl_made (l := [zt, zt, zt, zt, zt, zt, zt, zt, zt]) ⟨ZIN.out _, ZIN.out _, ZIN.out _, ZIN.out _, ZIN.out _, ZIN.out _, ZIN.out _, ZIN.out _, ZIN.out _, trivial⟩ 9 (by decide) rfl _ rfl)).mono ?_; rintro e W1 ⟨a9, c9, rfl, i9, T1⟩))
  clear hmk
  have T2 : Turned (fun _ => False) W1 (W1.alloc (.cells #[.int .i64 0, .int .i64 0, .string ⟨#[]⟩, .slice none 0 0] 27)) := (Turned.refl _ W1).alloc _
  have i10 : LT.In (fun _ => True) (W1.alloc (.cells #[.int .i64 0, .int .i64 0, .string ⟨#[]⟩, .slice none 0 0] 27)) (.mk 1 0 ByteArray.empty (some ⟨W1.heap.size, 0, none⟩, 1) [zt]) :=
    (sl_made (w := W1) (l := [zt]) ⟨ZIN.out _, trivial⟩ 1 (by decide) rfl _ rfl).in_ (i64_lit _ (by omega)) (i64_lit _ (by omega)) (by unfold maxLen; decide)
  have lf : ∀ (k n : Int) (s : ByteArray) W, (-1000000 ≤ k ∧ k ≤ 1000000) → (-10000000000 ≤ n ∧ n ≤ 10000000000) → s.size ≤ 64 → (leaf k n s).In (fun _ => True) W := fun k n s W h1 h2 h3 => leafIn' (i64_lit _ h1) (by unfold I64; omega) (by unfold maxLen; omega)
  have hsl := sl_made (w := W1.alloc (.cells #[.int .i64 0, .int .i64 0, .string ⟨#[]⟩, .slice none 0 0] 27)) (l := bads a9 c9 (some ⟨W1.heap.size, 0, none⟩) 1) ⟨lf _ _ _ _ (by omega) (by omega) (by decide), lf _ _ _ _ (by omega) (by omega) (by decide), lf _ _ _ _ (by omega) (by omega) (by decide), lf _ _ _ _ (by omega) (by omega) (by decide), lf _ _ _ _ (by omega) (by omega) (by decide), lf _ _ _ _ (by omega) (by omega) (by decide), lf _ _ _ _ (by omega) (by omega) (by decide), lf _ _ _ _ (by omega) (by omega) (by decide), lf _ _ _ _ (by omega) (by omega) (by decide), i9.turned0 T2, i10, trivial⟩ 11 (by decide) rfl _ rfl
  have HSL : Hid (LT.Sl (fun _ => True) ((W1.alloc (.cells #[.int .i64 0, .int .i64 0, .string ⟨#[]⟩, .slice none 0 0] 27)).alloc (.cells #[.int .i64 3, .int .i64 0, .string ⟨#[]⟩, .slice none 0 0, .int .i64 (-1), .int .i64 0, .string ⟨#[]⟩, .slice none 0 0, .int .i64 0, .int .i64 (-1), .string ⟨#[]⟩, .slice none 0 0, .int .i64 0, .int .i64 2147483648, .string ⟨#[]⟩, .slice none 0 0, .int .i64 0, .int .i64 0, .string ⟨#[97]⟩, .slice none 0 0, .int .i64 1, .int .i64 0, .string ⟨#[97]⟩, .slice none 0 0, .int .i64 2, .int .i64 1, .string ⟨#[97]⟩, .slice none 0 0, .int .i64 2, .int .i64 0, .string ⟨#[1]⟩, .slice none 0 0, .int .i64 2, .int .i64 0, .string ⟨#[255]⟩, .slice none 0 0, .int .i64 2, .int .i64 0, .string ⟨#[102]⟩, .slice a9 9 c9, .int .i64 1, .int .i64 0, .string ⟨#[]⟩, .slice (some ⟨W1.heap.size, 0, none⟩) 1 1] 27)) (some ⟨W1.heap.size + 1, 0, none⟩) 11 (bads a9 c9 (some ⟨W1.heap.size, 0, none⟩) 1)) := by
    rw [show (W1.alloc (.cells #[.int .i64 0, .int .i64 0, .string ⟨#[]⟩, .slice none 0 0] 27)).heap.size = W1.heap.size + 1 from by simp] at hsl
    exact hsl
  have HT0 : Hid (Turned (fun _ => False) w ((W1.alloc (.cells #[.int .i64 0, .int .i64 0, .string ⟨#[]⟩, .slice none 0 0] 27)).alloc (.cells #[.int .i64 3, .int .i64 0, .string ⟨#[]⟩, .slice none 0 0, .int .i64 (-1), .int .i64 0, .string ⟨#[]⟩, .slice none 0 0, .int .i64 0, .int .i64 (-1), .string ⟨#[]⟩, .slice none 0 0, .int .i64 0, .int .i64 2147483648, .string ⟨#[]⟩, .slice none 0 0, .int .i64 0, .int .i64 0, .string ⟨#[97]⟩, .slice none 0 0, .int .i64 1, .int .i64 0, .string ⟨#[97]⟩, .slice none 0 0, .int .i64 2, .int .i64 1, .string ⟨#[97]⟩, .slice none 0 0, .int .i64 2, .int .i64 0, .string ⟨#[1]⟩, .slice none 0 0, .int .i64 2, .int .i64 0, .string ⟨#[255]⟩, .slice none 0 0, .int .i64 2, .int .i64 0, .string ⟨#[102]⟩, .slice a9 9 c9, .int .i64 1, .int .i64 0, .string ⟨#[]⟩, .slice (some ⟨W1.heap.size, 0, none⟩) 1 1] 27))) := ((T0.trans (((Turned.refl _ W0).alloc _).trans T1)).trans T2).alloc _
  have HBD := Lib.hid (bads_bad a9 c9 (some ⟨W1.heap.size, 0, none⟩) 1)
  clear hsl lf i10 T2 i9 T1 T0
  have HTB := And.intro HSL HT0
  clear HSL HT0
  revert HTB
  generalize ((W1.alloc (.cells #[.int .i64 0, .int .i64 0, .string ⟨#[]⟩, .slice none 0 0] 27)).alloc (.cells #[.int .i64 3, .int .i64 0, .string ⟨#[]⟩, .slice none 0 0, .int .i64 (-1), .int .i64 0, .string ⟨#[]⟩, .slice none 0 0, .int .i64 0, .int .i64 (-1), .string ⟨#[]⟩, .slice none 0 0, .int .i64 0, .int .i64 2147483648, .string ⟨#[]⟩, .slice none 0 0, .int .i64 0, .int .i64 0, .string ⟨#[97]⟩, .slice none 0 0, .int .i64 1, .int .i64 0, .string ⟨#[97]⟩, .slice none 0 0, .int .i64 2, .int .i64 1, .string ⟨#[97]⟩, .slice none 0 0, .int .i64 2, .int .i64 0, .string ⟨#[1]⟩, .slice none 0 0, .int .i64 2, .int .i64 0, .string ⟨#[255]⟩, .slice none 0 0, .int .i64 2, .int .i64 0, .string ⟨#[102]⟩, .slice a9 9 c9, .int .i64 1, .int .i64 0, .string ⟨#[]⟩, .slice (some ⟨W1.heap.size, 0, none⟩) 1 1] 27)) = w2
  intro HTB
  obtain ⟨HSL, HT0⟩ := HTB
  obtain ⟨L, hL⟩ : ∃ z, z = bads a9 c9 (some ⟨W1.heap.size, 0, none⟩) 1 := ⟨_, rfl⟩
  have HLN : Hid (L.length = 11) := by show _ = _; rw [hL]; rfl
  rw [← hL] at HSL HBD
  clear hL
  revert HSL
  generalize W1.heap.size + 1 = g
  intro HSL
  go_loopg [2] 11 (fun q i wr => ∃ j : Nat, Hid (j + q = 11) ∧ j ≤ 11 ∧ i = .int .i64 j ∧ Turned (fun _ => False) w2 wr)
  case atStart => exact ⟨0, Nat.zero_add _, Nat.zero_le _, rfl, Turned.refl _ _⟩
  case round =>
    obtain ⟨j, HG, hj, rfl, Tr⟩ := hrel
    by_cases hjl : j < 11
    · obtain ⟨x, hx⟩ : ∃ x, L[j]? = some x := ⟨_, List.getElem?_eq_getElem (by rw [HLN.out]; exact hjl)⟩
      obtain ⟨gx, sx⟩ := HBD.out x (List.mem_of_getElem? hx)
      have hsw := HSL.out.turned0 Tr
      obtain ⟨b, o, hb, _, c0, c1, c2, c3⟩ := hsw.lies.cell hx
      injection hb with hb; injection hb with hb ho; subst hb ho
      simp only [Nat.zero_add] at c0 c1 c2 c3
      have xin := (LT.ins_iff _).1 hsw.ins x (List.mem_of_getElem? hx)
      have hit := fun W (h : Turned (fun _ => False) wr W) => itemsBad (xin.turned0 h) sx gx
      have hva := fun W (h : Turned (fun _ => False) wr W) => varsBad (xin.turned0 h) sx gx
      have hgo := fun W (h : Turned (fun _ => False) wr W) => goodBad (xin.turned0 h) sx gx
      have hsa := fun W (h : Turned (fun _ => False) wr W) => sameBad (xin.turned0 h) sx gx
      have HIT := Lib.hid hit
      have HVA := Lib.hid hva
      have HGO := Lib.hid hgo
      have HSA := Lib.hid hsa
      clear hit hva hgo hsa xin hsw hx gx sx
      go_wp2_with (go_at_call 46; (with_reducible refine (HIT.out _ (Turned.refl _ _)).mono ?_); rintro e w3 ⟨va, vc, rfl, T3⟩)
      obtain ⟨d0, d1, d2, d3, _⟩ := boxAt (Turned.refl (fun _ => False) (w3.alloc (.cells #[.int .i64 x.kind, .int .i64 x.n, .string x.name, .slice x.at_.1 x.args.length x.at_.2] 27)))
      have T4 : Turned (fun _ => False) wr (w3.alloc (.cells #[.int .i64 x.kind, .int .i64 x.n, .string x.name, .slice x.at_.1 x.args.length x.at_.2] 27)) := T3.alloc _
      have HTB := And.intro d0 (And.intro d1 (And.intro d2 (And.intro d3 T4)))
      clear d0 d1 d2 d3 T4 T3
      revert HTB
      generalize (w3.alloc (.cells #[.int .i64 x.kind, .int .i64 x.n, .string x.name, .slice x.at_.1 x.args.length x.at_.2] 27)) = w4
      generalize w3.heap.size = B4
      intro HTB
      obtain ⟨d0, d1, d2, d3, T4⟩ := HTB
      obtain ⟨B58, HB58⟩ : ∃ B, Hid (B = ((0 : Int) != 0)) := ⟨_, rfl⟩
      obtain ⟨B59, HB59⟩ : ∃ B, Hid (B = (false || B58)) := ⟨_, rfl⟩
      obtain ⟨B70, HB70⟩ : ∃ B, Hid (B = (B59 && true)) := ⟨_, rfl⟩
      obtain ⟨B74, HB74⟩ : ∃ B, Hid (B = ((0 : Int) != 0)) := ⟨_, rfl⟩
      obtain ⟨B75, HB75⟩ : ∃ B, Hid (B = (B70 || B74)) := ⟨_, rfl⟩
      obtain ⟨B84, HB84⟩ : ∃ B, Hid (B = (x.kind != x.kind)) := ⟨_, rfl⟩
      obtain ⟨B85, HB85⟩ : ∃ B, Hid (B = (B75 || B84)) := ⟨_, rfl⟩
      refine wp_region_hs [46, 47, 48, 49, 50, 51, 52, 53, 54, 55, 56, 57, 58, 59, 60, 61, 62, 63, 64, 65, 66, 67, 68, 69, 70, 71, 72, 73, 74, 75, 76, 77, 78, 79, 80, 81, 82, 83, 84, 85] [10] [1, 1, 1, 1, 1, 1, 1, 1, 1, 1, 1, 1, 1, 1, 1, 1, 1, 1, 1, 1, 1, 1, 1, 1, 1, 1, 1, 1, 1, 1, 1, 1, 1, 1, 1, 1, 1, 1, 1, 1] [56] (fun d v => (match d with | 46 => v = .slice (some ⟨g, 0, none⟩) 11 11 | 47 => v = .int .i64 (j : Int) | 48 => v = .pointer (some ⟨g, j * 4, none⟩) | 49 => v = .agg #[.int .i64 x.kind, .int .i64 x.n, .string x.name, .slice x.at_.1 x.args.length x.at_.2] | 50 => v = .bool false | 51 => v = .bool false | 52 => v = bif (true && (false == false)) then .slice (some ⟨g, 0, none⟩) 11 11 else undef | 53 => v = bif (true && (false == false)) then .int .i64 (j : Int) else undef | 54 => v = bif (true && (false == false)) then .pointer (some ⟨g, j * 4, none⟩) else undef | 55 => v = bif (true && (false == false)) then .agg #[.int .i64 x.kind, .int .i64 x.n, .string x.name, .slice x.at_.1 x.args.length x.at_.2] else undef | 57 => v = bif (true && (false == false)) then .int .i64 0 else undef | 58 => v = bif (true && (false == false)) then .bool B58 else undef | 59 => v = .bool B59 | 60 => v = .bool B59 | 61 => v = bif (true && (B59 == false)) then .slice (some ⟨g, 0, none⟩) 11 11 else undef | 62 => v = bif (true && (B59 == false)) then .int .i64 (j : Int) else undef | 63 => v = bif (true && (B59 == false)) then .pointer (some ⟨g, j * 4, none⟩) else undef | 64 => v = bif (true && (B59 == false)) then .agg #[.int .i64 x.kind, .int .i64 x.n, .string x.name, .slice x.at_.1 x.args.length x.at_.2] else undef | 65 => v = bif (true && (B59 == false)) then .slice (some ⟨g, 0, none⟩) 11 11 else undef | 66 => v = bif (true && (B59 == false)) then .int .i64 (j : Int) else undef | 67 => v = bif (true && (B59 == false)) then .pointer (some ⟨g, j * 4, none⟩) else undef | 68 => v = bif (true && (B59 == false)) then .agg #[.int .i64 x.kind, .int .i64 x.n, .string x.name, .slice x.at_.1 x.args.length x.at_.2] else undef | 69 => v = bif (true && (B59 == false)) then .bool false else undef | 70 => v = .bool B70 | 71 => v = .bool B70 | 72 => v = bif (true && (B70 == false)) then .slice va 0 vc else undef | 73 => v = bif (true && (B70 == false)) then .int .i64 0 else undef | 74 => v = bif (true && (B70 == false)) then .bool B74 else undef | 75 => v = .bool B75 | 76 => v = .bool B75 | 77 => v = bif (true && (B75 == false)) then .pointer (some ⟨B4, 0, none⟩) else undef | 78 => v = bif (true && (B75 == false)) then .int .i64 x.kind else undef | 79 => v = bif (true && (B75 == false)) then .slice (some ⟨g, 0, none⟩) 11 11 else undef | 80 => v = bif (true && (B75 == false)) then .int .i64 (j : Int) else undef | 81 => v = bif (true && (B75 == false)) then .pointer (some ⟨g, j * 4, none⟩) else undef | 82 => v = bif (true && (B75 == false)) then .pointer (some ⟨g, j * 4, none⟩) else undef | 83 => v = bif (true && (B75 == false)) then .int .i64 x.kind else undef | 84 => v = bif (true && (B75 == false)) then .bool B84 else undef | 85 => v = .bool B85 | _ => True : Prop)) (NoneS w4) (by kernel_rfl) rfl (by kernel_rfl) (by kernel_rfl) (by kernel_rfl) (by kernel_rfl) (fun _ h => h) (fun hs w w' h ht => NoneS.turned0 hs w w' h ht) ?hs ?hQ
      case hs =>
        refine ⟨?s0, ?s1, ?s2, ?s3, ?s4, ?s5, ?s6, ?s7, ?s8, ?s9, ?s10, ?s11, ?s12, ?s13, ?s14, ?s15, ?s16, ?s17, ?s18, ?s19, ?s20, ?s21, ?s22, ?s23, ?s24, ?s25, ?s26, ?s27, ?s28, ?s29, ?s30, ?s31, ?s32, ?s33, ?s34, ?s35, ?s36, ?s37, ?s38, ?s39, trivial⟩
        case s0 => as_aux_lemma =>
          refine fun hs hle => stepG_free [] [1] (by kernel_rfl) rfl ?_
          · intro ac W hT hI hO
            have h1 : ac.tmps.getD 1 undef = .slice (some ⟨g, 0, none⟩) 11 11 := hO 1 (by simp)
            show Brings Try.prog (fun v w' => Turned (fun _ => False) W w' ∧ v = .slice (some ⟨g, 0, none⟩) 11 11) _
            simp only [execOp, Act.eval, h1]
            go_simp
            try exact ⟨Turned.refl _ _, rfl⟩
        case s1 => as_aux_lemma =>
          refine fun hs hle => stepG_free [] [2] (by kernel_rfl) rfl ?_
          · intro ac W hT hI hO
            have h2 : ac.tmps.getD 2 undef = .int .i64 (j : Int) := hO 2 (by simp)
            show Brings Try.prog (fun v w' => Turned (fun _ => False) W w' ∧ v = .int .i64 (j : Int)) _
            simp only [execOp, Act.eval, h2]
            go_simp
            try exact ⟨Turned.refl _ _, rfl⟩
        case s2 => as_aux_lemma =>
          refine fun hs hle => stepG_free [46, 47] [] (by kernel_rfl) rfl ?_
          · intro ac W hT hI hO
            have h46 : ac.tmps.getD 46 undef = .slice (some ⟨g, 0, none⟩) 11 11 := hI 46 (by simp)
            have h47 : ac.tmps.getD 47 undef = .int .i64 (j : Int) := hI 47 (by simp)
            show Brings Try.prog (fun v w' => Turned (fun _ => False) W w' ∧ v = .pointer (some ⟨g, j * 4, none⟩)) _
            simp only [execOp, Act.eval, h46, h47]
            go_simp
            try rw [if_pos (by omega)]
            try exact ⟨Turned.refl _ _, rfl⟩
        case s3 => as_aux_lemma =>
          refine fun hs hle => stepG_free [48] [] (by kernel_rfl) rfl ?_
          · intro ac W hT hI hO
            have h48 : ac.tmps.getD 48 undef = .pointer (some ⟨g, j * 4, none⟩) := hI 48 (by simp)
            show Brings Try.prog (fun v w' => Turned (fun _ => False) W w' ∧ v = .agg #[.int .i64 x.kind, .int .i64 x.n, .string x.name, .slice x.at_.1 x.args.length x.at_.2]) _
            have Tq := T4.trans (NoneS.turned hs W hT); have c0 := Tq.cell0 c0; have c1 := Tq.cell0 c1; have c2 := Tq.cell0 c2; have c3 := Tq.cell0 c3; have d0 := (NoneS.turned hs W hT).cell0 d0; have d1 := (NoneS.turned hs W hT).cell0 d1; have d2 := (NoneS.turned hs W hT).cell0 d2; have d3 := (NoneS.turned hs W hT).cell0 d3
            simp only [execOp, Act.eval, h48]
            go_simp
            exact ⟨Turned.refl _ _, rfl⟩
        case s4 => as_aux_lemma =>
          refine fun hs hle => stepG_free [49] [] (by kernel_rfl) rfl ?_
          · intro ac W hT hI hO
            have h49 : ac.tmps.getD 49 undef = .agg #[.int .i64 x.kind, .int .i64 x.n, .string x.name, .slice x.at_.1 x.args.length x.at_.2] := hI 49 (by simp)
            show Brings Try.prog (fun v w' => Turned (fun _ => False) W w' ∧ v = .bool false) _
            simp only [execOp, Act.eval, h49]
            go_simp
            show Calls Try.prog 38 _ W _
            (with_reducible refine (HGO.out W (T4.trans (NoneS.turned hs W hT))).mono ?_)
            rintro e w' ⟨rfl, T'⟩
            exact ⟨_, rfl, T', rfl⟩
        case s5 => as_aux_lemma =>
          refine fun hs hle => stepG_free [50] [] (by kernel_rfl) rfl ?_
          · intro ac W hT hI hO
            have h50 : ac.tmps.getD 50 undef = .bool false := hI 50 (by simp)
            show Brings Try.prog (fun v w' => Turned (fun _ => False) W w' ∧ v = .bool false) _
            simp only [execOp, Act.eval, h50]
            go_simp
            try exact ⟨Turned.refl _ _, rfl⟩
        case s6 => as_aux_lemma =>
          refine fun hs hle => stepG_guard [51] [1] (by kernel_rfl) 5 false 51 rfl rfl (by simp) true false (fun _ _ h => h) (fun hc => ?_) (fun hc _ _ => ?_)
          rotate_left
          · refine ⟨Turned.refl _ _, ?_⟩
            show undef = bif (true && (false == false)) then _ else undef
            rw [hc]; rfl
          · intro ac W hT hI hO
            have h51 : ac.tmps.getD 51 undef = .bool false := hI 51 (by simp)
            have h1 : ac.tmps.getD 1 undef = .slice (some ⟨g, 0, none⟩) 11 11 := hO 1 (by simp)
            show Brings Try.prog (fun v w' => Turned (fun _ => False) W w' ∧ v = bif (true && (false == false)) then .slice (some ⟨g, 0, none⟩) 11 11 else undef) _
            rw [hc, cond_true]
            simp only [execOp, Act.eval, h51, h1]
            go_simp
            try exact ⟨Turned.refl _ _, rfl⟩
        case s7 => as_aux_lemma =>
          refine fun hs hle => stepG_guard [51] [2] (by kernel_rfl) 5 false 51 rfl rfl (by simp) true false (fun _ _ h => h) (fun hc => ?_) (fun hc _ _ => ?_)
          rotate_left
          · refine ⟨Turned.refl _ _, ?_⟩
            show undef = bif (true && (false == false)) then _ else undef
            rw [hc]; rfl
          · intro ac W hT hI hO
            have h51 : ac.tmps.getD 51 undef = .bool false := hI 51 (by simp)
            have h2 : ac.tmps.getD 2 undef = .int .i64 (j : Int) := hO 2 (by simp)
            show Brings Try.prog (fun v w' => Turned (fun _ => False) W w' ∧ v = bif (true && (false == false)) then .int .i64 (j : Int) else undef) _
            rw [hc, cond_true]
            simp only [execOp, Act.eval, h51, h2]
            go_simp
            try exact ⟨Turned.refl _ _, rfl⟩
        case s8 => as_aux_lemma =>
          refine fun hs hle => stepG_guard [52, 53, 51] [] (by kernel_rfl) 5 false 51 rfl rfl (by simp) true false (fun _ _ h => h) (fun hc => ?_) (fun hc _ _ => ?_)
          rotate_left
          · refine ⟨Turned.refl _ _, ?_⟩
            show undef = bif (true && (false == false)) then _ else undef
            rw [hc]; rfl
          · intro ac W hT hI hO
            have h52 : ac.tmps.getD 52 undef = bif (true && (false == false)) then .slice (some ⟨g, 0, none⟩) 11 11 else undef := hI 52 (by simp)
            rw [hc, cond_true] at h52
            have h53 : ac.tmps.getD 53 undef = bif (true && (false == false)) then .int .i64 (j : Int) else undef := hI 53 (by simp)
            rw [hc, cond_true] at h53
            have h51 : ac.tmps.getD 51 undef = .bool false := hI 51 (by simp)
            show Brings Try.prog (fun v w' => Turned (fun _ => False) W w' ∧ v = bif (true && (false == false)) then .pointer (some ⟨g, j * 4, none⟩) else undef) _
            rw [hc, cond_true]
            simp only [execOp, Act.eval, h52, h53, h51]
            go_simp
            try rw [if_pos (by omega)]
            try exact ⟨Turned.refl _ _, rfl⟩
        case s9 => as_aux_lemma =>
          refine fun hs hle => stepG_guard [54, 51] [] (by kernel_rfl) 5 false 51 rfl rfl (by simp) true false (fun _ _ h => h) (fun hc => ?_) (fun hc _ _ => ?_)
          rotate_left
          · refine ⟨Turned.refl _ _, ?_⟩
            show undef = bif (true && (false == false)) then _ else undef
            rw [hc]; rfl
          · intro ac W hT hI hO
            have h54 : ac.tmps.getD 54 undef = bif (true && (false == false)) then .pointer (some ⟨g, j * 4, none⟩) else undef := hI 54 (by simp)
            rw [hc, cond_true] at h54
            have h51 : ac.tmps.getD 51 undef = .bool false := hI 51 (by simp)
            show Brings Try.prog (fun v w' => Turned (fun _ => False) W w' ∧ v = bif (true && (false == false)) then .agg #[.int .i64 x.kind, .int .i64 x.n, .string x.name, .slice x.at_.1 x.args.length x.at_.2] else undef) _
            rw [hc, cond_true]
            have Tq := T4.trans (NoneS.turned hs W hT); have c0 := Tq.cell0 c0; have c1 := Tq.cell0 c1; have c2 := Tq.cell0 c2; have c3 := Tq.cell0 c3; have d0 := (NoneS.turned hs W hT).cell0 d0; have d1 := (NoneS.turned hs W hT).cell0 d1; have d2 := (NoneS.turned hs W hT).cell0 d2; have d3 := (NoneS.turned hs W hT).cell0 d3
            simp only [execOp, Act.eval, h54, h51]
            go_simp
            exact ⟨Turned.refl _ _, rfl⟩
        case s10 => as_aux_lemma =>
          refine fun hs hlen => stepG_guard [55, 51] [] (by kernel_rfl) 5 false 51 rfl rfl (by simp) true false (fun _ _ h => h) (fun hc => ?_) (fun hc _ _ => ?_)
          rotate_left
          · exact absurd hc (by decide)
          · intro ac W hT hI hO
            have h55 : ac.tmps.getD 55 undef = bif (true && (false == false)) then .agg #[.int .i64 x.kind, .int .i64 x.n, .string x.name, .slice x.at_.1 x.args.length x.at_.2] else undef := hI 55 (by simp)
            rw [hc, cond_true] at h55
            have h51 : ac.tmps.getD 51 undef = .bool false := hI 51 (by simp)
            show Brings Try.prog (fun v w' => NoneS w4 (hs ++ [v]) w') _
            obtain rfl : hs = [] := List.eq_nil_of_length_eq_zero hlen
            replace hT : Turned (fun _ => False) w4 W := hT
            simp only [execOp, Act.eval, h55, h51]
            go_simp
            show Calls Try.prog 34 _ W _
            (with_reducible refine (HVA.out W (T4.trans hT)).mono ?_)
            rintro e w' ⟨a', c', rfl, T'⟩
            exact ⟨_, rfl, hT.trans T', a', c', rfl⟩
        case s11 => as_aux_lemma =>
          refine fun hs hle => stepG_guard [56, 51] [] (by kernel_rfl) 5 false 51 rfl rfl (by simp) true false (fun _ _ h => h) (fun hc => ?_) (fun hc _ _ => ?_)
          rotate_left
          · refine ⟨Turned.refl _ _, ?_⟩
            show undef = bif (true && (false == false)) then _ else undef
            rw [hc]; rfl
          · intro ac W hT hI hO
            have h56 : hs[0]? = some (ac.tmps.getD 56 undef) := hI 56 (by simp)
            have h51 : ac.tmps.getD 51 undef = .bool false := hI 51 (by simp)
            show Brings Try.prog (fun v w' => Turned (fun _ => False) W w' ∧ v = bif (true && (false == false)) then .int .i64 0 else undef) _
            rw [hc, cond_true]
            obtain ⟨a', c', e56⟩ := NoneS.at hT h56
            simp only [execOp, Act.eval, e56]
            go_simp
            try exact ⟨Turned.refl _ _, rfl⟩
        case s12 => as_aux_lemma =>
          refine fun hs hle => stepG_guard [57, 51] [] (by kernel_rfl) 5 false 51 rfl rfl (by simp) true false (fun _ _ h => h) (fun hc => ?_) (fun hc _ _ => ?_)
          rotate_left
          · refine ⟨Turned.refl _ _, ?_⟩
            show undef = bif (true && (false == false)) then _ else undef
            rw [hc]; rfl
          · intro ac W hT hI hO
            have h57 : ac.tmps.getD 57 undef = bif (true && (false == false)) then .int .i64 0 else undef := hI 57 (by simp)
            rw [hc, cond_true] at h57
            have h51 : ac.tmps.getD 51 undef = .bool false := hI 51 (by simp)
            show Brings Try.prog (fun v w' => Turned (fun _ => False) W w' ∧ v = bif (true && (false == false)) then .bool B58 else undef) _
            rw [hc, cond_true]
            rw [HB58.out]
            simp only [execOp, Act.eval, h57, h51]
            go_simp
            try exact ⟨Turned.refl _ _, rfl⟩
        case s13 => as_aux_lemma =>
          refine fun hs hle => stepG_free [51, 58] [] (by kernel_rfl) rfl ?_
          · intro ac W hT hI hO
            have h51 : ac.tmps.getD 51 undef = .bool false := hI 51 (by simp)
            have h58 : ac.tmps.getD 58 undef = bif (true && (false == false)) then .bool B58 else undef := hI 58 (by simp)
            show Brings Try.prog (fun v w' => Turned (fun _ => False) W w' ∧ v = .bool B59) _
            rw [HB59.out]
            cases hB : false
            · simp only [hB] at *
              simp [execOp, Act.eval, go_sem, Brings, h51, h58]
              try exact Turned.refl _ _
            · simp only [hB] at *
              simp [execOp, Act.eval, go_sem, Brings, h51, h58]
              try exact Turned.refl _ _
        case s14 => as_aux_lemma =>
          refine fun hs hle => stepG_free [59] [] (by kernel_rfl) rfl ?_
          · intro ac W hT hI hO
            have h59 : ac.tmps.getD 59 undef = .bool B59 := hI 59 (by simp)
            show Brings Try.prog (fun v w' => Turned (fun _ => False) W w' ∧ v = .bool B59) _
            simp only [execOp, Act.eval, h59]
            go_simp
            try exact ⟨Turned.refl _ _, rfl⟩
        case s15 => as_aux_lemma =>
          refine fun hs hle => stepG_guard [60] [1] (by kernel_rfl) 14 false 60 rfl rfl (by simp) true B59 (fun _ _ h => h) (fun hc => ?_) (fun hc _ _ => ?_)
          rotate_left
          · refine ⟨Turned.refl _ _, ?_⟩
            show undef = bif (true && (B59 == false)) then _ else undef
            rw [hc]; rfl
          · intro ac W hT hI hO
            have h60 : ac.tmps.getD 60 undef = .bool B59 := hI 60 (by simp)
            have h1 : ac.tmps.getD 1 undef = .slice (some ⟨g, 0, none⟩) 11 11 := hO 1 (by simp)
            show Brings Try.prog (fun v w' => Turned (fun _ => False) W w' ∧ v = bif (true && (B59 == false)) then .slice (some ⟨g, 0, none⟩) 11 11 else undef) _
            rw [hc, cond_true]
            simp only [execOp, Act.eval, h60, h1]
            go_simp
            try exact ⟨Turned.refl _ _, rfl⟩
        case s16 => as_aux_lemma =>
          refine fun hs hle => stepG_guard [60] [2] (by kernel_rfl) 14 false 60 rfl rfl (by simp) true B59 (fun _ _ h => h) (fun hc => ?_) (fun hc _ _ => ?_)
          rotate_left
          · refine ⟨Turned.refl _ _, ?_⟩
            show undef = bif (true && (B59 == false)) then _ else undef
            rw [hc]; rfl
          · intro ac W hT hI hO
            have h60 : ac.tmps.getD 60 undef = .bool B59 := hI 60 (by simp)
            have h2 : ac.tmps.getD 2 undef = .int .i64 (j : Int) := hO 2 (by simp)
            show Brings Try.prog (fun v w' => Turned (fun _ => False) W w' ∧ v = bif (true && (B59 == false)) then .int .i64 (j : Int) else undef) _
            rw [hc, cond_true]
            simp only [execOp, Act.eval, h60, h2]
            go_simp
            try exact ⟨Turned.refl _ _, rfl⟩
        case s17 => as_aux_lemma =>
          refine fun hs hle => stepG_guard [61, 62, 60] [] (by kernel_rfl) 14 false 60 rfl rfl (by simp) true B59 (fun _ _ h => h) (fun hc => ?_) (fun hc _ _ => ?_)
          rotate_left
          · refine ⟨Turned.refl _ _, ?_⟩
            show undef = bif (true && (B59 == false)) then _ else undef
            rw [hc]; rfl
          · intro ac W hT hI hO
            have h61 : ac.tmps.getD 61 undef = bif (true && (B59 == false)) then .slice (some ⟨g, 0, none⟩) 11 11 else undef := hI 61 (by simp)
            rw [hc, cond_true] at h61
            have h62 : ac.tmps.getD 62 undef = bif (true && (B59 == false)) then .int .i64 (j : Int) else undef := hI 62 (by simp)
            rw [hc, cond_true] at h62
            have h60 : ac.tmps.getD 60 undef = .bool B59 := hI 60 (by simp)
            show Brings Try.prog (fun v w' => Turned (fun _ => False) W w' ∧ v = bif (true && (B59 == false)) then .pointer (some ⟨g, j * 4, none⟩) else undef) _
            rw [hc, cond_true]
            simp only [execOp, Act.eval, h61, h62, h60]
            go_simp
            try rw [if_pos (by omega)]
            try exact ⟨Turned.refl _ _, rfl⟩
        case s18 => as_aux_lemma =>
          refine fun hs hle => stepG_guard [63, 60] [] (by kernel_rfl) 14 false 60 rfl rfl (by simp) true B59 (fun _ _ h => h) (fun hc => ?_) (fun hc _ _ => ?_)
          rotate_left
          · refine ⟨Turned.refl _ _, ?_⟩
            show undef = bif (true && (B59 == false)) then _ else undef
            rw [hc]; rfl
          · intro ac W hT hI hO
            have h63 : ac.tmps.getD 63 undef = bif (true && (B59 == false)) then .pointer (some ⟨g, j * 4, none⟩) else undef := hI 63 (by simp)
            rw [hc, cond_true] at h63
            have h60 : ac.tmps.getD 60 undef = .bool B59 := hI 60 (by simp)
            show Brings Try.prog (fun v w' => Turned (fun _ => False) W w' ∧ v = bif (true && (B59 == false)) then .agg #[.int .i64 x.kind, .int .i64 x.n, .string x.name, .slice x.at_.1 x.args.length x.at_.2] else undef) _
            rw [hc, cond_true]
            have Tq := T4.trans (NoneS.turned hs W hT); have c0 := Tq.cell0 c0; have c1 := Tq.cell0 c1; have c2 := Tq.cell0 c2; have c3 := Tq.cell0 c3; have d0 := (NoneS.turned hs W hT).cell0 d0; have d1 := (NoneS.turned hs W hT).cell0 d1; have d2 := (NoneS.turned hs W hT).cell0 d2; have d3 := (NoneS.turned hs W hT).cell0 d3
            simp only [execOp, Act.eval, h63, h60]
            go_simp
            exact ⟨Turned.refl _ _, rfl⟩
        case s19 => as_aux_lemma =>
          refine fun hs hle => stepG_guard [60] [1] (by kernel_rfl) 14 false 60 rfl rfl (by simp) true B59 (fun _ _ h => h) (fun hc => ?_) (fun hc _ _ => ?_)
          rotate_left
          · refine ⟨Turned.refl _ _, ?_⟩
            show undef = bif (true && (B59 == false)) then _ else undef
            rw [hc]; rfl
          · intro ac W hT hI hO
            have h60 : ac.tmps.getD 60 undef = .bool B59 := hI 60 (by simp)
            have h1 : ac.tmps.getD 1 undef = .slice (some ⟨g, 0, none⟩) 11 11 := hO 1 (by simp)
            show Brings Try.prog (fun v w' => Turned (fun _ => False) W w' ∧ v = bif (true && (B59 == false)) then .slice (some ⟨g, 0, none⟩) 11 11 else undef) _
            rw [hc, cond_true]
            simp only [execOp, Act.eval, h60, h1]
            go_simp
            try exact ⟨Turned.refl _ _, rfl⟩
        case s20 => as_aux_lemma =>
          refine fun hs hle => stepG_guard [60] [2] (by kernel_rfl) 14 false 60 rfl rfl (by simp) true B59 (fun _ _ h => h) (fun hc => ?_) (fun hc _ _ => ?_)
          rotate_left
          · refine ⟨Turned.refl _ _, ?_⟩
            show undef = bif (true && (B59 == false)) then _ else undef
            rw [hc]; rfl
          · intro ac W hT hI hO
            have h60 : ac.tmps.getD 60 undef = .bool B59 := hI 60 (by simp)
            have h2 : ac.tmps.getD 2 undef = .int .i64 (j : Int) := hO 2 (by simp)
            show Brings Try.prog (fun v w' => Turned (fun _ => False) W w' ∧ v = bif (true && (B59 == false)) then .int .i64 (j : Int) else undef) _
            rw [hc, cond_true]
            simp only [execOp, Act.eval, h60, h2]
            go_simp
            try exact ⟨Turned.refl _ _, rfl⟩
        case s21 => as_aux_lemma =>
          refine fun hs hle => stepG_guard [65, 66, 60] [] (by kernel_rfl) 14 false 60 rfl rfl (by simp) true B59 (fun _ _ h => h) (fun hc => ?_) (fun hc _ _ => ?_)
          rotate_left
          · refine ⟨Turned.refl _ _, ?_⟩
            show undef = bif (true && (B59 == false)) then _ else undef
            rw [hc]; rfl
          · intro ac W hT hI hO
            have h65 : ac.tmps.getD 65 undef = bif (true && (B59 == false)) then .slice (some ⟨g, 0, none⟩) 11 11 else undef := hI 65 (by simp)
            rw [hc, cond_true] at h65
            have h66 : ac.tmps.getD 66 undef = bif (true && (B59 == false)) then .int .i64 (j : Int) else undef := hI 66 (by simp)
            rw [hc, cond_true] at h66
            have h60 : ac.tmps.getD 60 undef = .bool B59 := hI 60 (by simp)
            show Brings Try.prog (fun v w' => Turned (fun _ => False) W w' ∧ v = bif (true && (B59 == false)) then .pointer (some ⟨g, j * 4, none⟩) else undef) _
            rw [hc, cond_true]
            simp only [execOp, Act.eval, h65, h66, h60]
            go_simp
            try rw [if_pos (by omega)]
            try exact ⟨Turned.refl _ _, rfl⟩
        case s22 => as_aux_lemma =>
          refine fun hs hle => stepG_guard [67, 60] [] (by kernel_rfl) 14 false 60 rfl rfl (by simp) true B59 (fun _ _ h => h) (fun hc => ?_) (fun hc _ _ => ?_)
          rotate_left
          · refine ⟨Turned.refl _ _, ?_⟩
            show undef = bif (true && (B59 == false)) then _ else undef
            rw [hc]; rfl
          · intro ac W hT hI hO
            have h67 : ac.tmps.getD 67 undef = bif (true && (B59 == false)) then .pointer (some ⟨g, j * 4, none⟩) else undef := hI 67 (by simp)
            rw [hc, cond_true] at h67
            have h60 : ac.tmps.getD 60 undef = .bool B59 := hI 60 (by simp)
            show Brings Try.prog (fun v w' => Turned (fun _ => False) W w' ∧ v = bif (true && (B59 == false)) then .agg #[.int .i64 x.kind, .int .i64 x.n, .string x.name, .slice x.at_.1 x.args.length x.at_.2] else undef) _
            rw [hc, cond_true]
            have Tq := T4.trans (NoneS.turned hs W hT); have c0 := Tq.cell0 c0; have c1 := Tq.cell0 c1; have c2 := Tq.cell0 c2; have c3 := Tq.cell0 c3; have d0 := (NoneS.turned hs W hT).cell0 d0; have d1 := (NoneS.turned hs W hT).cell0 d1; have d2 := (NoneS.turned hs W hT).cell0 d2; have d3 := (NoneS.turned hs W hT).cell0 d3
            simp only [execOp, Act.eval, h67, h60]
            go_simp
            exact ⟨Turned.refl _ _, rfl⟩
        case s23 => as_aux_lemma =>
          refine fun hs hle => stepG_guard [64, 68, 60] [] (by kernel_rfl) 14 false 60 rfl rfl (by simp) true B59 (fun _ _ h => h) (fun hc => ?_) (fun hc _ _ => ?_)
          rotate_left
          · refine ⟨Turned.refl _ _, ?_⟩
            show undef = bif (true && (B59 == false)) then _ else undef
            rw [hc]; rfl
          · intro ac W hT hI hO
            have h64 : ac.tmps.getD 64 undef = bif (true && (B59 == false)) then .agg #[.int .i64 x.kind, .int .i64 x.n, .string x.name, .slice x.at_.1 x.args.length x.at_.2] else undef := hI 64 (by simp)
            rw [hc, cond_true] at h64
            have h68 : ac.tmps.getD 68 undef = bif (true && (B59 == false)) then .agg #[.int .i64 x.kind, .int .i64 x.n, .string x.name, .slice x.at_.1 x.args.length x.at_.2] else undef := hI 68 (by simp)
            rw [hc, cond_true] at h68
            have h60 : ac.tmps.getD 60 undef = .bool B59 := hI 60 (by simp)
            show Brings Try.prog (fun v w' => Turned (fun _ => False) W w' ∧ v = bif (true && (B59 == false)) then .bool false else undef) _
            rw [hc, cond_true]
            simp only [execOp, Act.eval, h64, h68, h60]
            go_simp
            show Calls Try.prog 52 _ W _
            (with_reducible refine (HSA.out W (T4.trans (NoneS.turned hs W hT))).mono ?_)
            rintro e w' ⟨rfl, T'⟩
            exact ⟨_, rfl, T', rfl⟩
        case s24 => as_aux_lemma =>
          refine fun hs hle => stepG_free [60, 69] [] (by kernel_rfl) rfl ?_
          · intro ac W hT hI hO
            have h60 : ac.tmps.getD 60 undef = .bool B59 := hI 60 (by simp)
            have h69 : ac.tmps.getD 69 undef = bif (true && (B59 == false)) then .bool false else undef := hI 69 (by simp)
            show Brings Try.prog (fun v w' => Turned (fun _ => False) W w' ∧ v = .bool B70) _
            rw [HB70.out]
            cases hB : B59
            · simp only [hB] at *
              simp [execOp, Act.eval, go_sem, Brings, h60, h69]
              try exact Turned.refl _ _
            · simp only [hB] at *
              simp [execOp, Act.eval, go_sem, Brings, h60, h69]
              try exact Turned.refl _ _
        case s25 => as_aux_lemma =>
          refine fun hs hle => stepG_free [70] [] (by kernel_rfl) rfl ?_
          · intro ac W hT hI hO
            have h70 : ac.tmps.getD 70 undef = .bool B70 := hI 70 (by simp)
            show Brings Try.prog (fun v w' => Turned (fun _ => False) W w' ∧ v = .bool B70) _
            simp only [execOp, Act.eval, h70]
            go_simp
            try exact ⟨Turned.refl _ _, rfl⟩
        case s26 => as_aux_lemma =>
          refine fun hs hle => stepG_guard [71] [3] (by kernel_rfl) 25 false 71 rfl rfl (by simp) true B70 (fun _ _ h => h) (fun hc => ?_) (fun hc _ _ => ?_)
          rotate_left
          · refine ⟨Turned.refl _ _, ?_⟩
            show undef = bif (true && (B70 == false)) then _ else undef
            rw [hc]; rfl
          · intro ac W hT hI hO
            have h71 : ac.tmps.getD 71 undef = .bool B70 := hI 71 (by simp)
            have h3 : ac.tmps.getD 3 undef = .slice va 0 vc := hO 3 (by simp)
            show Brings Try.prog (fun v w' => Turned (fun _ => False) W w' ∧ v = bif (true && (B70 == false)) then .slice va 0 vc else undef) _
            rw [hc, cond_true]
            simp only [execOp, Act.eval, h71, h3]
            go_simp
            try exact ⟨Turned.refl _ _, rfl⟩
        case s27 => as_aux_lemma =>
          refine fun hs hle => stepG_guard [72, 71] [] (by kernel_rfl) 25 false 71 rfl rfl (by simp) true B70 (fun _ _ h => h) (fun hc => ?_) (fun hc _ _ => ?_)
          rotate_left
          · refine ⟨Turned.refl _ _, ?_⟩
            show undef = bif (true && (B70 == false)) then _ else undef
            rw [hc]; rfl
          · intro ac W hT hI hO
            have h72 : ac.tmps.getD 72 undef = bif (true && (B70 == false)) then .slice va 0 vc else undef := hI 72 (by simp)
            rw [hc, cond_true] at h72
            have h71 : ac.tmps.getD 71 undef = .bool B70 := hI 71 (by simp)
            show Brings Try.prog (fun v w' => Turned (fun _ => False) W w' ∧ v = bif (true && (B70 == false)) then .int .i64 0 else undef) _
            rw [hc, cond_true]
            simp only [execOp, Act.eval, h72, h71]
            go_simp
            try exact ⟨Turned.refl _ _, rfl⟩
        case s28 => as_aux_lemma =>
          refine fun hs hle => stepG_guard [73, 71] [] (by kernel_rfl) 25 false 71 rfl rfl (by simp) true B70 (fun _ _ h => h) (fun hc => ?_) (fun hc _ _ => ?_)
          rotate_left
          · refine ⟨Turned.refl _ _, ?_⟩
            show undef = bif (true && (B70 == false)) then _ else undef
            rw [hc]; rfl
          · intro ac W hT hI hO
            have h73 : ac.tmps.getD 73 undef = bif (true && (B70 == false)) then .int .i64 0 else undef := hI 73 (by simp)
            rw [hc, cond_true] at h73
            have h71 : ac.tmps.getD 71 undef = .bool B70 := hI 71 (by simp)
            show Brings Try.prog (fun v w' => Turned (fun _ => False) W w' ∧ v = bif (true && (B70 == false)) then .bool B74 else undef) _
            rw [hc, cond_true]
            rw [HB74.out]
            simp only [execOp, Act.eval, h73, h71]
            go_simp
            try exact ⟨Turned.refl _ _, rfl⟩
        case s29 => as_aux_lemma =>
          refine fun hs hle => stepG_free [71, 74] [] (by kernel_rfl) rfl ?_
          · intro ac W hT hI hO
            have h71 : ac.tmps.getD 71 undef = .bool B70 := hI 71 (by simp)
            have h74 : ac.tmps.getD 74 undef = bif (true && (B70 == false)) then .bool B74 else undef := hI 74 (by simp)
            show Brings Try.prog (fun v w' => Turned (fun _ => False) W w' ∧ v = .bool B75) _
            rw [HB75.out]
            cases hB : B70
            · simp only [hB] at *
              simp [execOp, Act.eval, go_sem, Brings, h71, h74]
              try exact Turned.refl _ _
            · simp only [hB] at *
              simp [execOp, Act.eval, go_sem, Brings, h71, h74]
              try exact Turned.refl _ _
        case s30 => as_aux_lemma =>
          refine fun hs hle => stepG_free [75] [] (by kernel_rfl) rfl ?_
          · intro ac W hT hI hO
            have h75 : ac.tmps.getD 75 undef = .bool B75 := hI 75 (by simp)
            show Brings Try.prog (fun v w' => Turned (fun _ => False) W w' ∧ v = .bool B75) _
            simp only [execOp, Act.eval, h75]
            go_simp
            try exact ⟨Turned.refl _ _, rfl⟩
        case s31 => as_aux_lemma =>
          refine fun hs hle => stepG_guard [76] [4] (by kernel_rfl) 30 false 76 rfl rfl (by simp) true B75 (fun _ _ h => h) (fun hc => ?_) (fun hc _ _ => ?_)
          rotate_left
          · refine ⟨Turned.refl _ _, ?_⟩
            show undef = bif (true && (B75 == false)) then _ else undef
            rw [hc]; rfl
          · intro ac W hT hI hO
            have h76 : ac.tmps.getD 76 undef = .bool B75 := hI 76 (by simp)
            have h4 : ac.tmps.getD 4 undef = .pointer (some ⟨B4, 0, none⟩) := hO 4 (by simp)
            show Brings Try.prog (fun v w' => Turned (fun _ => False) W w' ∧ v = bif (true && (B75 == false)) then .pointer (some ⟨B4, 0, none⟩) else undef) _
            rw [hc, cond_true]
            simp only [execOp, Act.eval, h76, h4]
            go_simp
            try exact ⟨Turned.refl _ _, rfl⟩
        case s32 => as_aux_lemma =>
          refine fun hs hle => stepG_guard [77, 76] [] (by kernel_rfl) 30 false 76 rfl rfl (by simp) true B75 (fun _ _ h => h) (fun hc => ?_) (fun hc _ _ => ?_)
          rotate_left
          · refine ⟨Turned.refl _ _, ?_⟩
            show undef = bif (true && (B75 == false)) then _ else undef
            rw [hc]; rfl
          · intro ac W hT hI hO
            have h77 : ac.tmps.getD 77 undef = bif (true && (B75 == false)) then .pointer (some ⟨B4, 0, none⟩) else undef := hI 77 (by simp)
            rw [hc, cond_true] at h77
            have h76 : ac.tmps.getD 76 undef = .bool B75 := hI 76 (by simp)
            show Brings Try.prog (fun v w' => Turned (fun _ => False) W w' ∧ v = bif (true && (B75 == false)) then .int .i64 x.kind else undef) _
            rw [hc, cond_true]
            have Tq := T4.trans (NoneS.turned hs W hT); have c0 := Tq.cell0 c0; have c1 := Tq.cell0 c1; have c2 := Tq.cell0 c2; have c3 := Tq.cell0 c3; have d0 := (NoneS.turned hs W hT).cell0 d0; have d1 := (NoneS.turned hs W hT).cell0 d1; have d2 := (NoneS.turned hs W hT).cell0 d2; have d3 := (NoneS.turned hs W hT).cell0 d3
            simp only [execOp, Act.eval, h77, h76]
            go_simp
            exact ⟨Turned.refl _ _, rfl⟩
        case s33 => as_aux_lemma =>
          refine fun hs hle => stepG_guard [76] [1] (by kernel_rfl) 30 false 76 rfl rfl (by simp) true B75 (fun _ _ h => h) (fun hc => ?_) (fun hc _ _ => ?_)
          rotate_left
          · refine ⟨Turned.refl _ _, ?_⟩
            show undef = bif (true && (B75 == false)) then _ else undef
            rw [hc]; rfl
          · intro ac W hT hI hO
            have h76 : ac.tmps.getD 76 undef = .bool B75 := hI 76 (by simp)
            have h1 : ac.tmps.getD 1 undef = .slice (some ⟨g, 0, none⟩) 11 11 := hO 1 (by simp)
            show Brings Try.prog (fun v w' => Turned (fun _ => False) W w' ∧ v = bif (true && (B75 == false)) then .slice (some ⟨g, 0, none⟩) 11 11 else undef) _
            rw [hc, cond_true]
            simp only [execOp, Act.eval, h76, h1]
            go_simp
            try exact ⟨Turned.refl _ _, rfl⟩
        case s34 => as_aux_lemma =>
          refine fun hs hle => stepG_guard [76] [2] (by kernel_rfl) 30 false 76 rfl rfl (by simp) true B75 (fun _ _ h => h) (fun hc => ?_) (fun hc _ _ => ?_)
          rotate_left
          · refine ⟨Turned.refl _ _, ?_⟩
            show undef = bif (true && (B75 == false)) then _ else undef
            rw [hc]; rfl
          · intro ac W hT hI hO
            have h76 : ac.tmps.getD 76 undef = .bool B75 := hI 76 (by simp)
            have h2 : ac.tmps.getD 2 undef = .int .i64 (j : Int) := hO 2 (by simp)
            show Brings Try.prog (fun v w' => Turned (fun _ => False) W w' ∧ v = bif (true && (B75 == false)) then .int .i64 (j : Int) else undef) _
            rw [hc, cond_true]
            simp only [execOp, Act.eval, h76, h2]
            go_simp
            try exact ⟨Turned.refl _ _, rfl⟩
        case s35 => as_aux_lemma =>
          refine fun hs hle => stepG_guard [79, 80, 76] [] (by kernel_rfl) 30 false 76 rfl rfl (by simp) true B75 (fun _ _ h => h) (fun hc => ?_) (fun hc _ _ => ?_)
          rotate_left
          · refine ⟨Turned.refl _ _, ?_⟩
            show undef = bif (true && (B75 == false)) then _ else undef
            rw [hc]; rfl
          · intro ac W hT hI hO
            have h79 : ac.tmps.getD 79 undef = bif (true && (B75 == false)) then .slice (some ⟨g, 0, none⟩) 11 11 else undef := hI 79 (by simp)
            rw [hc, cond_true] at h79
            have h80 : ac.tmps.getD 80 undef = bif (true && (B75 == false)) then .int .i64 (j : Int) else undef := hI 80 (by simp)
            rw [hc, cond_true] at h80
            have h76 : ac.tmps.getD 76 undef = .bool B75 := hI 76 (by simp)
            show Brings Try.prog (fun v w' => Turned (fun _ => False) W w' ∧ v = bif (true && (B75 == false)) then .pointer (some ⟨g, j * 4, none⟩) else undef) _
            rw [hc, cond_true]
            simp only [execOp, Act.eval, h79, h80, h76]
            go_simp
            try rw [if_pos (by omega)]
            try exact ⟨Turned.refl _ _, rfl⟩
        case s36 => as_aux_lemma =>
          refine fun hs hle => stepG_guard [81, 76] [] (by kernel_rfl) 30 false 76 rfl rfl (by simp) true B75 (fun _ _ h => h) (fun hc => ?_) (fun hc _ _ => ?_)
          rotate_left
          · refine ⟨Turned.refl _ _, ?_⟩
            show undef = bif (true && (B75 == false)) then _ else undef
            rw [hc]; rfl
          · intro ac W hT hI hO
            have h81 : ac.tmps.getD 81 undef = bif (true && (B75 == false)) then .pointer (some ⟨g, j * 4, none⟩) else undef := hI 81 (by simp)
            rw [hc, cond_true] at h81
            have h76 : ac.tmps.getD 76 undef = .bool B75 := hI 76 (by simp)
            show Brings Try.prog (fun v w' => Turned (fun _ => False) W w' ∧ v = bif (true && (B75 == false)) then .pointer (some ⟨g, j * 4, none⟩) else undef) _
            rw [hc, cond_true]
            simp only [execOp, Act.eval, h81, h76]
            go_simp
            try exact ⟨Turned.refl _ _, rfl⟩
        case s37 => as_aux_lemma =>
          refine fun hs hle => stepG_guard [82, 76] [] (by kernel_rfl) 30 false 76 rfl rfl (by simp) true B75 (fun _ _ h => h) (fun hc => ?_) (fun hc _ _ => ?_)
          rotate_left
          · refine ⟨Turned.refl _ _, ?_⟩
            show undef = bif (true && (B75 == false)) then _ else undef
            rw [hc]; rfl
          · intro ac W hT hI hO
            have h82 : ac.tmps.getD 82 undef = bif (true && (B75 == false)) then .pointer (some ⟨g, j * 4, none⟩) else undef := hI 82 (by simp)
            rw [hc, cond_true] at h82
            have h76 : ac.tmps.getD 76 undef = .bool B75 := hI 76 (by simp)
            show Brings Try.prog (fun v w' => Turned (fun _ => False) W w' ∧ v = bif (true && (B75 == false)) then .int .i64 x.kind else undef) _
            rw [hc, cond_true]
            have Tq := T4.trans (NoneS.turned hs W hT); have c0 := Tq.cell0 c0; have c1 := Tq.cell0 c1; have c2 := Tq.cell0 c2; have c3 := Tq.cell0 c3; have d0 := (NoneS.turned hs W hT).cell0 d0; have d1 := (NoneS.turned hs W hT).cell0 d1; have d2 := (NoneS.turned hs W hT).cell0 d2; have d3 := (NoneS.turned hs W hT).cell0 d3
            simp only [execOp, Act.eval, h82, h76]
            go_simp
            exact ⟨Turned.refl _ _, rfl⟩
        case s38 => as_aux_lemma =>
          refine fun hs hle => stepG_guard [78, 83, 76] [] (by kernel_rfl) 30 false 76 rfl rfl (by simp) true B75 (fun _ _ h => h) (fun hc => ?_) (fun hc _ _ => ?_)
          rotate_left
          · refine ⟨Turned.refl _ _, ?_⟩
            show undef = bif (true && (B75 == false)) then _ else undef
            rw [hc]; rfl
          · intro ac W hT hI hO
            have h78 : ac.tmps.getD 78 undef = bif (true && (B75 == false)) then .int .i64 x.kind else undef := hI 78 (by simp)
            rw [hc, cond_true] at h78
            have h83 : ac.tmps.getD 83 undef = bif (true && (B75 == false)) then .int .i64 x.kind else undef := hI 83 (by simp)
            rw [hc, cond_true] at h83
            have h76 : ac.tmps.getD 76 undef = .bool B75 := hI 76 (by simp)
            show Brings Try.prog (fun v w' => Turned (fun _ => False) W w' ∧ v = bif (true && (B75 == false)) then .bool B84 else undef) _
            rw [hc, cond_true]
            rw [HB84.out]
            simp only [execOp, Act.eval, h78, h83, h76]
            go_simp
            try exact ⟨Turned.refl _ _, rfl⟩
        case s39 => as_aux_lemma =>
          refine fun hs hle => stepG_free [76, 84] [] (by kernel_rfl) rfl ?_
          · intro ac W hT hI hO
            have h76 : ac.tmps.getD 76 undef = .bool B75 := hI 76 (by simp)
            have h84 : ac.tmps.getD 84 undef = bif (true && (B75 == false)) then .bool B84 else undef := hI 84 (by simp)
            show Brings Try.prog (fun v w' => Turned (fun _ => False) W w' ∧ v = .bool B85) _
            rw [HB85.out]
            cases hB : B75
            · simp only [hB] at *
              simp [execOp, Act.eval, go_sem, Brings, h76, h84]
              try exact Turned.refl _ _
            · simp only [hB] at *
              simp [execOp, Act.eval, go_sem, Brings, h76, h84]
              try exact Turned.refl _ _
      case hQ =>
        intro hs vq w5 hlen hR hV
        have q85 : vq 85 = .bool B85 := hV 85 (by simp)
        have hB85 : B85 = false := by rw [HB85.out, HB84.out, HB75.out, HB74.out, HB70.out, HB59.out, HB58.out]; simp
        rw [hB85] at q85
        have T5 := NoneS.turned hs w5 hR
        simp only [List.foldl_cons, List.foldl_nil, List.setIfInBounds_toArray, List.set_cons_zero, List.set_cons_succ, q85]
        clear hV q85 hlen hR hs hB85
        go_wp2_with fail
        go_roundg (gk - 1)
        case measure => have := HG.out; omega
        case rel => exact ⟨j + 1, show _ = _ by have := HG.out; omega, by omega, by go_num, Tr.trans (T4.trans T5)⟩
    · obtain rfl : j = 11 := by omega
      clear HG hj hjl HBD HLN HSL
      have U1 : Hid (Turned (fun _ => False) w wr) := HT0.out.trans Tr
      clear Tr HT0
      go_wp2_with (go_at_call 61; refine (intV 0 (i64_lit _ (by omega)) _).mono ?_; rintro e w6 ⟨rfl, i6, T6⟩)
      have HB : Hid (BoxI w6.heap.size (leaf 1 0 ByteArray.empty) (w6.alloc (.cells #[.int .i64 1, .int .i64 0, .string ByteArray.empty, .slice none 0 0] 27)) (w6.alloc (.cells #[.int .i64 1, .int .i64 0, .string ByteArray.empty, .slice none 0 0] 27))) := BoxI.new i6
      have U2 : Hid (Turned (fun _ => False) w (w6.alloc (.cells #[.int .i64 1, .int .i64 0, .string ByteArray.empty, .slice none 0 0] 27)) ∧ w.heap.size ≤ w6.heap.size) := ⟨(U1.out.trans T6).alloc _, (U1.out.trans T6).size⟩
      have HTB := And.intro HB U2
      clear HB U2 U1 T6 i6
      revert HTB
      generalize w6.alloc (.cells #[.int .i64 1, .int .i64 0, .string ByteArray.empty, .slice none 0 0] 27) = w7
      generalize w6.heap.size = B5
      intro HTB
      obtain ⟨HB, U2⟩ := HTB
      try clear w6
      go_loopg [6] 63 (fun q i wr => ∃ (j : Nat) (D : LT), Hid (j + q = 63) ∧ j ≤ 63 ∧ i = .int .i64 j ∧ Hid (D.bare = ch j) ∧ Hid (BoxI B5 D w7 wr))
      case atStart => exact ⟨0, leaf 1 0 ByteArray.empty, Nat.zero_add _, Nat.zero_le _, rfl, rfl, HB⟩
      case round =>
        obtain ⟨j, D, HG, hj, rfl, HC, HBX⟩ := hrel
        by_cases hjl : j < 63
        · obtain ⟨d0, d1, d2, d3, _⟩ := HBX.out.cells (Turned.refl _ wr)
          go_wp2_with (go_at_call 37; refine (compQ ⟨#[102]⟩ (by unfold maxLen; decide) 1 (by decide) rfl (sl_madeP (l := [D]) ⟨HBX.out.inn, trivial⟩ (by have := HBX.out.lt; omega) 1 (by decide) rfl _ (by rw [show [D].flatMap LT.cells = D.cells ++ [] from rfl, LT.cells_eq]; rfl))).mono ?_; rintro e w8 ⟨a', c', rfl, hi, hT⟩; have TA := ((Turned.refl (fun _ => False) wr).alloc (.cells #[.int .i64 D.kind, .int .i64 D.n, .string D.name, .slice D.at_.1 D.args.length D.at_.2] 27)).trans hT; obtain ⟨_, _, _, _, f0, f1, f2, f3⟩ := HBX.out.cells TA)
          have hst : Hid (BoxI B5 (.mk 2 0 ⟨#[102]⟩ (a', c') [D]) w7 _) := HBX.out.step TA (D' := .mk 2 0 ⟨#[102]⟩ (a', c') [D]) (hi.mono (fun k _ h => h.elim (fun h => h) (fun h => by have := HBX.out.lt; simp at h; omega)))
          have hcb : Hid ((Tm.mk 2 0 ⟨#[102]⟩ (a', c') [D] : LT).bare = ch (j + 1)) := by
            show Tm.mk 2 0 ⟨#[102]⟩ () [D.bare] = _
            rw [HC.out]; rfl
          clear hi TA hT d0 d1 d2 d3 f0 f1 f2 f3
          go_roundg (gk - 1)
          case measure => have := HG.out; omega
          case rel => exact ⟨j + 1, .mk 2 0 ⟨#[102]⟩ (a', c') [D], show _ = _ by have := HG.out; omega, by omega, by go_num, hcb, hst⟩
        · obtain rfl : j = 63 := by omega
          clear HG hj hjl
          obtain ⟨d0, d1, d2, d3, _⟩ := HBX.out.cells (Turned.refl _ wr)
          have U3 : Hid (Turned (fun _ => False) w wr) := U2.out.1.step HBX.out.turned (fun k hk e => by have := U2.out.2; omega)
          have hin : D.In (fun _ => True) wr := HBX.out.inn.mono (fun _ _ _ => trivial)
          have HD := Lib.hid hin
          clear hin U2
          go_wp2_with (first
            | (go_at_call 37; refine (compV ⟨#[102]⟩ (by unfold maxLen; decide) 1 (by decide) rfl (sl_made (l := [D]) ⟨HD.out, trivial⟩ 1 (by decide) rfl _ (by rw [show [D].flatMap LT.cells = D.cells ++ [] from rfl, LT.cells_eq]; rfl))).mono ?_; rintro e w9 ⟨aF, cF, rfl, iF, T9⟩)
            | (go_at_call 63; refine (atomV ⟨#[97]⟩ (by unfold maxLen; decide) _).mono ?_; rintro e w10 ⟨rfl, iG, T10⟩))
          obtain ⟨F, hF⟩ : ∃ z : LT, z = .mk 2 0 ⟨#[102]⟩ (aF, cF) [D] := ⟨_, rfl⟩
          have hFb : Hid (F.bare = ch 64) := by
            show _ = _
            rw [hF]
            show Tm.mk 2 0 ⟨#[102]⟩ () [D.bare] = _
            rw [HC.out]; rfl
          have TA : Turned (fun _ => False) wr w9 := ((Turned.refl (fun _ => False) wr).alloc (.cells #[.int .i64 D.kind, .int .i64 D.n, .string D.name, .slice D.at_.1 D.args.length D.at_.2] 27)).trans T9
          have TB : Turned (fun _ => False) w9 w10 := ((Turned.refl (fun _ => False) w9).alloc (.cells #[.int .i64 2, .int .i64 0, .string ⟨#[102]⟩, .slice aF 1 cF] 27)).trans T10
          have hb7 : w10.heap[w9.heap.size]? = some (.cells #[.int .i64 2, .int .i64 0, .string ⟨#[102]⟩, .slice aF 1 cF] 27 (0, 0)) := (T10.block _ (by simp) (fun f => f)).trans (heap_alloc_new w9 _)
          rw [← hF] at iF
          have hKI : Hid (KI B5 w9.heap.size D F (fun k => k ≠ w10.heap.size) (w10.alloc (.cells #[.int .i64 2, .int .i64 0, .string ⟨#[97]⟩, .slice none 0 0] 27)) ∧ B5 ≠ w10.heap.size ∧ w9.heap.size ≠ w10.heap.size ∧ w.heap.size ≤ w10.heap.size) := by
            have l5 := HBX.out.lt
            have s1 := TA.size
            have s2 := TB.size
            have s3 := (Array.getElem?_eq_some_iff.1 hb7).1
            have s4 := U3.out.size
            have TG := (Turned.refl (fun _ => False) w10).alloc (.cells #[.int .i64 2, .int .i64 0, .string ⟨#[97]⟩, .slice none 0 0] 27)
            refine ⟨⟨(TG.block _ (by omega) (fun f => f)).trans (((TA.trans TB).block _ l5 (fun f => f)).trans HBX.out.blk), ?_, ?_, ?_⟩, by omega, by omega, by omega⟩
            · have e : F.kind = 2 ∧ F.n = 0 ∧ F.name = ⟨#[102]⟩ ∧ F.at_ = (aF, cF) ∧ F.args.length = 1 := by rw [hF]; exact ⟨rfl, rfl, rfl, rfl, rfl⟩
              rw [e.1, e.2.1, e.2.2.1, e.2.2.2.1, e.2.2.2.2]
              exact (TG.block _ s3 (fun f => f)).trans hb7
            · exact LT.In.turned TG (fun _ _ _ f => f) (fun k hk _ => by omega) D (HD.out.turned0 (TA.trans TB))
            · exact LT.In.turned TG (fun _ _ _ f => f) (fun k hk _ => by omega) F (iF.turned0 TB)
          have HB : Hid (BoxI w10.heap.size (leaf 2 0 ⟨#[97]⟩) (w10.alloc (.cells #[.int .i64 2, .int .i64 0, .string ⟨#[97]⟩, .slice none 0 0] 27)) (w10.alloc (.cells #[.int .i64 2, .int .i64 0, .string ⟨#[97]⟩, .slice none 0 0] 27))) := BoxI.new iG
          have U4 : Hid (Turned (fun _ => False) w (w10.alloc (.cells #[.int .i64 2, .int .i64 0, .string ⟨#[97]⟩, .slice none 0 0] 27))) := (U3.out.trans (TA.trans TB)).alloc _
          have HTB := And.intro HB (And.intro U4 hKI)
          clear HB U4 hKI hb7 TA TB iF iG T9 T10 HD U3 HBX d0 d1 d2 d3 hF
          revert HTB
          generalize w10.alloc (.cells #[.int .i64 2, .int .i64 0, .string ⟨#[97]⟩, .slice none 0 0] 27) = w11
          generalize w10.heap.size = B8
          generalize w9.heap.size = B7
          intro HTB
          obtain ⟨HB, U4, HKI⟩ := HTB
          try clear w9 w10
          go_loopg [9] 4 (fun q i wr => ∃ (j : Nat) (G : LT), Hid (j + q = 4) ∧ j ≤ 4 ∧ i = .int .i64 j ∧ Hid (G.bare = bush j) ∧ Hid (BoxI B8 G w11 wr))
          case atStart => exact ⟨0, leaf 2 0 ⟨#[97]⟩, Nat.zero_add _, Nat.zero_le _, rfl, rfl, HB⟩
          case round =>
            obtain ⟨j, G, HG, hj, rfl, HCG, HBX⟩ := hrel
            by_cases hjl : j < 4
            · obtain ⟨d0, d1, d2, d3, _⟩ := HBX.out.cells (Turned.refl _ wr)
              go_wp2_with (go_at_call 37; refine (compQ ⟨#[103]⟩ (by unfold maxLen; decide) 8 (by decide) rfl (sl_madeP (l := [G, G, G, G, G, G, G, G]) ⟨HBX.out.inn, HBX.out.inn, HBX.out.inn, HBX.out.inn, HBX.out.inn, HBX.out.inn, HBX.out.inn, HBX.out.inn, trivial⟩ (by have := HBX.out.lt; omega) 8 (by decide) rfl _ (by rw [show [G, G, G, G, G, G, G, G].flatMap LT.cells = G.cells ++ (G.cells ++ (G.cells ++ (G.cells ++ (G.cells ++ (G.cells ++ (G.cells ++ (G.cells ++ []))))))) from rfl, LT.cells_eq]; rfl))).mono ?_; rintro e w12 ⟨a', c', rfl, hi, hT⟩; have TA := ((Turned.refl (fun _ => False) wr).alloc (.cells #[.int .i64 G.kind, .int .i64 G.n, .string G.name, .slice G.at_.1 G.args.length G.at_.2, .int .i64 G.kind, .int .i64 G.n, .string G.name, .slice G.at_.1 G.args.length G.at_.2, .int .i64 G.kind, .int .i64 G.n, .string G.name, .slice G.at_.1 G.args.length G.at_.2, .int .i64 G.kind, .int .i64 G.n, .string G.name, .slice G.at_.1 G.args.length G.at_.2, .int .i64 G.kind, .int .i64 G.n, .string G.name, .slice G.at_.1 G.args.length G.at_.2, .int .i64 G.kind, .int .i64 G.n, .string G.name, .slice G.at_.1 G.args.length G.at_.2, .int .i64 G.kind, .int .i64 G.n, .string G.name, .slice G.at_.1 G.args.length G.at_.2, .int .i64 G.kind, .int .i64 G.n, .string G.name, .slice G.at_.1 G.args.length G.at_.2] 27)).trans hT; obtain ⟨_, _, _, _, f0, f1, f2, f3⟩ := HBX.out.cells TA)
              have hst : Hid (BoxI B8 (.mk 2 0 ⟨#[103]⟩ (a', c') [G, G, G, G, G, G, G, G]) w11 _) := HBX.out.step TA (D' := .mk 2 0 ⟨#[103]⟩ (a', c') [G, G, G, G, G, G, G, G]) (hi.mono (fun k _ h => h.elim (fun h => h) (fun h => by have := HBX.out.lt; simp at h; omega)))
              have hcb : Hid ((Tm.mk 2 0 ⟨#[103]⟩ (a', c') [G, G, G, G, G, G, G, G] : LT).bare = bush (j + 1)) := by
                show Tm.mk 2 0 ⟨#[103]⟩ () [G.bare, G.bare, G.bare, G.bare, G.bare, G.bare, G.bare, G.bare] = _
                rw [HCG.out]; rfl
              clear hi TA hT d0 d1 d2 d3 f0 f1 f2 f3
              go_roundg (gk - 1)
              case measure => have := HG.out; omega
              case rel => exact ⟨j + 1, .mk 2 0 ⟨#[103]⟩ (a', c') [G, G, G, G, G, G, G, G], show _ = _ by have := HG.out; omega, by omega, by go_num, hcb, hst⟩
            · obtain rfl : j = 4 := by omega
              clear HG hj hjl
              have U5 : Hid (Turned (fun _ => False) w wr) := U4.out.step HBX.out.turned (fun k hk e => by have := HKI.out.2.2.2; omega)
              have hki := HKI.out.1.turned HBX.out.turned HKI.out.2.1 HKI.out.2.2.1
              have hG : Hid (wr.heap[B8]? = some (.cells #[.int .i64 G.kind, .int .i64 G.n, .string G.name, .slice G.at_.1 G.args.length G.at_.2] 27 (0, 0)) ∧ G.In (fun _ => True) wr) := ⟨HBX.out.blk, HBX.out.inn.mono (fun _ _ _ => trivial)⟩
              have HK := Lib.hid hki
              clear hki HKI U4 HBX HB
              have lf : ∀ (k n : Int) (s : ByteArray) W, (-1000000 ≤ k ∧ k ≤ 1000000) → (-1000000 ≤ n ∧ n ≤ 1000000) → s.size ≤ 64 → (leaf k n s).In (fun _ => True) W := fun k n s W h1 h2 h3 => leafIn' (i64_lit _ h1) (i64_lit _ h2) (by unfold maxLen; omega)
              have LF := Lib.hid lf
              clear lf
              go_wp2_with (first
                | (go_at_call 64; refine (list64 (l := [leaf 1 1 ByteArray.empty, leaf 2 0 ⟨#[98]⟩]) (tail := leaf 0 0 ByteArray.empty) ((sl_made (w := w13) (l := [leaf 1 1 ByteArray.empty, leaf 2 0 ⟨#[98]⟩]) ⟨LF.out _ _ _ _ (by omega) (by omega) (by decide), LF.out _ _ _ _ (by omega) (by omega) (by decide), trivial⟩ 2 (by decide) rfl _ rfl).turned0 T14) (LF.out _ _ _ _ (by omega) (by omega) (by decide))).mono ?_; rintro e w15 ⟨t, rfl, hb, it, T15⟩; rw [LT.val_eq])
                | (go_at_call 62; refine (varV 0 (i64_lit _ (by omega)) _).mono ?_; rintro e w14 ⟨rfl, i14, T14⟩)
                | (go_at_call 63; refine (atomV ⟨#[98]⟩ (by unfold maxLen; decide) _).mono ?_; rintro e w13 ⟨rfl, i13, T13⟩)
                | (go_at_call 61; refine (intV 1 (i64_lit _ (by omega)) _).mono ?_; rintro e w12 ⟨rfl, i12, T12⟩))
              have TA : Turned (fun _ => False) wr w15 := T12.trans (T13.trans (((Turned.refl (fun _ => False) w13).alloc (.cells #[.int .i64 1, .int .i64 1, .string ByteArray.empty, .slice none 0 0, .int .i64 2, .int .i64 0, .string ⟨#[98]⟩, .slice none 0 0] 27)).trans (T14.trans T15)))
              have HBT := Lib.hid hb
              have itn := it.turned0 ((Turned.refl (fun _ => False) w15).alloc (.cells #[.int .i64 t.kind, .int .i64 t.n, .string t.name, .slice t.at_.1 t.args.length t.at_.2] 27))
              have k10 := boxAt (Turned.refl (fun _ => False) (w15.alloc (.cells #[.int .i64 t.kind, .int .i64 t.n, .string t.name, .slice t.at_.1 t.args.length t.at_.2] 27)))
              have TAB : Turned (fun _ => False) wr (w15.alloc (.cells #[.int .i64 t.kind, .int .i64 t.n, .string t.name, .slice t.at_.1 t.args.length t.at_.2] 27)) := TA.alloc _
              clear hb it T12 T13 T14 T15 i12 i13 i14 TA
              have HTB := And.intro itn (And.intro k10 TAB)
              clear itn k10 TAB
              revert HTB
              generalize w15.alloc (.cells #[.int .i64 t.kind, .int .i64 t.n, .string t.name, .slice t.at_.1 t.args.length t.at_.2] 27) = w16
              generalize w15.heap.size = B10
              intro HTB
              obtain ⟨itn, ⟨t0, t1, t2, t3, lt10⟩, TAB⟩ := HTB
              have hitt := itemsTwo itn HBT.out
              (with_reducible refine hitt.mono ?_)
              rintro e w17 ⟨mb, mo, vc, x, y, rfl, hxb, hyb, xin, yin, hv2, hvm, xc, T17⟩
              unfold maxLen at hvm
              go_wp2_with (go_at_call 63; refine (atomV ⟨#[91, 93]⟩ (by unfold maxLen; decide) _).mono ?_; rintro e w18 ⟨rfl, i18, T18⟩)
              have TY : Turned (fun _ => False) w17 w18 := ((Turned.refl (fun _ => False) w17).alloc (.cells #[.int .i64 y.kind, .int .i64 y.n, .string y.name, .slice y.at_.1 y.args.length y.at_.2] 27)).trans T18
              have ky := boxAt T18
              (with_reducible refine itemsEnd.mono ?_)
              rintro e w19 ⟨nb, nc, rfl, T19⟩
              go_wp2_with fail
              have kz := boxAt (Turned.refl (fun _ => False) (w19.alloc (.cells #[.int .i64 2, .int .i64 0, .string ⟨#[91, 93]⟩, .slice none 0 0] 27)))
              have TZ := ((TY.trans T19).alloc (.cells #[.int .i64 2, .int .i64 0, .string ⟨#[91, 93]⟩, .slice none 0 0] 27))
              have Tk := T19.alloc (.cells #[.int .i64 2, .int .i64 0, .string ⟨#[91, 93]⟩, .slice none 0 0] 27)
              have hk := HK.out
              have hg := hG.out
              have T0z := (TAB.trans T17).trans TZ
              have hKN : Hid (KnI B5 B7 B8 B10 w17.heap.size w19.heap.size mb mo D F G t y x (w19.alloc (.cells #[.int .i64 2, .int .i64 0, .string ⟨#[91, 93]⟩, .slice none 0 0] 27))) := by
                have hk' : KI B5 B7 D F (fun _ => True) (w19.alloc (.cells #[.int .i64 2, .int .i64 0, .string ⟨#[91, 93]⟩, .slice none 0 0] 27)) := ⟨(T0z.block _ (Array.getElem?_eq_some_iff.1 hk.b5).1 (fun f => f)).trans hk.b5, (T0z.block _ (Array.getElem?_eq_some_iff.1 hk.b7).1 (fun f => f)).trans hk.b7, hk.i5.turned0 T0z, hk.i7.turned0 T0z⟩
                have hg' := (T0z.block _ (Array.getElem?_eq_some_iff.1 hg.1).1 (fun f => f)).trans hg.1
                have f5 := cells4 hk'.b5
                have f7 := cells4 hk'.b7
                have f8 := cells4 hg'
                exact ⟨⟨f5.1, f5.2.1, f5.2.2.1, f5.2.2.2.1⟩, ⟨f7.1, f7.2.1, f7.2.2.1, f7.2.2.2.1⟩, ⟨f8.1, f8.2.1, f8.2.2.1, f8.2.2.2.1⟩, four0 (T17.trans TZ) ⟨t0, t1, t2, t3⟩, four0 Tk ⟨ky.1, ky.2.1, ky.2.2.1, ky.2.2.2.1⟩, ⟨kz.1, kz.2.1, kz.2.2.1, kz.2.2.2.1⟩, four0 TZ xc,
                  hk'.i5, hk'.i7, hg.2.turned0 T0z, itn.turned0 (T17.trans TZ), yin.turned0 TZ, xin.turned0 TZ⟩
              have U6 : Hid (Turned (fun _ => False) w (w19.alloc (.cells #[.int .i64 2, .int .i64 0, .string ⟨#[91, 93]⟩, .slice none 0 0] 27))) := U5.out.trans T0z
              have HTB := And.intro hKN U6
              clear hKN U6 T0z hk hg Tk TZ kz T19 ky TY T18 i18 T17 xc xin yin TAB t0 t1 t2 t3 lt10 itn hitt HK hG U5
              revert HTB
              generalize w19.alloc (.cells #[.int .i64 2, .int .i64 0, .string ⟨#[91, 93]⟩, .slice none 0 0] 27) = wz
              generalize w19.heap.size = B14
              generalize w17.heap.size = B12
              intro HTB
              obtain ⟨hKN, U6⟩ := HTB
              obtain ⟨cg5, cs5, cd5⟩ := ch_of HC.out
              obtain ⟨cg7, cs7, cd7⟩ := ch_of hFb.out
              obtain ⟨cg8, cs8, cz8⟩ := bush_of HCG.out
              obtain ⟨cg10, cs10, cz10⟩ := two_of HBT.out
              have sx : slim x := slim_eq' hxb.symm (leafSlim' _ _ _)
              have sy : slim y := slim_eq' hyb.symm (leafSlim' _ _ _)
              have gx : goodB x = true := (goodB_eq hxb).trans (by kernel_rfl)
              have gy : goodB y = true := (goodB_eq hyb).trans (by kernel_rfl)
              have HG5 : Hid (∀ W, Turned (fun _ => False) wz W → Calls Try.prog 38 #[.agg #[.int .i64 D.kind, .int .i64 D.n, .string D.name, .slice D.at_.1 D.args.length D.at_.2]] W fun e w' => e = .returned (.bool true) ∧ Turned (fun _ => False) W w') := fun W h => goodVal (hKN.out.turned0 h).i5 cs5 (by rw [cg5]; rfl)
              have HD5 : Hid (∀ W, Turned (fun _ => False) wz W → Calls Try.prog 36 #[.agg #[.int .i64 D.kind, .int .i64 D.n, .string D.name, .slice D.at_.1 D.args.length D.at_.2]] W fun e w' => e = .returned (.int .i64 64) ∧ Turned (fun _ => False) W w') := fun W h => depthVal (hKN.out.turned0 h).i5 (by rw [cd5]; rfl)
              have HG7 : Hid (∀ W, Turned (fun _ => False) wz W → Calls Try.prog 38 #[.agg #[.int .i64 F.kind, .int .i64 F.n, .string F.name, .slice F.at_.1 F.args.length F.at_.2]] W fun e w' => e = .returned (.bool false) ∧ Turned (fun _ => False) W w') := fun W h => goodVal (hKN.out.turned0 h).i7 cs7 (by rw [cg7]; rfl)
              have HD7 : Hid (∀ W, Turned (fun _ => False) wz W → Calls Try.prog 36 #[.agg #[.int .i64 F.kind, .int .i64 F.n, .string F.name, .slice F.at_.1 F.args.length F.at_.2]] W fun e w' => e = .returned (.int .i64 65) ∧ Turned (fun _ => False) W w') := fun W h => depthVal (hKN.out.turned0 h).i7 (by rw [cd7]; rfl)
              have HG8 : Hid (∀ W, Turned (fun _ => False) wz W → Calls Try.prog 38 #[.agg #[.int .i64 G.kind, .int .i64 G.n, .string G.name, .slice G.at_.1 G.args.length G.at_.2]] W fun e w' => e = .returned (.bool false) ∧ Turned (fun _ => False) W w') := fun W h => goodVal (hKN.out.turned0 h).i8 cs8 cg8
              have HS8 : Hid (∀ W, Turned (fun _ => False) wz W → Calls Try.prog 35 #[.agg #[.int .i64 G.kind, .int .i64 G.n, .string G.name, .slice G.at_.1 G.args.length G.at_.2]] W fun e w' => e = .returned (.int .i64 2001) ∧ Turned (fun _ => False) W w') := fun W h => sizeVal (hKN.out.turned0 h).i8 cs8 (by rw [cz8]; rfl)
              have HS10 : Hid (∀ W, Turned (fun _ => False) wz W → Calls Try.prog 35 #[.agg #[.int .i64 t.kind, .int .i64 t.n, .string t.name, .slice t.at_.1 t.args.length t.at_.2]] W fun e w' => e = .returned (.int .i64 5) ∧ Turned (fun _ => False) W w') := fun W h => sizeVal (hKN.out.turned0 h).i10 cs10 (by rw [cz10]; rfl)
              have HMX : Hid (∀ W, Turned (fun _ => False) wz W → Calls Try.prog 52 #[.agg #[.int .i64 x.kind, .int .i64 x.n, .string x.name, .slice x.at_.1 x.args.length x.at_.2], .agg #[.int .i64 2, .int .i64 0, .string ⟨#[98]⟩, .slice none 0 0]] W fun e w' => e = .returned (.bool true) ∧ Turned (fun _ => False) W w') := fun W h => sameVal (b := leaf 2 0 ⟨#[98]⟩) (hKN.out.turned0 h).ix (LF.out _ _ _ _ (by omega) (by omega) (by decide)) sx (leafSlim' _ _ _) (sameB_of hxb gx)
              have HMY : Hid (∀ W, Turned (fun _ => False) wz W → Calls Try.prog 52 #[.agg #[.int .i64 y.kind, .int .i64 y.n, .string y.name, .slice y.at_.1 y.args.length y.at_.2], .agg #[.int .i64 0, .int .i64 0, .string ByteArray.empty, .slice none 0 0]] W fun e w' => e = .returned (.bool true) ∧ Turned (fun _ => False) W w') := fun W h => sameVal (b := leaf 0 0 ByteArray.empty) (hKN.out.turned0 h).i12 (LF.out _ _ _ _ (by omega) (by omega) (by decide)) sy (leafSlim' _ _ _) (sameB_of hyb gy)
              have HME : Hid (∀ W, Turned (fun _ => False) wz W → Calls Try.prog 52 #[.agg #[.int .i64 2, .int .i64 0, .string ⟨#[91, 93]⟩, .slice none 0 0], .agg #[.int .i64 2, .int .i64 0, .string ⟨#[91, 93]⟩, .slice none 0 0]] W fun e w' => e = .returned (.bool true) ∧ Turned (fun _ => False) W w') := fun W h => sameVal (a := leaf 2 0 ⟨#[91, 93]⟩) (b := leaf 2 0 ⟨#[91, 93]⟩) (LF.out _ _ _ _ (by omega) (by omega) (by decide)) (LF.out _ _ _ _ (by omega) (by omega) (by decide)) (leafSlim' _ _ _) (leafSlim' _ _ _) (by kernel_rfl)
              have HG0 : Hid (∀ W, Turned (fun _ => False) wz W → Calls Try.prog 38 #[.agg #[.int .i64 2, .int .i64 0, .string ⟨#[]⟩, .slice none 0 0]] W fun e w' => e = .returned (.bool true) ∧ Turned (fun _ => False) W w') := fun W h => goodVal (t := leaf 2 0 ⟨#[]⟩) (LF.out _ _ _ _ (by omega) (by omega) (by decide)) (leafSlim' _ _ _) (by kernel_rfl)
              have HSF := Lib.hid cs7
              have HDF := Lib.hid cd7
              clear cg5 cs5 cd5 cg7 cs7 cd7 cg8 cs8 cz8 cg10 cs10 cz10 sx sy gx gy hxb hyb HC HCG HBT ZIN
              obtain ⟨B132, HB132⟩ : ∃ B, Hid (B = ((64 : Int) == 64)) := ⟨_, rfl⟩
              obtain ⟨B133, HB133⟩ : ∃ B, Hid (B = (true && B132)) := ⟨_, rfl⟩
              obtain ⟨B137, HB137⟩ : ∃ B, Hid (B = (!false)) := ⟨_, rfl⟩
              obtain ⟨B138, HB138⟩ : ∃ B, Hid (B = (B133 && B137)) := ⟨_, rfl⟩
              obtain ⟨B142, HB142⟩ : ∃ B, Hid (B = ((65 : Int) == 65)) := ⟨_, rfl⟩
              obtain ⟨B143, HB143⟩ : ∃ B, Hid (B = (B138 && B142)) := ⟨_, rfl⟩
              obtain ⟨B149, HB149⟩ : ∃ B, Hid (B = ((65 : Int) == 65)) := ⟨_, rfl⟩
              obtain ⟨B150, HB150⟩ : ∃ B, Hid (B = (B143 && B149)) := ⟨_, rfl⟩
              obtain ⟨B154, HB154⟩ : ∃ B, Hid (B = (!false)) := ⟨_, rfl⟩
              obtain ⟨B155, HB155⟩ : ∃ B, Hid (B = (B150 && B154)) := ⟨_, rfl⟩
              obtain ⟨B159, HB159⟩ : ∃ B, Hid (B = ((2001 : Int) == 2001)) := ⟨_, rfl⟩
              obtain ⟨B160, HB160⟩ : ∃ B, Hid (B = (B155 && B159)) := ⟨_, rfl⟩
              obtain ⟨B164, HB164⟩ : ∃ B, Hid (B = ((2 : Int) == 2)) := ⟨_, rfl⟩
              obtain ⟨B165, HB165⟩ : ∃ B, Hid (B = (B160 && B164)) := ⟨_, rfl⟩
              obtain ⟨B172, HB172⟩ : ∃ B, Hid (B = (B165 && true)) := ⟨_, rfl⟩
              obtain ⟨B177, HB177⟩ : ∃ B, Hid (B = (B172 && true)) := ⟨_, rfl⟩
              obtain ⟨B181, HB181⟩ : ∃ B, Hid (B = ((0 : Int) == 0)) := ⟨_, rfl⟩
              obtain ⟨B182, HB182⟩ : ∃ B, Hid (B = (B177 && B181)) := ⟨_, rfl⟩
              obtain ⟨B187, HB187⟩ : ∃ B, Hid (B = (B182 && true)) := ⟨_, rfl⟩
              obtain ⟨B191, HB191⟩ : ∃ B, Hid (B = ((5 : Int) == 5)) := ⟨_, rfl⟩
              obtain ⟨B192, HB192⟩ : ∃ B, Hid (B = (B187 && B191)) := ⟨_, rfl⟩
              obtain ⟨B196, HB196⟩ : ∃ B, Hid (B = (B192 && true)) := ⟨_, rfl⟩
              obtain ⟨B202, HB202⟩ : ∃ B, Hid (B = (B196 && true)) := ⟨_, rfl⟩
              obtain ⟨B209, HB209⟩ : ∃ B, Hid (B = (!false)) := ⟨_, rfl⟩
              obtain ⟨B210, HB210⟩ : ∃ B, Hid (B = (B202 && B209)) := ⟨_, rfl⟩
              have hB133 : B133 = true := by rw [HB133.out, HB132.out]; rfl
              have hB138 : B138 = true := by rw [HB138.out, hB133, HB137.out]; rfl
              have hB143 : B143 = true := by rw [HB143.out, hB138, HB142.out]; rfl
              have hB150 : B150 = true := by rw [HB150.out, hB143, HB149.out]; rfl
              have hB155 : B155 = true := by rw [HB155.out, hB150, HB154.out]; rfl
              have hB160 : B160 = true := by rw [HB160.out, hB155, HB159.out]; rfl
              have hB165 : B165 = true := by rw [HB165.out, hB160, HB164.out]; rfl
              have hB172 : B172 = true := by rw [HB172.out, hB165]; rfl
              have hB177 : B177 = true := by rw [HB177.out, hB172]; rfl
              have hB182 : B182 = true := by rw [HB182.out, hB177, HB181.out]; rfl
              have hB187 : B187 = true := by rw [HB187.out, hB182]; rfl
              have hB192 : B192 = true := by rw [HB192.out, hB187, HB191.out]; rfl
              have hB196 : B196 = true := by rw [HB196.out, hB192]; rfl
              have hB202 : B202 = true := by rw [HB202.out, hB196]; rfl
              have hB210 : B210 = true := by rw [HB210.out, hB202, HB209.out]; rfl
              refine wp_region_hsW [127, 128, 129, 130, 131, 132, 133, 134, 135, 136, 137, 138, 139, 140, 141, 142, 143, 144, 145, 146, 147, 148, 149, 150, 151, 152, 153, 154, 155, 156, 157, 158, 159, 160, 161, 162, 163, 164, 165, 166, 167, 168, 169, 170, 171, 172, 173, 174, 175, 176, 177, 178, 179, 180, 181, 182, 183, 184, 185, 186, 187, 188, 189, 190, 191, 192, 193, 194, 195, 196, 197, 198, 199, 200, 201, 202, 203, 204, 205, 206, 207, 208, 209, 210, 0] [19, 20, 72, 79, 80] [0, 0, 0, 0, 0, 0, 0, 0, 0, 0, 0, 0, 0, 0, 0, 0, 0, 0, 0, 1, 2, 2, 2, 2, 2, 2, 2, 2, 2, 2, 2, 2, 2, 2, 2, 2, 2, 2, 2, 2, 2, 2, 2, 2, 2, 2, 2, 2, 2, 2, 2, 2, 2, 2, 2, 2, 2, 2, 2, 2, 2, 2, 2, 2, 2, 2, 2, 2, 2, 2, 2, 2, 3, 3, 3, 3, 3, 3, 3, 4, 5, 5, 5, 5, 5] [146, 147, 199, 206, 207] (fun d v => (match d with | 127 => v = .agg #[.int .i64 D.kind, .int .i64 D.n, .string D.name, .slice D.at_.1 D.args.length D.at_.2] | 128 => v = .bool true | 129 => v = .bool true | 130 => v = bif (true && (true == true)) then .agg #[.int .i64 D.kind, .int .i64 D.n, .string D.name, .slice D.at_.1 D.args.length D.at_.2] else undef | 131 => v = bif (true && (true == true)) then .int .i64 64 else undef | 132 => v = bif (true && (true == true)) then .bool B132 else undef | 133 => v = .bool B133 | 134 => v = .bool B133 | 135 => v = bif (true && (B133 == true)) then .agg #[.int .i64 F.kind, .int .i64 F.n, .string F.name, .slice F.at_.1 F.args.length F.at_.2] else undef | 136 => v = bif (true && (B133 == true)) then .bool false else undef | 137 => v = bif (true && (B133 == true)) then .bool B137 else undef | 138 => v = .bool B138 | 139 => v = .bool B138 | 140 => v = bif (true && (B138 == true)) then .agg #[.int .i64 F.kind, .int .i64 F.n, .string F.name, .slice F.at_.1 F.args.length F.at_.2] else undef | 141 => v = bif (true && (B138 == true)) then .int .i64 65 else undef | 142 => v = bif (true && (B138 == true)) then .bool B142 else undef | 143 => v = .bool B143 | 144 => v = .bool B143 | 145 => v = bif (true && (B143 == true)) then .agg #[.int .i64 F.kind, .int .i64 F.n, .string F.name, .slice F.at_.1 F.args.length F.at_.2] else undef | 148 => v = bif (true && (B143 == true)) then .int .i64 65 else undef | 149 => v = bif (true && (B143 == true)) then .bool B149 else undef | 150 => v = .bool B150 | 151 => v = .bool B150 | 152 => v = bif (true && (B150 == true)) then .agg #[.int .i64 G.kind, .int .i64 G.n, .string G.name, .slice G.at_.1 G.args.length G.at_.2] else undef | 153 => v = bif (true && (B150 == true)) then .bool false else undef | 154 => v = bif (true && (B150 == true)) then .bool B154 else undef | 155 => v = .bool B155 | 156 => v = .bool B155 | 157 => v = bif (true && (B155 == true)) then .agg #[.int .i64 G.kind, .int .i64 G.n, .string G.name, .slice G.at_.1 G.args.length G.at_.2] else undef | 158 => v = bif (true && (B155 == true)) then .int .i64 2001 else undef | 159 => v = bif (true && (B155 == true)) then .bool B159 else undef | 160 => v = .bool B160 | 161 => v = .bool B160 | 162 => v = bif (true && (B160 == true)) then .slice (some ⟨mb, mo, none⟩) 2 vc else undef | 163 => v = bif (true && (B160 == true)) then .int .i64 2 else undef | 164 => v = bif (true && (B160 == true)) then .bool B164 else undef | 165 => v = .bool B165 | 166 => v = .bool B165 | 167 => v = bif (true && (B165 == true)) then .slice (some ⟨mb, mo, none⟩) 2 vc else undef | 168 => v = bif (true && (B165 == true)) then .pointer (some ⟨mb, mo + 4, none⟩) else undef | 169 => v = bif (true && (B165 == true)) then .agg #[.int .i64 x.kind, .int .i64 x.n, .string x.name, .slice x.at_.1 x.args.length x.at_.2] else undef | 170 => v = bif (true && (B165 == true)) then .agg #[.int .i64 2, .int .i64 0, .string ⟨#[98]⟩, .slice none 0 0] else undef | 171 => v = bif (true && (B165 == true)) then .bool true else undef | 172 => v = .bool B172 | 173 => v = .bool B172 | 174 => v = bif (true && (B172 == true)) then .agg #[.int .i64 y.kind, .int .i64 y.n, .string y.name, .slice y.at_.1 y.args.length y.at_.2] else undef | 175 => v = bif (true && (B172 == true)) then .agg #[.int .i64 0, .int .i64 0, .string ByteArray.empty, .slice none 0 0] else undef | 176 => v = bif (true && (B172 == true)) then .bool true else undef | 177 => v = .bool B177 | 178 => v = .bool B177 | 179 => v = bif (true && (B177 == true)) then .slice nb 0 nc else undef | 180 => v = bif (true && (B177 == true)) then .int .i64 0 else undef | 181 => v = bif (true && (B177 == true)) then .bool B181 else undef | 182 => v = .bool B182 | 183 => v = .bool B182 | 184 => v = bif (true && (B182 == true)) then .agg #[.int .i64 2, .int .i64 0, .string ⟨#[91, 93]⟩, .slice none 0 0] else undef | 185 => v = bif (true && (B182 == true)) then .agg #[.int .i64 2, .int .i64 0, .string ⟨#[91, 93]⟩, .slice none 0 0] else undef | 186 => v = bif (true && (B182 == true)) then .bool true else undef | 187 => v = .bool B187 | 188 => v = .bool B187 | 189 => v = bif (true && (B187 == true)) then .agg #[.int .i64 t.kind, .int .i64 t.n, .string t.name, .slice t.at_.1 t.args.length t.at_.2] else undef | 190 => v = bif (true && (B187 == true)) then .int .i64 5 else undef | 191 => v = bif (true && (B187 == true)) then .bool B191 else undef | 192 => v = .bool B192 | 193 => v = .bool B192 | 194 => v = bif (true && (B192 == true)) then .agg #[.int .i64 2, .int .i64 0, .string ⟨#[]⟩, .slice none 0 0] else undef | 195 => v = bif (true && (B192 == true)) then .bool true else undef | 196 => v = .bool B196 | 197 => v = .bool B196 | 198 => v = bif (true && (B196 == true)) then .agg #[.int .i64 1, .int .i64 3, .string ByteArray.empty, .slice none 0 0] else undef | 200 => v = bif (true && (B196 == true)) then .agg #[.int .i64 1, .int .i64 3, .string ByteArray.empty, .slice none 0 0] else undef | 201 => v = bif (true && (B196 == true)) then .bool true else undef | 202 => v = .bool B202 | 203 => v = .bool B202 | 204 => v = bif (true && (B202 == true)) then .agg #[.int .i64 2, .int .i64 0, .string ⟨#[97]⟩, .slice none 0 0] else undef | 205 => v = bif (true && (B202 == true)) then .agg #[.int .i64 1, .int .i64 1, .string ByteArray.empty, .slice none 0 0] else undef | 208 => v = bif (true && (B202 == true)) then .bool false else undef | 209 => v = bif (true && (B202 == true)) then .bool B209 else undef | 210 => v = .bool B210 | 0 => v = .bool B210 | _ => True : Prop)) (KnS wz F) (by kernel_rfl) rfl (by kernel_rfl) (by kernel_rfl) (by kernel_rfl) (by kernel_rfl) (fun _ h => h) (fun hs w w' h ht => KnS.turned0 hs w w' h ht) ?hs ?hQ
              case hs =>
                refine ⟨?s0, ?s1, ?s2, ?s3, ?s4, ?s5, ?s6, ?s7, ?s8, ?s9, ?s10, ?s11, ?s12, ?s13, ?s14, ?s15, ?s16, ?s17, ?s18, ?s19, ?s20, ?s21, ?s22, ?s23, ?s24, ?s25, ?s26, ?s27, ?s28, ?s29, ?s30, ?s31, ?s32, ?s33, ?s34, ?s35, ?s36, ?s37, ?s38, ?s39, ?s40, ?s41, ?s42, ?s43, ?s44, ?s45, ?s46, ?s47, ?s48, ?s49, ?s50, ?s51, ?s52, ?s53, ?s54, ?s55, ?s56, ?s57, ?s58, ?s59, ?s60, ?s61, ?s62, ?s63, ?s64, ?s65, ?s66, ?s67, ?s68, ?s69, ?s70, ?s71, ?s72, ?s73, ?s74, ?s75, ?s76, ?s77, ?s78, ?s79, ?s80, ?s81, ?s82, ?s83, ?s84, trivial⟩
                case s0 => as_aux_lemma =>
                  refine fun hs hle => stepG_free [] [5] (by kernel_rfl) rfl ?_
                  · intro ac W hT hI hO
                    have hle : hs.length ≤ 0 := hle
                    have h5 : ac.tmps.getD 5 undef = .pointer (some ⟨B5, 0, none⟩) := hO 5 (by simp)
                    show Brings Try.prog (fun v w' => Turned (fun _ => False) W w' ∧ v = .agg #[.int .i64 D.kind, .int .i64 D.n, .string D.name, .slice D.at_.1 D.args.length D.at_.2]) _
                    have SW := hKN.out.turned0 (KnS.turned hs W hT); obtain ⟨a0, a1, a2, a3⟩ := SW.c5; obtain ⟨b0, b1, b2, b3⟩ := SW.c7; obtain ⟨c0, c1, c2, c3⟩ := SW.c8; obtain ⟨d0, d1, d2, d3⟩ := SW.c10; obtain ⟨e0, e1, e2, e3⟩ := SW.c12; obtain ⟨f0, f1, f2, f3⟩ := SW.c14; obtain ⟨g0, g1, g2, g3⟩ := SW.cx
                    simp only [execOp, Act.eval, h5]
                    go_simp
                    exact ⟨Turned.refl _ _, rfl⟩
                case s1 => as_aux_lemma =>
                  refine fun hs hle => stepG_free [127] [] (by kernel_rfl) rfl ?_
                  · intro ac W hT hI hO
                    have hle : hs.length ≤ 0 := hle
                    have h127 : ac.tmps.getD 127 undef = .agg #[.int .i64 D.kind, .int .i64 D.n, .string D.name, .slice D.at_.1 D.args.length D.at_.2] := hI 127 (by simp)
                    show Brings Try.prog (fun v w' => Turned (fun _ => False) W w' ∧ v = .bool true) _
                    simp only [execOp, Act.eval, h127]
                    go_simp
                    show Calls Try.prog 38 _ W _
                    (with_reducible refine (HG5.out W (KnS.turned hs W hT)).mono ?_)
                    rintro e w' ⟨rfl, T'⟩
                    exact ⟨_, rfl, T', rfl⟩
                case s2 => as_aux_lemma =>
                  refine fun hs hle => stepG_free [128] [] (by kernel_rfl) rfl ?_
                  · intro ac W hT hI hO
                    have hle : hs.length ≤ 0 := hle
                    have h128 : ac.tmps.getD 128 undef = .bool true := hI 128 (by simp)
                    show Brings Try.prog (fun v w' => Turned (fun _ => False) W w' ∧ v = .bool true) _
                    simp only [execOp, Act.eval, h128]
                    go_simp
                    try exact ⟨Turned.refl _ _, rfl⟩
                case s3 => as_aux_lemma =>
                  refine fun hs hle => stepG_guard [129] [5] (by kernel_rfl) 2 true 129 rfl rfl (by simp) true true (fun _ _ h => h) (fun hc => ?_) (fun hc _ _ => ?_)
                  rotate_left
                  · refine ⟨Turned.refl _ _, ?_⟩
                    show undef = bif (true && (true == true)) then _ else undef
                    rw [hc]; rfl
                  · intro ac W hT hI hO
                    have hle : hs.length ≤ 0 := hle
                    have h129 : ac.tmps.getD 129 undef = .bool true := hI 129 (by simp)
                    have h5 : ac.tmps.getD 5 undef = .pointer (some ⟨B5, 0, none⟩) := hO 5 (by simp)
                    show Brings Try.prog (fun v w' => Turned (fun _ => False) W w' ∧ v = bif (true && (true == true)) then .agg #[.int .i64 D.kind, .int .i64 D.n, .string D.name, .slice D.at_.1 D.args.length D.at_.2] else undef) _
                    rw [hc, cond_true]
                    have SW := hKN.out.turned0 (KnS.turned hs W hT); obtain ⟨a0, a1, a2, a3⟩ := SW.c5; obtain ⟨b0, b1, b2, b3⟩ := SW.c7; obtain ⟨c0, c1, c2, c3⟩ := SW.c8; obtain ⟨d0, d1, d2, d3⟩ := SW.c10; obtain ⟨e0, e1, e2, e3⟩ := SW.c12; obtain ⟨f0, f1, f2, f3⟩ := SW.c14; obtain ⟨g0, g1, g2, g3⟩ := SW.cx
                    simp only [execOp, Act.eval, h129, h5]
                    go_simp
                    exact ⟨Turned.refl _ _, rfl⟩
                case s4 => as_aux_lemma =>
                  refine fun hs hle => stepG_guard [130, 129] [] (by kernel_rfl) 2 true 129 rfl rfl (by simp) true true (fun _ _ h => h) (fun hc => ?_) (fun hc _ _ => ?_)
                  rotate_left
                  · refine ⟨Turned.refl _ _, ?_⟩
                    show undef = bif (true && (true == true)) then _ else undef
                    rw [hc]; rfl
                  · intro ac W hT hI hO
                    have hle : hs.length ≤ 0 := hle
                    have h130 : ac.tmps.getD 130 undef = bif (true && (true == true)) then .agg #[.int .i64 D.kind, .int .i64 D.n, .string D.name, .slice D.at_.1 D.args.length D.at_.2] else undef := hI 130 (by simp)
                    rw [hc, cond_true] at h130
                    have h129 : ac.tmps.getD 129 undef = .bool true := hI 129 (by simp)
                    show Brings Try.prog (fun v w' => Turned (fun _ => False) W w' ∧ v = bif (true && (true == true)) then .int .i64 64 else undef) _
                    rw [hc, cond_true]
                    simp only [execOp, Act.eval, h130, h129]
                    go_simp
                    show Calls Try.prog 36 _ W _
                    (with_reducible refine (HD5.out W (KnS.turned hs W hT)).mono ?_)
                    rintro e w' ⟨rfl, T'⟩
                    exact ⟨_, rfl, T', rfl⟩
                case s5 => as_aux_lemma =>
                  refine fun hs hle => stepG_guard [131, 129] [] (by kernel_rfl) 2 true 129 rfl rfl (by simp) true true (fun _ _ h => h) (fun hc => ?_) (fun hc _ _ => ?_)
                  rotate_left
                  · refine ⟨Turned.refl _ _, ?_⟩
                    show undef = bif (true && (true == true)) then _ else undef
                    rw [hc]; rfl
                  · intro ac W hT hI hO
                    have hle : hs.length ≤ 0 := hle
                    have h131 : ac.tmps.getD 131 undef = bif (true && (true == true)) then .int .i64 64 else undef := hI 131 (by simp)
                    rw [hc, cond_true] at h131
                    have h129 : ac.tmps.getD 129 undef = .bool true := hI 129 (by simp)
                    show Brings Try.prog (fun v w' => Turned (fun _ => False) W w' ∧ v = bif (true && (true == true)) then .bool B132 else undef) _
                    rw [hc, cond_true]
                    rw [HB132.out]
                    simp only [execOp, Act.eval, h131, h129]
                    go_simp
                    try exact ⟨Turned.refl _ _, rfl⟩
                case s6 => as_aux_lemma =>
                  refine fun hs hle => stepG_free [129, 132] [] (by kernel_rfl) rfl ?_
                  · intro ac W hT hI hO
                    have hle : hs.length ≤ 0 := hle
                    have h129 : ac.tmps.getD 129 undef = .bool true := hI 129 (by simp)
                    have h132 : ac.tmps.getD 132 undef = bif (true && (true == true)) then .bool B132 else undef := hI 132 (by simp)
                    show Brings Try.prog (fun v w' => Turned (fun _ => False) W w' ∧ v = .bool B133) _
                    rw [HB133.out]
                    cases hB : true
                    · simp only [hB] at *
                      simp [execOp, Act.eval, go_sem, Brings, h129, h132]
                      try exact Turned.refl _ _
                    · simp only [hB] at *
                      simp [execOp, Act.eval, go_sem, Brings, h129, h132]
                      try exact Turned.refl _ _
                case s7 => as_aux_lemma =>
                  refine fun hs hle => stepG_free [133] [] (by kernel_rfl) rfl ?_
                  · intro ac W hT hI hO
                    have hle : hs.length ≤ 0 := hle
                    have h133 : ac.tmps.getD 133 undef = .bool B133 := hI 133 (by simp)
                    show Brings Try.prog (fun v w' => Turned (fun _ => False) W w' ∧ v = .bool B133) _
                    simp only [execOp, Act.eval, h133]
                    go_simp
                    try exact ⟨Turned.refl _ _, rfl⟩
                case s8 => as_aux_lemma =>
                  refine fun hs hle => stepG_guard [134] [7] (by kernel_rfl) 7 true 134 rfl rfl (by simp) true B133 (fun _ _ h => h) (fun hc => ?_) (fun hc _ _ => ?_)
                  rotate_left
                  · refine ⟨Turned.refl _ _, ?_⟩
                    show undef = bif (true && (B133 == true)) then _ else undef
                    rw [hc]; rfl
                  · intro ac W hT hI hO
                    have hle : hs.length ≤ 0 := hle
                    have h134 : ac.tmps.getD 134 undef = .bool B133 := hI 134 (by simp)
                    have h7 : ac.tmps.getD 7 undef = .pointer (some ⟨B7, 0, none⟩) := hO 7 (by simp)
                    show Brings Try.prog (fun v w' => Turned (fun _ => False) W w' ∧ v = bif (true && (B133 == true)) then .agg #[.int .i64 F.kind, .int .i64 F.n, .string F.name, .slice F.at_.1 F.args.length F.at_.2] else undef) _
                    rw [hc, cond_true]
                    have SW := hKN.out.turned0 (KnS.turned hs W hT); obtain ⟨a0, a1, a2, a3⟩ := SW.c5; obtain ⟨b0, b1, b2, b3⟩ := SW.c7; obtain ⟨c0, c1, c2, c3⟩ := SW.c8; obtain ⟨d0, d1, d2, d3⟩ := SW.c10; obtain ⟨e0, e1, e2, e3⟩ := SW.c12; obtain ⟨f0, f1, f2, f3⟩ := SW.c14; obtain ⟨g0, g1, g2, g3⟩ := SW.cx
                    simp only [execOp, Act.eval, h134, h7]
                    go_simp
                    exact ⟨Turned.refl _ _, rfl⟩
                case s9 => as_aux_lemma =>
                  refine fun hs hle => stepG_guard [135, 134] [] (by kernel_rfl) 7 true 134 rfl rfl (by simp) true B133 (fun _ _ h => h) (fun hc => ?_) (fun hc _ _ => ?_)
                  rotate_left
                  · refine ⟨Turned.refl _ _, ?_⟩
                    show undef = bif (true && (B133 == true)) then _ else undef
                    rw [hc]; rfl
                  · intro ac W hT hI hO
                    have hle : hs.length ≤ 0 := hle
                    have h135 : ac.tmps.getD 135 undef = bif (true && (B133 == true)) then .agg #[.int .i64 F.kind, .int .i64 F.n, .string F.name, .slice F.at_.1 F.args.length F.at_.2] else undef := hI 135 (by simp)
                    rw [hc, cond_true] at h135
                    have h134 : ac.tmps.getD 134 undef = .bool B133 := hI 134 (by simp)
                    show Brings Try.prog (fun v w' => Turned (fun _ => False) W w' ∧ v = bif (true && (B133 == true)) then .bool false else undef) _
                    rw [hc, cond_true]
                    simp only [execOp, Act.eval, h135, h134]
                    go_simp
                    show Calls Try.prog 38 _ W _
                    (with_reducible refine (HG7.out W (KnS.turned hs W hT)).mono ?_)
                    rintro e w' ⟨rfl, T'⟩
                    exact ⟨_, rfl, T', rfl⟩
                case s10 => as_aux_lemma =>
                  refine fun hs hle => stepG_guard [136, 134] [] (by kernel_rfl) 7 true 134 rfl rfl (by simp) true B133 (fun _ _ h => h) (fun hc => ?_) (fun hc _ _ => ?_)
                  rotate_left
                  · refine ⟨Turned.refl _ _, ?_⟩
                    show undef = bif (true && (B133 == true)) then _ else undef
                    rw [hc]; rfl
                  · intro ac W hT hI hO
                    have hle : hs.length ≤ 0 := hle
                    have h136 : ac.tmps.getD 136 undef = bif (true && (B133 == true)) then .bool false else undef := hI 136 (by simp)
                    rw [hc, cond_true] at h136
                    have h134 : ac.tmps.getD 134 undef = .bool B133 := hI 134 (by simp)
                    show Brings Try.prog (fun v w' => Turned (fun _ => False) W w' ∧ v = bif (true && (B133 == true)) then .bool B137 else undef) _
                    rw [hc, cond_true]
                    rw [HB137.out]
                    simp only [execOp, Act.eval, h136, h134]
                    go_simp
                    try exact ⟨Turned.refl _ _, rfl⟩
                case s11 => as_aux_lemma =>
                  refine fun hs hle => stepG_free [134, 137] [] (by kernel_rfl) rfl ?_
                  · intro ac W hT hI hO
                    have hle : hs.length ≤ 0 := hle
                    have h134 : ac.tmps.getD 134 undef = .bool B133 := hI 134 (by simp)
                    have h137 : ac.tmps.getD 137 undef = bif (true && (B133 == true)) then .bool B137 else undef := hI 137 (by simp)
                    show Brings Try.prog (fun v w' => Turned (fun _ => False) W w' ∧ v = .bool B138) _
                    rw [HB138.out]
                    cases hB : B133
                    · simp only [hB] at *
                      simp [execOp, Act.eval, go_sem, Brings, h134, h137]
                      try exact Turned.refl _ _
                    · simp only [hB] at *
                      simp [execOp, Act.eval, go_sem, Brings, h134, h137]
                      try exact Turned.refl _ _
                case s12 => as_aux_lemma =>
                  refine fun hs hle => stepG_free [138] [] (by kernel_rfl) rfl ?_
                  · intro ac W hT hI hO
                    have hle : hs.length ≤ 0 := hle
                    have h138 : ac.tmps.getD 138 undef = .bool B138 := hI 138 (by simp)
                    show Brings Try.prog (fun v w' => Turned (fun _ => False) W w' ∧ v = .bool B138) _
                    simp only [execOp, Act.eval, h138]
                    go_simp
                    try exact ⟨Turned.refl _ _, rfl⟩
                case s13 => as_aux_lemma =>
                  refine fun hs hle => stepG_guard [139] [7] (by kernel_rfl) 12 true 139 rfl rfl (by simp) true B138 (fun _ _ h => h) (fun hc => ?_) (fun hc _ _ => ?_)
                  rotate_left
                  · refine ⟨Turned.refl _ _, ?_⟩
                    show undef = bif (true && (B138 == true)) then _ else undef
                    rw [hc]; rfl
                  · intro ac W hT hI hO
                    have hle : hs.length ≤ 0 := hle
                    have h139 : ac.tmps.getD 139 undef = .bool B138 := hI 139 (by simp)
                    have h7 : ac.tmps.getD 7 undef = .pointer (some ⟨B7, 0, none⟩) := hO 7 (by simp)
                    show Brings Try.prog (fun v w' => Turned (fun _ => False) W w' ∧ v = bif (true && (B138 == true)) then .agg #[.int .i64 F.kind, .int .i64 F.n, .string F.name, .slice F.at_.1 F.args.length F.at_.2] else undef) _
                    rw [hc, cond_true]
                    have SW := hKN.out.turned0 (KnS.turned hs W hT); obtain ⟨a0, a1, a2, a3⟩ := SW.c5; obtain ⟨b0, b1, b2, b3⟩ := SW.c7; obtain ⟨c0, c1, c2, c3⟩ := SW.c8; obtain ⟨d0, d1, d2, d3⟩ := SW.c10; obtain ⟨e0, e1, e2, e3⟩ := SW.c12; obtain ⟨f0, f1, f2, f3⟩ := SW.c14; obtain ⟨g0, g1, g2, g3⟩ := SW.cx
                    simp only [execOp, Act.eval, h139, h7]
                    go_simp
                    exact ⟨Turned.refl _ _, rfl⟩
                case s14 => as_aux_lemma =>
                  refine fun hs hle => stepG_guard [140, 139] [] (by kernel_rfl) 12 true 139 rfl rfl (by simp) true B138 (fun _ _ h => h) (fun hc => ?_) (fun hc _ _ => ?_)
                  rotate_left
                  · refine ⟨Turned.refl _ _, ?_⟩
                    show undef = bif (true && (B138 == true)) then _ else undef
                    rw [hc]; rfl
                  · intro ac W hT hI hO
                    have hle : hs.length ≤ 0 := hle
                    have h140 : ac.tmps.getD 140 undef = bif (true && (B138 == true)) then .agg #[.int .i64 F.kind, .int .i64 F.n, .string F.name, .slice F.at_.1 F.args.length F.at_.2] else undef := hI 140 (by simp)
                    rw [hc, cond_true] at h140
                    have h139 : ac.tmps.getD 139 undef = .bool B138 := hI 139 (by simp)
                    show Brings Try.prog (fun v w' => Turned (fun _ => False) W w' ∧ v = bif (true && (B138 == true)) then .int .i64 65 else undef) _
                    rw [hc, cond_true]
                    simp only [execOp, Act.eval, h140, h139]
                    go_simp
                    show Calls Try.prog 36 _ W _
                    (with_reducible refine (HD7.out W (KnS.turned hs W hT)).mono ?_)
                    rintro e w' ⟨rfl, T'⟩
                    exact ⟨_, rfl, T', rfl⟩
                case s15 => as_aux_lemma =>
                  refine fun hs hle => stepG_guard [141, 139] [] (by kernel_rfl) 12 true 139 rfl rfl (by simp) true B138 (fun _ _ h => h) (fun hc => ?_) (fun hc _ _ => ?_)
                  rotate_left
                  · refine ⟨Turned.refl _ _, ?_⟩
                    show undef = bif (true && (B138 == true)) then _ else undef
                    rw [hc]; rfl
                  · intro ac W hT hI hO
                    have hle : hs.length ≤ 0 := hle
                    have h141 : ac.tmps.getD 141 undef = bif (true && (B138 == true)) then .int .i64 65 else undef := hI 141 (by simp)
                    rw [hc, cond_true] at h141
                    have h139 : ac.tmps.getD 139 undef = .bool B138 := hI 139 (by simp)
                    show Brings Try.prog (fun v w' => Turned (fun _ => False) W w' ∧ v = bif (true && (B138 == true)) then .bool B142 else undef) _
                    rw [hc, cond_true]
                    rw [HB142.out]
                    simp only [execOp, Act.eval, h141, h139]
                    go_simp
                    try exact ⟨Turned.refl _ _, rfl⟩
                case s16 => as_aux_lemma =>
                  refine fun hs hle => stepG_free [139, 142] [] (by kernel_rfl) rfl ?_
                  · intro ac W hT hI hO
                    have hle : hs.length ≤ 0 := hle
                    have h139 : ac.tmps.getD 139 undef = .bool B138 := hI 139 (by simp)
                    have h142 : ac.tmps.getD 142 undef = bif (true && (B138 == true)) then .bool B142 else undef := hI 142 (by simp)
                    show Brings Try.prog (fun v w' => Turned (fun _ => False) W w' ∧ v = .bool B143) _
                    rw [HB143.out]
                    cases hB : B138
                    · simp only [hB] at *
                      simp [execOp, Act.eval, go_sem, Brings, h139, h142]
                      try exact Turned.refl _ _
                    · simp only [hB] at *
                      simp [execOp, Act.eval, go_sem, Brings, h139, h142]
                      try exact Turned.refl _ _
                case s17 => as_aux_lemma =>
                  refine fun hs hle => stepG_free [143] [] (by kernel_rfl) rfl ?_
                  · intro ac W hT hI hO
                    have hle : hs.length ≤ 0 := hle
                    have h143 : ac.tmps.getD 143 undef = .bool B143 := hI 143 (by simp)
                    show Brings Try.prog (fun v w' => Turned (fun _ => False) W w' ∧ v = .bool B143) _
                    simp only [execOp, Act.eval, h143]
                    go_simp
                    try exact ⟨Turned.refl _ _, rfl⟩
                case s18 => as_aux_lemma =>
                  refine fun hs hle => stepG_guard [144] [7] (by kernel_rfl) 17 true 144 rfl rfl (by simp) true B143 (fun _ _ h => h) (fun hc => ?_) (fun hc _ _ => ?_)
                  rotate_left
                  · refine ⟨Turned.refl _ _, ?_⟩
                    show undef = bif (true && (B143 == true)) then _ else undef
                    rw [hc]; rfl
                  · intro ac W hT hI hO
                    have hle : hs.length ≤ 0 := hle
                    have h144 : ac.tmps.getD 144 undef = .bool B143 := hI 144 (by simp)
                    have h7 : ac.tmps.getD 7 undef = .pointer (some ⟨B7, 0, none⟩) := hO 7 (by simp)
                    show Brings Try.prog (fun v w' => Turned (fun _ => False) W w' ∧ v = bif (true && (B143 == true)) then .agg #[.int .i64 F.kind, .int .i64 F.n, .string F.name, .slice F.at_.1 F.args.length F.at_.2] else undef) _
                    rw [hc, cond_true]
                    have SW := hKN.out.turned0 (KnS.turned hs W hT); obtain ⟨a0, a1, a2, a3⟩ := SW.c5; obtain ⟨b0, b1, b2, b3⟩ := SW.c7; obtain ⟨c0, c1, c2, c3⟩ := SW.c8; obtain ⟨d0, d1, d2, d3⟩ := SW.c10; obtain ⟨e0, e1, e2, e3⟩ := SW.c12; obtain ⟨f0, f1, f2, f3⟩ := SW.c14; obtain ⟨g0, g1, g2, g3⟩ := SW.cx
                    simp only [execOp, Act.eval, h144, h7]
                    go_simp
                    exact ⟨Turned.refl _ _, rfl⟩
                case s19 => as_aux_lemma =>
                  refine fun hs hlen => stepG_guard [145, 144] [] (by kernel_rfl) 17 true 144 rfl rfl (by simp) true B143 (fun _ _ h => h) (fun hc => ?_) (fun hc _ _ => ?_)
                  rotate_left
                  · exact absurd hc (by rw [hB143]; decide)
                  · intro ac W hT hI hO
                    have h145 : ac.tmps.getD 145 undef = bif (true && (B143 == true)) then .agg #[.int .i64 F.kind, .int .i64 F.n, .string F.name, .slice F.at_.1 F.args.length F.at_.2] else undef := hI 145 (by simp)
                    rw [hc, cond_true] at h145
                    have h144 : ac.tmps.getD 144 undef = .bool B143 := hI 144 (by simp)
                    show Brings Try.prog (fun v w' => KnS wz F (hs ++ [v]) w') _
                    obtain rfl : hs = [] := List.eq_nil_of_length_eq_zero hlen
                    replace hT : Turned (fun _ => False) wz W := hT
                    have h145' : ac.tmps[145]?.getD undef = .agg #[.int .i64 F.kind, .int .i64 F.n, .string F.name, .slice F.at_.1 F.args.length F.at_.2] := by rw [← Array.getD_eq_getD_getElem?]; exact h145
                    simp only [execOp, Act.eval, h145, h144]
                    go_simp
                    refine ⟨hT.alloc _, W.heap.size, rfl, ?_⟩
                    exact sl_made (w := W) (l := [F]) ⟨(hKN.out.turned0 hT).i7, trivial⟩ 1 (by decide) rfl _ (by rw [show [F].flatMap LT.cells = F.cells ++ [] from rfl, LT.cells_eq]; rfl)
                case s20 => as_aux_lemma =>
                  refine fun hs hlen => stepG_guard [146, 144] [] (by kernel_rfl) 17 true 144 rfl rfl (by simp) true B143 (fun _ _ h => h) (fun hc => ?_) (fun hc _ _ => ?_)
                  rotate_left
                  · exact absurd hc (by rw [hB143]; decide)
                  · intro ac W hT hI hO
                    have h146 : hs[0]? = some (ac.tmps.getD 146 undef) := hI 146 (by simp)
                    have h144 : ac.tmps.getD 144 undef = .bool B143 := hI 144 (by simp)
                    show Brings Try.prog (fun v w' => KnS wz F (hs ++ [v]) w') _
                    obtain ⟨v0, rfl⟩ := List.length_eq_one_iff.1 hlen
                    obtain ⟨hT1, g, rfl, hsl⟩ := hT
                    replace h146 : ac.tmps.getD 146 undef = .slice (some ⟨g, 0, none⟩) 1 1 := by simpa using h146.symm
                    simp only [execOp, Act.eval, h146]
                    go_simp
                    show Calls Try.prog 37 _ W _
                    refine (compV ⟨#[102]⟩ (by unfold maxLen; decide) 1 (by decide) rfl hsl).mono ?_
                    rintro e w' ⟨a', c', rfl, hi, T'⟩
                    exact ⟨_, rfl, hT1.trans T', .mk 2 0 ⟨#[102]⟩ (a', c') [F], rfl, rfl, hi⟩
                case s21 => as_aux_lemma =>
                  refine fun hs hle => stepG_guard [147, 144] [] (by kernel_rfl) 17 true 144 rfl rfl (by simp) true B143 (fun _ _ h => h) (fun hc => ?_) (fun hc _ _ => ?_)
                  rotate_left
                  · refine ⟨Turned.refl _ _, ?_⟩
                    show undef = bif (true && (B143 == true)) then _ else undef
                    rw [hc]; rfl
                  · intro ac W hT hI hO
                    have hle : hs.length ≤ 2 := hle
                    have h147 : hs[1]? = some (ac.tmps.getD 147 undef) := hI 147 (by simp)
                    have h144 : ac.tmps.getD 144 undef = .bool B143 := hI 144 (by simp)
                    show Brings Try.prog (fun v w' => Turned (fun _ => False) W w' ∧ v = bif (true && (B143 == true)) then .int .i64 65 else undef) _
                    rw [hc, cond_true]
                    obtain ⟨u, eu, hub, hui⟩ := KnS.at1 hT hle h147
                    rw [LT.val_eq] at eu
                    have hdv := depthVal (d := 65) hui (by rw [← Tm.depth_bare, hub]; simp only [Tm.depth, Tm.depths, Tm.depth_bare, HDF.out]; rfl)
                    simp only [execOp, Act.eval, eu]
                    go_simp
                    show Calls Try.prog 36 _ W _
                    (with_reducible refine hdv.mono ?_)
                    rintro e w' ⟨rfl, T'⟩
                    exact ⟨_, rfl, T', rfl⟩
                case s22 => as_aux_lemma =>
                  refine fun hs hle => stepG_guard [148, 144] [] (by kernel_rfl) 17 true 144 rfl rfl (by simp) true B143 (fun _ _ h => h) (fun hc => ?_) (fun hc _ _ => ?_)
                  rotate_left
                  · refine ⟨Turned.refl _ _, ?_⟩
                    show undef = bif (true && (B143 == true)) then _ else undef
                    rw [hc]; rfl
                  · intro ac W hT hI hO
                    have hle : hs.length ≤ 2 := hle
                    have h148 : ac.tmps.getD 148 undef = bif (true && (B143 == true)) then .int .i64 65 else undef := hI 148 (by simp)
                    rw [hc, cond_true] at h148
                    have h144 : ac.tmps.getD 144 undef = .bool B143 := hI 144 (by simp)
                    show Brings Try.prog (fun v w' => Turned (fun _ => False) W w' ∧ v = bif (true && (B143 == true)) then .bool B149 else undef) _
                    rw [hc, cond_true]
                    rw [HB149.out]
                    simp only [execOp, Act.eval, h148, h144]
                    go_simp
                    try exact ⟨Turned.refl _ _, rfl⟩
                case s23 => as_aux_lemma =>
                  refine fun hs hle => stepG_free [144, 149] [] (by kernel_rfl) rfl ?_
                  · intro ac W hT hI hO
                    have hle : hs.length ≤ 2 := hle
                    have h144 : ac.tmps.getD 144 undef = .bool B143 := hI 144 (by simp)
                    have h149 : ac.tmps.getD 149 undef = bif (true && (B143 == true)) then .bool B149 else undef := hI 149 (by simp)
                    show Brings Try.prog (fun v w' => Turned (fun _ => False) W w' ∧ v = .bool B150) _
                    rw [HB150.out]
                    cases hB : B143
                    · simp only [hB] at *
                      simp [execOp, Act.eval, go_sem, Brings, h144, h149]
                      try exact Turned.refl _ _
                    · simp only [hB] at *
                      simp [execOp, Act.eval, go_sem, Brings, h144, h149]
                      try exact Turned.refl _ _
                case s24 => as_aux_lemma =>
                  refine fun hs hle => stepG_free [150] [] (by kernel_rfl) rfl ?_
                  · intro ac W hT hI hO
                    have hle : hs.length ≤ 2 := hle
                    have h150 : ac.tmps.getD 150 undef = .bool B150 := hI 150 (by simp)
                    show Brings Try.prog (fun v w' => Turned (fun _ => False) W w' ∧ v = .bool B150) _
                    simp only [execOp, Act.eval, h150]
                    go_simp
                    try exact ⟨Turned.refl _ _, rfl⟩
                case s25 => as_aux_lemma =>
                  refine fun hs hle => stepG_guard [151] [8] (by kernel_rfl) 24 true 151 rfl rfl (by simp) true B150 (fun _ _ h => h) (fun hc => ?_) (fun hc _ _ => ?_)
                  rotate_left
                  · refine ⟨Turned.refl _ _, ?_⟩
                    show undef = bif (true && (B150 == true)) then _ else undef
                    rw [hc]; rfl
                  · intro ac W hT hI hO
                    have hle : hs.length ≤ 2 := hle
                    have h151 : ac.tmps.getD 151 undef = .bool B150 := hI 151 (by simp)
                    have h8 : ac.tmps.getD 8 undef = .pointer (some ⟨B8, 0, none⟩) := hO 8 (by simp)
                    show Brings Try.prog (fun v w' => Turned (fun _ => False) W w' ∧ v = bif (true && (B150 == true)) then .agg #[.int .i64 G.kind, .int .i64 G.n, .string G.name, .slice G.at_.1 G.args.length G.at_.2] else undef) _
                    rw [hc, cond_true]
                    have SW := hKN.out.turned0 (KnS.turned hs W hT); obtain ⟨a0, a1, a2, a3⟩ := SW.c5; obtain ⟨b0, b1, b2, b3⟩ := SW.c7; obtain ⟨c0, c1, c2, c3⟩ := SW.c8; obtain ⟨d0, d1, d2, d3⟩ := SW.c10; obtain ⟨e0, e1, e2, e3⟩ := SW.c12; obtain ⟨f0, f1, f2, f3⟩ := SW.c14; obtain ⟨g0, g1, g2, g3⟩ := SW.cx
                    simp only [execOp, Act.eval, h151, h8]
                    go_simp
                    exact ⟨Turned.refl _ _, rfl⟩
                case s26 => as_aux_lemma =>
                  refine fun hs hle => stepG_guard [152, 151] [] (by kernel_rfl) 24 true 151 rfl rfl (by simp) true B150 (fun _ _ h => h) (fun hc => ?_) (fun hc _ _ => ?_)
                  rotate_left
                  · refine ⟨Turned.refl _ _, ?_⟩
                    show undef = bif (true && (B150 == true)) then _ else undef
                    rw [hc]; rfl
                  · intro ac W hT hI hO
                    have hle : hs.length ≤ 2 := hle
                    have h152 : ac.tmps.getD 152 undef = bif (true && (B150 == true)) then .agg #[.int .i64 G.kind, .int .i64 G.n, .string G.name, .slice G.at_.1 G.args.length G.at_.2] else undef := hI 152 (by simp)
                    rw [hc, cond_true] at h152
                    have h151 : ac.tmps.getD 151 undef = .bool B150 := hI 151 (by simp)
                    show Brings Try.prog (fun v w' => Turned (fun _ => False) W w' ∧ v = bif (true && (B150 == true)) then .bool false else undef) _
                    rw [hc, cond_true]
                    simp only [execOp, Act.eval, h152, h151]
                    go_simp
                    show Calls Try.prog 38 _ W _
                    (with_reducible refine (HG8.out W (KnS.turned hs W hT)).mono ?_)
                    rintro e w' ⟨rfl, T'⟩
                    exact ⟨_, rfl, T', rfl⟩
                case s27 => as_aux_lemma =>
                  refine fun hs hle => stepG_guard [153, 151] [] (by kernel_rfl) 24 true 151 rfl rfl (by simp) true B150 (fun _ _ h => h) (fun hc => ?_) (fun hc _ _ => ?_)
                  rotate_left
                  · refine ⟨Turned.refl _ _, ?_⟩
                    show undef = bif (true && (B150 == true)) then _ else undef
                    rw [hc]; rfl
                  · intro ac W hT hI hO
                    have hle : hs.length ≤ 2 := hle
                    have h153 : ac.tmps.getD 153 undef = bif (true && (B150 == true)) then .bool false else undef := hI 153 (by simp)
                    rw [hc, cond_true] at h153
                    have h151 : ac.tmps.getD 151 undef = .bool B150 := hI 151 (by simp)
                    show Brings Try.prog (fun v w' => Turned (fun _ => False) W w' ∧ v = bif (true && (B150 == true)) then .bool B154 else undef) _
                    rw [hc, cond_true]
                    rw [HB154.out]
                    simp only [execOp, Act.eval, h153, h151]
                    go_simp
                    try exact ⟨Turned.refl _ _, rfl⟩
                case s28 => as_aux_lemma =>
                  refine fun hs hle => stepG_free [151, 154] [] (by kernel_rfl) rfl ?_
                  · intro ac W hT hI hO
                    have hle : hs.length ≤ 2 := hle
                    have h151 : ac.tmps.getD 151 undef = .bool B150 := hI 151 (by simp)
                    have h154 : ac.tmps.getD 154 undef = bif (true && (B150 == true)) then .bool B154 else undef := hI 154 (by simp)
                    show Brings Try.prog (fun v w' => Turned (fun _ => False) W w' ∧ v = .bool B155) _
                    rw [HB155.out]
                    cases hB : B150
                    · simp only [hB] at *
                      simp [execOp, Act.eval, go_sem, Brings, h151, h154]
                      try exact Turned.refl _ _
                    · simp only [hB] at *
                      simp [execOp, Act.eval, go_sem, Brings, h151, h154]
                      try exact Turned.refl _ _
                case s29 => as_aux_lemma =>
                  refine fun hs hle => stepG_free [155] [] (by kernel_rfl) rfl ?_
                  · intro ac W hT hI hO
                    have hle : hs.length ≤ 2 := hle
                    have h155 : ac.tmps.getD 155 undef = .bool B155 := hI 155 (by simp)
                    show Brings Try.prog (fun v w' => Turned (fun _ => False) W w' ∧ v = .bool B155) _
                    simp only [execOp, Act.eval, h155]
                    go_simp
                    try exact ⟨Turned.refl _ _, rfl⟩
                case s30 => as_aux_lemma =>
                  refine fun hs hle => stepG_guard [156] [8] (by kernel_rfl) 29 true 156 rfl rfl (by simp) true B155 (fun _ _ h => h) (fun hc => ?_) (fun hc _ _ => ?_)
                  rotate_left
                  · refine ⟨Turned.refl _ _, ?_⟩
                    show undef = bif (true && (B155 == true)) then _ else undef
                    rw [hc]; rfl
                  · intro ac W hT hI hO
                    have hle : hs.length ≤ 2 := hle
                    have h156 : ac.tmps.getD 156 undef = .bool B155 := hI 156 (by simp)
                    have h8 : ac.tmps.getD 8 undef = .pointer (some ⟨B8, 0, none⟩) := hO 8 (by simp)
                    show Brings Try.prog (fun v w' => Turned (fun _ => False) W w' ∧ v = bif (true && (B155 == true)) then .agg #[.int .i64 G.kind, .int .i64 G.n, .string G.name, .slice G.at_.1 G.args.length G.at_.2] else undef) _
                    rw [hc, cond_true]
                    have SW := hKN.out.turned0 (KnS.turned hs W hT); obtain ⟨a0, a1, a2, a3⟩ := SW.c5; obtain ⟨b0, b1, b2, b3⟩ := SW.c7; obtain ⟨c0, c1, c2, c3⟩ := SW.c8; obtain ⟨d0, d1, d2, d3⟩ := SW.c10; obtain ⟨e0, e1, e2, e3⟩ := SW.c12; obtain ⟨f0, f1, f2, f3⟩ := SW.c14; obtain ⟨g0, g1, g2, g3⟩ := SW.cx
                    simp only [execOp, Act.eval, h156, h8]
                    go_simp
                    exact ⟨Turned.refl _ _, rfl⟩
                case s31 => as_aux_lemma =>
                  refine fun hs hle => stepG_guard [157, 156] [] (by kernel_rfl) 29 true 156 rfl rfl (by simp) true B155 (fun _ _ h => h) (fun hc => ?_) (fun hc _ _ => ?_)
                  rotate_left
                  · refine ⟨Turned.refl _ _, ?_⟩
                    show undef = bif (true && (B155 == true)) then _ else undef
                    rw [hc]; rfl
                  · intro ac W hT hI hO
                    have hle : hs.length ≤ 2 := hle
                    have h157 : ac.tmps.getD 157 undef = bif (true && (B155 == true)) then .agg #[.int .i64 G.kind, .int .i64 G.n, .string G.name, .slice G.at_.1 G.args.length G.at_.2] else undef := hI 157 (by simp)
                    rw [hc, cond_true] at h157
                    have h156 : ac.tmps.getD 156 undef = .bool B155 := hI 156 (by simp)
                    show Brings Try.prog (fun v w' => Turned (fun _ => False) W w' ∧ v = bif (true && (B155 == true)) then .int .i64 2001 else undef) _
                    rw [hc, cond_true]
                    simp only [execOp, Act.eval, h157, h156]
                    go_simp
                    show Calls Try.prog 35 _ W _
                    (with_reducible refine (HS8.out W (KnS.turned hs W hT)).mono ?_)
                    rintro e w' ⟨rfl, T'⟩
                    exact ⟨_, rfl, T', rfl⟩
                case s32 => as_aux_lemma =>
                  refine fun hs hle => stepG_guard [158, 156] [] (by kernel_rfl) 29 true 156 rfl rfl (by simp) true B155 (fun _ _ h => h) (fun hc => ?_) (fun hc _ _ => ?_)
                  rotate_left
                  · refine ⟨Turned.refl _ _, ?_⟩
                    show undef = bif (true && (B155 == true)) then _ else undef
                    rw [hc]; rfl
                  · intro ac W hT hI hO
                    have hle : hs.length ≤ 2 := hle
                    have h158 : ac.tmps.getD 158 undef = bif (true && (B155 == true)) then .int .i64 2001 else undef := hI 158 (by simp)
                    rw [hc, cond_true] at h158
                    have h156 : ac.tmps.getD 156 undef = .bool B155 := hI 156 (by simp)
                    show Brings Try.prog (fun v w' => Turned (fun _ => False) W w' ∧ v = bif (true && (B155 == true)) then .bool B159 else undef) _
                    rw [hc, cond_true]
                    rw [HB159.out]
                    simp only [execOp, Act.eval, h158, h156]
                    go_simp
                    try exact ⟨Turned.refl _ _, rfl⟩
                case s33 => as_aux_lemma =>
                  refine fun hs hle => stepG_free [156, 159] [] (by kernel_rfl) rfl ?_
                  · intro ac W hT hI hO
                    have hle : hs.length ≤ 2 := hle
                    have h156 : ac.tmps.getD 156 undef = .bool B155 := hI 156 (by simp)
                    have h159 : ac.tmps.getD 159 undef = bif (true && (B155 == true)) then .bool B159 else undef := hI 159 (by simp)
                    show Brings Try.prog (fun v w' => Turned (fun _ => False) W w' ∧ v = .bool B160) _
                    rw [HB160.out]
                    cases hB : B155
                    · simp only [hB] at *
                      simp [execOp, Act.eval, go_sem, Brings, h156, h159]
                      try exact Turned.refl _ _
                    · simp only [hB] at *
                      simp [execOp, Act.eval, go_sem, Brings, h156, h159]
                      try exact Turned.refl _ _
                case s34 => as_aux_lemma =>
                  refine fun hs hle => stepG_free [160] [] (by kernel_rfl) rfl ?_
                  · intro ac W hT hI hO
                    have hle : hs.length ≤ 2 := hle
                    have h160 : ac.tmps.getD 160 undef = .bool B160 := hI 160 (by simp)
                    show Brings Try.prog (fun v w' => Turned (fun _ => False) W w' ∧ v = .bool B160) _
                    simp only [execOp, Act.eval, h160]
                    go_simp
                    try exact ⟨Turned.refl _ _, rfl⟩
                case s35 => as_aux_lemma =>
                  refine fun hs hle => stepG_guard [161] [11] (by kernel_rfl) 34 true 161 rfl rfl (by simp) true B160 (fun _ _ h => h) (fun hc => ?_) (fun hc _ _ => ?_)
                  rotate_left
                  · refine ⟨Turned.refl _ _, ?_⟩
                    show undef = bif (true && (B160 == true)) then _ else undef
                    rw [hc]; rfl
                  · intro ac W hT hI hO
                    have hle : hs.length ≤ 2 := hle
                    have h161 : ac.tmps.getD 161 undef = .bool B160 := hI 161 (by simp)
                    have h11 : ac.tmps.getD 11 undef = .slice (some ⟨mb, mo, none⟩) 2 vc := hO 11 (by simp)
                    show Brings Try.prog (fun v w' => Turned (fun _ => False) W w' ∧ v = bif (true && (B160 == true)) then .slice (some ⟨mb, mo, none⟩) 2 vc else undef) _
                    rw [hc, cond_true]
                    simp only [execOp, Act.eval, h161, h11]
                    go_simp
                    try exact ⟨Turned.refl _ _, rfl⟩
                case s36 => as_aux_lemma =>
                  refine fun hs hle => stepG_guard [162, 161] [] (by kernel_rfl) 34 true 161 rfl rfl (by simp) true B160 (fun _ _ h => h) (fun hc => ?_) (fun hc _ _ => ?_)
                  rotate_left
                  · refine ⟨Turned.refl _ _, ?_⟩
                    show undef = bif (true && (B160 == true)) then _ else undef
                    rw [hc]; rfl
                  · intro ac W hT hI hO
                    have hle : hs.length ≤ 2 := hle
                    have h162 : ac.tmps.getD 162 undef = bif (true && (B160 == true)) then .slice (some ⟨mb, mo, none⟩) 2 vc else undef := hI 162 (by simp)
                    rw [hc, cond_true] at h162
                    have h161 : ac.tmps.getD 161 undef = .bool B160 := hI 161 (by simp)
                    show Brings Try.prog (fun v w' => Turned (fun _ => False) W w' ∧ v = bif (true && (B160 == true)) then .int .i64 2 else undef) _
                    rw [hc, cond_true]
                    simp only [execOp, Act.eval, h162, h161]
                    go_simp
                    try exact ⟨Turned.refl _ _, rfl⟩
                case s37 => as_aux_lemma =>
                  refine fun hs hle => stepG_guard [163, 161] [] (by kernel_rfl) 34 true 161 rfl rfl (by simp) true B160 (fun _ _ h => h) (fun hc => ?_) (fun hc _ _ => ?_)
                  rotate_left
                  · refine ⟨Turned.refl _ _, ?_⟩
                    show undef = bif (true && (B160 == true)) then _ else undef
                    rw [hc]; rfl
                  · intro ac W hT hI hO
                    have hle : hs.length ≤ 2 := hle
                    have h163 : ac.tmps.getD 163 undef = bif (true && (B160 == true)) then .int .i64 2 else undef := hI 163 (by simp)
                    rw [hc, cond_true] at h163
                    have h161 : ac.tmps.getD 161 undef = .bool B160 := hI 161 (by simp)
                    show Brings Try.prog (fun v w' => Turned (fun _ => False) W w' ∧ v = bif (true && (B160 == true)) then .bool B164 else undef) _
                    rw [hc, cond_true]
                    rw [HB164.out]
                    simp only [execOp, Act.eval, h163, h161]
                    go_simp
                    try exact ⟨Turned.refl _ _, rfl⟩
                case s38 => as_aux_lemma =>
                  refine fun hs hle => stepG_free [161, 164] [] (by kernel_rfl) rfl ?_
                  · intro ac W hT hI hO
                    have hle : hs.length ≤ 2 := hle
                    have h161 : ac.tmps.getD 161 undef = .bool B160 := hI 161 (by simp)
                    have h164 : ac.tmps.getD 164 undef = bif (true && (B160 == true)) then .bool B164 else undef := hI 164 (by simp)
                    show Brings Try.prog (fun v w' => Turned (fun _ => False) W w' ∧ v = .bool B165) _
                    rw [HB165.out]
                    cases hB : B160
                    · simp only [hB] at *
                      simp [execOp, Act.eval, go_sem, Brings, h161, h164]
                      try exact Turned.refl _ _
                    · simp only [hB] at *
                      simp [execOp, Act.eval, go_sem, Brings, h161, h164]
                      try exact Turned.refl _ _
                case s39 => as_aux_lemma =>
                  refine fun hs hle => stepG_free [165] [] (by kernel_rfl) rfl ?_
                  · intro ac W hT hI hO
                    have hle : hs.length ≤ 2 := hle
                    have h165 : ac.tmps.getD 165 undef = .bool B165 := hI 165 (by simp)
                    show Brings Try.prog (fun v w' => Turned (fun _ => False) W w' ∧ v = .bool B165) _
                    simp only [execOp, Act.eval, h165]
                    go_simp
                    try exact ⟨Turned.refl _ _, rfl⟩
                case s40 => as_aux_lemma =>
                  refine fun hs hle => stepG_guard [166] [11] (by kernel_rfl) 39 true 166 rfl rfl (by simp) true B165 (fun _ _ h => h) (fun hc => ?_) (fun hc _ _ => ?_)
                  rotate_left
                  · refine ⟨Turned.refl _ _, ?_⟩
                    show undef = bif (true && (B165 == true)) then _ else undef
                    rw [hc]; rfl
                  · intro ac W hT hI hO
                    have hle : hs.length ≤ 2 := hle
                    have h166 : ac.tmps.getD 166 undef = .bool B165 := hI 166 (by simp)
                    have h11 : ac.tmps.getD 11 undef = .slice (some ⟨mb, mo, none⟩) 2 vc := hO 11 (by simp)
                    show Brings Try.prog (fun v w' => Turned (fun _ => False) W w' ∧ v = bif (true && (B165 == true)) then .slice (some ⟨mb, mo, none⟩) 2 vc else undef) _
                    rw [hc, cond_true]
                    simp only [execOp, Act.eval, h166, h11]
                    go_simp
                    try exact ⟨Turned.refl _ _, rfl⟩
                case s41 => as_aux_lemma =>
                  refine fun hs hle => stepG_guard [167, 166] [] (by kernel_rfl) 39 true 166 rfl rfl (by simp) true B165 (fun _ _ h => h) (fun hc => ?_) (fun hc _ _ => ?_)
                  rotate_left
                  · refine ⟨Turned.refl _ _, ?_⟩
                    show undef = bif (true && (B165 == true)) then _ else undef
                    rw [hc]; rfl
                  · intro ac W hT hI hO
                    have hle : hs.length ≤ 2 := hle
                    have h167 : ac.tmps.getD 167 undef = bif (true && (B165 == true)) then .slice (some ⟨mb, mo, none⟩) 2 vc else undef := hI 167 (by simp)
                    rw [hc, cond_true] at h167
                    have h166 : ac.tmps.getD 166 undef = .bool B165 := hI 166 (by simp)
                    show Brings Try.prog (fun v w' => Turned (fun _ => False) W w' ∧ v = bif (true && (B165 == true)) then .pointer (some ⟨mb, mo + 4, none⟩) else undef) _
                    rw [hc, cond_true]
                    simp only [execOp, Act.eval, h167, h166]
                    go_simp
                    try rw [if_pos (by omega)]
                    try exact ⟨Turned.refl _ _, rfl⟩
                case s42 => as_aux_lemma =>
                  refine fun hs hle => stepG_guard [168, 166] [] (by kernel_rfl) 39 true 166 rfl rfl (by simp) true B165 (fun _ _ h => h) (fun hc => ?_) (fun hc _ _ => ?_)
                  rotate_left
                  · refine ⟨Turned.refl _ _, ?_⟩
                    show undef = bif (true && (B165 == true)) then _ else undef
                    rw [hc]; rfl
                  · intro ac W hT hI hO
                    have hle : hs.length ≤ 2 := hle
                    have h168 : ac.tmps.getD 168 undef = bif (true && (B165 == true)) then .pointer (some ⟨mb, mo + 4, none⟩) else undef := hI 168 (by simp)
                    rw [hc, cond_true] at h168
                    have h166 : ac.tmps.getD 166 undef = .bool B165 := hI 166 (by simp)
                    show Brings Try.prog (fun v w' => Turned (fun _ => False) W w' ∧ v = bif (true && (B165 == true)) then .agg #[.int .i64 x.kind, .int .i64 x.n, .string x.name, .slice x.at_.1 x.args.length x.at_.2] else undef) _
                    rw [hc, cond_true]
                    have SW := hKN.out.turned0 (KnS.turned hs W hT); obtain ⟨a0, a1, a2, a3⟩ := SW.c5; obtain ⟨b0, b1, b2, b3⟩ := SW.c7; obtain ⟨c0, c1, c2, c3⟩ := SW.c8; obtain ⟨d0, d1, d2, d3⟩ := SW.c10; obtain ⟨e0, e1, e2, e3⟩ := SW.c12; obtain ⟨f0, f1, f2, f3⟩ := SW.c14; obtain ⟨g0, g1, g2, g3⟩ := SW.cx
                    simp only [execOp, Act.eval, h168, h166]
                    go_simp
                    exact ⟨Turned.refl _ _, rfl⟩
                case s43 => as_aux_lemma =>
                  refine fun hs hle => stepG_guard [166] [] (by kernel_rfl) 39 true 166 rfl rfl (by simp) true B165 (fun _ _ h => h) (fun hc => ?_) (fun hc _ _ => ?_)
                  rotate_left
                  · refine ⟨Turned.refl _ _, ?_⟩
                    show undef = bif (true && (B165 == true)) then _ else undef
                    rw [hc]; rfl
                  · intro ac W hT hI hO
                    have hle : hs.length ≤ 2 := hle
                    have h166 : ac.tmps.getD 166 undef = .bool B165 := hI 166 (by simp)
                    show Brings Try.prog (fun v w' => Turned (fun _ => False) W w' ∧ v = bif (true && (B165 == true)) then .agg #[.int .i64 2, .int .i64 0, .string ⟨#[98]⟩, .slice none 0 0] else undef) _
                    rw [hc, cond_true]
                    simp only [execOp, Act.eval, h166]
                    go_simp
                    show Calls Try.prog 63 _ W _
                    refine (atomV ⟨#[98]⟩ (by unfold maxLen; decide) W).mono ?_
                    rintro e w' ⟨rfl, _, T'⟩
                    exact ⟨_, rfl, T', rfl⟩
                case s44 => as_aux_lemma =>
                  refine fun hs hle => stepG_guard [169, 170, 166] [] (by kernel_rfl) 39 true 166 rfl rfl (by simp) true B165 (fun _ _ h => h) (fun hc => ?_) (fun hc _ _ => ?_)
                  rotate_left
                  · refine ⟨Turned.refl _ _, ?_⟩
                    show undef = bif (true && (B165 == true)) then _ else undef
                    rw [hc]; rfl
                  · intro ac W hT hI hO
                    have hle : hs.length ≤ 2 := hle
                    have h169 : ac.tmps.getD 169 undef = bif (true && (B165 == true)) then .agg #[.int .i64 x.kind, .int .i64 x.n, .string x.name, .slice x.at_.1 x.args.length x.at_.2] else undef := hI 169 (by simp)
                    rw [hc, cond_true] at h169
                    have h170 : ac.tmps.getD 170 undef = bif (true && (B165 == true)) then .agg #[.int .i64 2, .int .i64 0, .string ⟨#[98]⟩, .slice none 0 0] else undef := hI 170 (by simp)
                    rw [hc, cond_true] at h170
                    have h166 : ac.tmps.getD 166 undef = .bool B165 := hI 166 (by simp)
                    show Brings Try.prog (fun v w' => Turned (fun _ => False) W w' ∧ v = bif (true && (B165 == true)) then .bool true else undef) _
                    rw [hc, cond_true]
                    simp only [execOp, Act.eval, h169, h170, h166]
                    go_simp
                    show Calls Try.prog 52 _ W _
                    (with_reducible refine (HMX.out W (KnS.turned hs W hT)).mono ?_)
                    rintro e w' ⟨rfl, T'⟩
                    exact ⟨_, rfl, T', rfl⟩
                case s45 => as_aux_lemma =>
                  refine fun hs hle => stepG_free [166, 171] [] (by kernel_rfl) rfl ?_
                  · intro ac W hT hI hO
                    have hle : hs.length ≤ 2 := hle
                    have h166 : ac.tmps.getD 166 undef = .bool B165 := hI 166 (by simp)
                    have h171 : ac.tmps.getD 171 undef = bif (true && (B165 == true)) then .bool true else undef := hI 171 (by simp)
                    show Brings Try.prog (fun v w' => Turned (fun _ => False) W w' ∧ v = .bool B172) _
                    rw [HB172.out]
                    cases hB : B165
                    · simp only [hB] at *
                      simp [execOp, Act.eval, go_sem, Brings, h166, h171]
                      try exact Turned.refl _ _
                    · simp only [hB] at *
                      simp [execOp, Act.eval, go_sem, Brings, h166, h171]
                      try exact Turned.refl _ _
                case s46 => as_aux_lemma =>
                  refine fun hs hle => stepG_free [172] [] (by kernel_rfl) rfl ?_
                  · intro ac W hT hI hO
                    have hle : hs.length ≤ 2 := hle
                    have h172 : ac.tmps.getD 172 undef = .bool B172 := hI 172 (by simp)
                    show Brings Try.prog (fun v w' => Turned (fun _ => False) W w' ∧ v = .bool B172) _
                    simp only [execOp, Act.eval, h172]
                    go_simp
                    try exact ⟨Turned.refl _ _, rfl⟩
                case s47 => as_aux_lemma =>
                  refine fun hs hle => stepG_guard [173] [12] (by kernel_rfl) 46 true 173 rfl rfl (by simp) true B172 (fun _ _ h => h) (fun hc => ?_) (fun hc _ _ => ?_)
                  rotate_left
                  · refine ⟨Turned.refl _ _, ?_⟩
                    show undef = bif (true && (B172 == true)) then _ else undef
                    rw [hc]; rfl
                  · intro ac W hT hI hO
                    have hle : hs.length ≤ 2 := hle
                    have h173 : ac.tmps.getD 173 undef = .bool B172 := hI 173 (by simp)
                    have h12 : ac.tmps.getD 12 undef = .pointer (some ⟨B12, 0, none⟩) := hO 12 (by simp)
                    show Brings Try.prog (fun v w' => Turned (fun _ => False) W w' ∧ v = bif (true && (B172 == true)) then .agg #[.int .i64 y.kind, .int .i64 y.n, .string y.name, .slice y.at_.1 y.args.length y.at_.2] else undef) _
                    rw [hc, cond_true]
                    have SW := hKN.out.turned0 (KnS.turned hs W hT); obtain ⟨a0, a1, a2, a3⟩ := SW.c5; obtain ⟨b0, b1, b2, b3⟩ := SW.c7; obtain ⟨c0, c1, c2, c3⟩ := SW.c8; obtain ⟨d0, d1, d2, d3⟩ := SW.c10; obtain ⟨e0, e1, e2, e3⟩ := SW.c12; obtain ⟨f0, f1, f2, f3⟩ := SW.c14; obtain ⟨g0, g1, g2, g3⟩ := SW.cx
                    simp only [execOp, Act.eval, h173, h12]
                    go_simp
                    exact ⟨Turned.refl _ _, rfl⟩
                case s48 => as_aux_lemma =>
                  refine fun hs hle => stepG_guard [173] [] (by kernel_rfl) 46 true 173 rfl rfl (by simp) true B172 (fun _ _ h => h) (fun hc => ?_) (fun hc _ _ => ?_)
                  rotate_left
                  · refine ⟨Turned.refl _ _, ?_⟩
                    show undef = bif (true && (B172 == true)) then _ else undef
                    rw [hc]; rfl
                  · intro ac W hT hI hO
                    have hle : hs.length ≤ 2 := hle
                    have h173 : ac.tmps.getD 173 undef = .bool B172 := hI 173 (by simp)
                    show Brings Try.prog (fun v w' => Turned (fun _ => False) W w' ∧ v = bif (true && (B172 == true)) then .agg #[.int .i64 0, .int .i64 0, .string ByteArray.empty, .slice none 0 0] else undef) _
                    rw [hc, cond_true]
                    simp only [execOp, Act.eval, h173]
                    go_simp
                    show Calls Try.prog 62 _ W _
                    refine (varV 0 (i64_lit _ (by omega)) W).mono ?_
                    rintro e w' ⟨rfl, _, T'⟩
                    exact ⟨_, rfl, T', rfl⟩
                case s49 => as_aux_lemma =>
                  refine fun hs hle => stepG_guard [174, 175, 173] [] (by kernel_rfl) 46 true 173 rfl rfl (by simp) true B172 (fun _ _ h => h) (fun hc => ?_) (fun hc _ _ => ?_)
                  rotate_left
                  · refine ⟨Turned.refl _ _, ?_⟩
                    show undef = bif (true && (B172 == true)) then _ else undef
                    rw [hc]; rfl
                  · intro ac W hT hI hO
                    have hle : hs.length ≤ 2 := hle
                    have h174 : ac.tmps.getD 174 undef = bif (true && (B172 == true)) then .agg #[.int .i64 y.kind, .int .i64 y.n, .string y.name, .slice y.at_.1 y.args.length y.at_.2] else undef := hI 174 (by simp)
                    rw [hc, cond_true] at h174
                    have h175 : ac.tmps.getD 175 undef = bif (true && (B172 == true)) then .agg #[.int .i64 0, .int .i64 0, .string ByteArray.empty, .slice none 0 0] else undef := hI 175 (by simp)
                    rw [hc, cond_true] at h175
                    have h173 : ac.tmps.getD 173 undef = .bool B172 := hI 173 (by simp)
                    show Brings Try.prog (fun v w' => Turned (fun _ => False) W w' ∧ v = bif (true && (B172 == true)) then .bool true else undef) _
                    rw [hc, cond_true]
                    simp only [execOp, Act.eval, h174, h175, h173]
                    go_simp
                    show Calls Try.prog 52 _ W _
                    (with_reducible refine (HMY.out W (KnS.turned hs W hT)).mono ?_)
                    rintro e w' ⟨rfl, T'⟩
                    exact ⟨_, rfl, T', rfl⟩
                case s50 => as_aux_lemma =>
                  refine fun hs hle => stepG_free [173, 176] [] (by kernel_rfl) rfl ?_
                  · intro ac W hT hI hO
                    have hle : hs.length ≤ 2 := hle
                    have h173 : ac.tmps.getD 173 undef = .bool B172 := hI 173 (by simp)
                    have h176 : ac.tmps.getD 176 undef = bif (true && (B172 == true)) then .bool true else undef := hI 176 (by simp)
                    show Brings Try.prog (fun v w' => Turned (fun _ => False) W w' ∧ v = .bool B177) _
                    rw [HB177.out]
                    cases hB : B172
                    · simp only [hB] at *
                      simp [execOp, Act.eval, go_sem, Brings, h173, h176]
                      try exact Turned.refl _ _
                    · simp only [hB] at *
                      simp [execOp, Act.eval, go_sem, Brings, h173, h176]
                      try exact Turned.refl _ _
                case s51 => as_aux_lemma =>
                  refine fun hs hle => stepG_free [177] [] (by kernel_rfl) rfl ?_
                  · intro ac W hT hI hO
                    have hle : hs.length ≤ 2 := hle
                    have h177 : ac.tmps.getD 177 undef = .bool B177 := hI 177 (by simp)
                    show Brings Try.prog (fun v w' => Turned (fun _ => False) W w' ∧ v = .bool B177) _
                    simp only [execOp, Act.eval, h177]
                    go_simp
                    try exact ⟨Turned.refl _ _, rfl⟩
                case s52 => as_aux_lemma =>
                  refine fun hs hle => stepG_guard [178] [13] (by kernel_rfl) 51 true 178 rfl rfl (by simp) true B177 (fun _ _ h => h) (fun hc => ?_) (fun hc _ _ => ?_)
                  rotate_left
                  · refine ⟨Turned.refl _ _, ?_⟩
                    show undef = bif (true && (B177 == true)) then _ else undef
                    rw [hc]; rfl
                  · intro ac W hT hI hO
                    have hle : hs.length ≤ 2 := hle
                    have h178 : ac.tmps.getD 178 undef = .bool B177 := hI 178 (by simp)
                    have h13 : ac.tmps.getD 13 undef = .slice nb 0 nc := hO 13 (by simp)
                    show Brings Try.prog (fun v w' => Turned (fun _ => False) W w' ∧ v = bif (true && (B177 == true)) then .slice nb 0 nc else undef) _
                    rw [hc, cond_true]
                    simp only [execOp, Act.eval, h178, h13]
                    go_simp
                    try exact ⟨Turned.refl _ _, rfl⟩
                case s53 => as_aux_lemma =>
                  refine fun hs hle => stepG_guard [179, 178] [] (by kernel_rfl) 51 true 178 rfl rfl (by simp) true B177 (fun _ _ h => h) (fun hc => ?_) (fun hc _ _ => ?_)
                  rotate_left
                  · refine ⟨Turned.refl _ _, ?_⟩
                    show undef = bif (true && (B177 == true)) then _ else undef
                    rw [hc]; rfl
                  · intro ac W hT hI hO
                    have hle : hs.length ≤ 2 := hle
                    have h179 : ac.tmps.getD 179 undef = bif (true && (B177 == true)) then .slice nb 0 nc else undef := hI 179 (by simp)
                    rw [hc, cond_true] at h179
                    have h178 : ac.tmps.getD 178 undef = .bool B177 := hI 178 (by simp)
                    show Brings Try.prog (fun v w' => Turned (fun _ => False) W w' ∧ v = bif (true && (B177 == true)) then .int .i64 0 else undef) _
                    rw [hc, cond_true]
                    simp only [execOp, Act.eval, h179, h178]
                    go_simp
                    try exact ⟨Turned.refl _ _, rfl⟩
                case s54 => as_aux_lemma =>
                  refine fun hs hle => stepG_guard [180, 178] [] (by kernel_rfl) 51 true 178 rfl rfl (by simp) true B177 (fun _ _ h => h) (fun hc => ?_) (fun hc _ _ => ?_)
                  rotate_left
                  · refine ⟨Turned.refl _ _, ?_⟩
                    show undef = bif (true && (B177 == true)) then _ else undef
                    rw [hc]; rfl
                  · intro ac W hT hI hO
                    have hle : hs.length ≤ 2 := hle
                    have h180 : ac.tmps.getD 180 undef = bif (true && (B177 == true)) then .int .i64 0 else undef := hI 180 (by simp)
                    rw [hc, cond_true] at h180
                    have h178 : ac.tmps.getD 178 undef = .bool B177 := hI 178 (by simp)
                    show Brings Try.prog (fun v w' => Turned (fun _ => False) W w' ∧ v = bif (true && (B177 == true)) then .bool B181 else undef) _
                    rw [hc, cond_true]
                    rw [HB181.out]
                    simp only [execOp, Act.eval, h180, h178]
                    go_simp
                    try exact ⟨Turned.refl _ _, rfl⟩
                case s55 => as_aux_lemma =>
                  refine fun hs hle => stepG_free [178, 181] [] (by kernel_rfl) rfl ?_
                  · intro ac W hT hI hO
                    have hle : hs.length ≤ 2 := hle
                    have h178 : ac.tmps.getD 178 undef = .bool B177 := hI 178 (by simp)
                    have h181 : ac.tmps.getD 181 undef = bif (true && (B177 == true)) then .bool B181 else undef := hI 181 (by simp)
                    show Brings Try.prog (fun v w' => Turned (fun _ => False) W w' ∧ v = .bool B182) _
                    rw [HB182.out]
                    cases hB : B177
                    · simp only [hB] at *
                      simp [execOp, Act.eval, go_sem, Brings, h178, h181]
                      try exact Turned.refl _ _
                    · simp only [hB] at *
                      simp [execOp, Act.eval, go_sem, Brings, h178, h181]
                      try exact Turned.refl _ _
                case s56 => as_aux_lemma =>
                  refine fun hs hle => stepG_free [182] [] (by kernel_rfl) rfl ?_
                  · intro ac W hT hI hO
                    have hle : hs.length ≤ 2 := hle
                    have h182 : ac.tmps.getD 182 undef = .bool B182 := hI 182 (by simp)
                    show Brings Try.prog (fun v w' => Turned (fun _ => False) W w' ∧ v = .bool B182) _
                    simp only [execOp, Act.eval, h182]
                    go_simp
                    try exact ⟨Turned.refl _ _, rfl⟩
                case s57 => as_aux_lemma =>
                  refine fun hs hle => stepG_guard [183] [14] (by kernel_rfl) 56 true 183 rfl rfl (by simp) true B182 (fun _ _ h => h) (fun hc => ?_) (fun hc _ _ => ?_)
                  rotate_left
                  · refine ⟨Turned.refl _ _, ?_⟩
                    show undef = bif (true && (B182 == true)) then _ else undef
                    rw [hc]; rfl
                  · intro ac W hT hI hO
                    have hle : hs.length ≤ 2 := hle
                    have h183 : ac.tmps.getD 183 undef = .bool B182 := hI 183 (by simp)
                    have h14 : ac.tmps.getD 14 undef = .pointer (some ⟨B14, 0, none⟩) := hO 14 (by simp)
                    show Brings Try.prog (fun v w' => Turned (fun _ => False) W w' ∧ v = bif (true && (B182 == true)) then .agg #[.int .i64 2, .int .i64 0, .string ⟨#[91, 93]⟩, .slice none 0 0] else undef) _
                    rw [hc, cond_true]
                    have SW := hKN.out.turned0 (KnS.turned hs W hT); obtain ⟨a0, a1, a2, a3⟩ := SW.c5; obtain ⟨b0, b1, b2, b3⟩ := SW.c7; obtain ⟨c0, c1, c2, c3⟩ := SW.c8; obtain ⟨d0, d1, d2, d3⟩ := SW.c10; obtain ⟨e0, e1, e2, e3⟩ := SW.c12; obtain ⟨f0, f1, f2, f3⟩ := SW.c14; obtain ⟨g0, g1, g2, g3⟩ := SW.cx
                    simp only [execOp, Act.eval, h183, h14]
                    go_simp
                    exact ⟨Turned.refl _ _, rfl⟩
                case s58 => as_aux_lemma =>
                  refine fun hs hle => stepG_guard [183] [] (by kernel_rfl) 56 true 183 rfl rfl (by simp) true B182 (fun _ _ h => h) (fun hc => ?_) (fun hc _ _ => ?_)
                  rotate_left
                  · refine ⟨Turned.refl _ _, ?_⟩
                    show undef = bif (true && (B182 == true)) then _ else undef
                    rw [hc]; rfl
                  · intro ac W hT hI hO
                    have hle : hs.length ≤ 2 := hle
                    have h183 : ac.tmps.getD 183 undef = .bool B182 := hI 183 (by simp)
                    show Brings Try.prog (fun v w' => Turned (fun _ => False) W w' ∧ v = bif (true && (B182 == true)) then .agg #[.int .i64 2, .int .i64 0, .string ⟨#[91, 93]⟩, .slice none 0 0] else undef) _
                    rw [hc, cond_true]
                    simp only [execOp, Act.eval, h183]
                    go_simp
                    show Calls Try.prog 63 _ W _
                    refine (atomV ⟨#[91, 93]⟩ (by unfold maxLen; decide) W).mono ?_
                    rintro e w' ⟨rfl, _, T'⟩
                    exact ⟨_, rfl, T', rfl⟩
                case s59 => as_aux_lemma =>
                  refine fun hs hle => stepG_guard [184, 185, 183] [] (by kernel_rfl) 56 true 183 rfl rfl (by simp) true B182 (fun _ _ h => h) (fun hc => ?_) (fun hc _ _ => ?_)
                  rotate_left
                  · refine ⟨Turned.refl _ _, ?_⟩
                    show undef = bif (true && (B182 == true)) then _ else undef
                    rw [hc]; rfl
                  · intro ac W hT hI hO
                    have hle : hs.length ≤ 2 := hle
                    have h184 : ac.tmps.getD 184 undef = bif (true && (B182 == true)) then .agg #[.int .i64 2, .int .i64 0, .string ⟨#[91, 93]⟩, .slice none 0 0] else undef := hI 184 (by simp)
                    rw [hc, cond_true] at h184
                    have h185 : ac.tmps.getD 185 undef = bif (true && (B182 == true)) then .agg #[.int .i64 2, .int .i64 0, .string ⟨#[91, 93]⟩, .slice none 0 0] else undef := hI 185 (by simp)
                    rw [hc, cond_true] at h185
                    have h183 : ac.tmps.getD 183 undef = .bool B182 := hI 183 (by simp)
                    show Brings Try.prog (fun v w' => Turned (fun _ => False) W w' ∧ v = bif (true && (B182 == true)) then .bool true else undef) _
                    rw [hc, cond_true]
                    simp only [execOp, Act.eval, h184, h185, h183]
                    go_simp
                    show Calls Try.prog 52 _ W _
                    (with_reducible refine (HME.out W (KnS.turned hs W hT)).mono ?_)
                    rintro e w' ⟨rfl, T'⟩
                    exact ⟨_, rfl, T', rfl⟩
                case s60 => as_aux_lemma =>
                  refine fun hs hle => stepG_free [183, 186] [] (by kernel_rfl) rfl ?_
                  · intro ac W hT hI hO
                    have hle : hs.length ≤ 2 := hle
                    have h183 : ac.tmps.getD 183 undef = .bool B182 := hI 183 (by simp)
                    have h186 : ac.tmps.getD 186 undef = bif (true && (B182 == true)) then .bool true else undef := hI 186 (by simp)
                    show Brings Try.prog (fun v w' => Turned (fun _ => False) W w' ∧ v = .bool B187) _
                    rw [HB187.out]
                    cases hB : B182
                    · simp only [hB] at *
                      simp [execOp, Act.eval, go_sem, Brings, h183, h186]
                      try exact Turned.refl _ _
                    · simp only [hB] at *
                      simp [execOp, Act.eval, go_sem, Brings, h183, h186]
                      try exact Turned.refl _ _
                case s61 => as_aux_lemma =>
                  refine fun hs hle => stepG_free [187] [] (by kernel_rfl) rfl ?_
                  · intro ac W hT hI hO
                    have hle : hs.length ≤ 2 := hle
                    have h187 : ac.tmps.getD 187 undef = .bool B187 := hI 187 (by simp)
                    show Brings Try.prog (fun v w' => Turned (fun _ => False) W w' ∧ v = .bool B187) _
                    simp only [execOp, Act.eval, h187]
                    go_simp
                    try exact ⟨Turned.refl _ _, rfl⟩
                case s62 => as_aux_lemma =>
                  refine fun hs hle => stepG_guard [188] [10] (by kernel_rfl) 61 true 188 rfl rfl (by simp) true B187 (fun _ _ h => h) (fun hc => ?_) (fun hc _ _ => ?_)
                  rotate_left
                  · refine ⟨Turned.refl _ _, ?_⟩
                    show undef = bif (true && (B187 == true)) then _ else undef
                    rw [hc]; rfl
                  · intro ac W hT hI hO
                    have hle : hs.length ≤ 2 := hle
                    have h188 : ac.tmps.getD 188 undef = .bool B187 := hI 188 (by simp)
                    have h10 : ac.tmps.getD 10 undef = .pointer (some ⟨B10, 0, none⟩) := hO 10 (by simp)
                    show Brings Try.prog (fun v w' => Turned (fun _ => False) W w' ∧ v = bif (true && (B187 == true)) then .agg #[.int .i64 t.kind, .int .i64 t.n, .string t.name, .slice t.at_.1 t.args.length t.at_.2] else undef) _
                    rw [hc, cond_true]
                    have SW := hKN.out.turned0 (KnS.turned hs W hT); obtain ⟨a0, a1, a2, a3⟩ := SW.c5; obtain ⟨b0, b1, b2, b3⟩ := SW.c7; obtain ⟨c0, c1, c2, c3⟩ := SW.c8; obtain ⟨d0, d1, d2, d3⟩ := SW.c10; obtain ⟨e0, e1, e2, e3⟩ := SW.c12; obtain ⟨f0, f1, f2, f3⟩ := SW.c14; obtain ⟨g0, g1, g2, g3⟩ := SW.cx
                    simp only [execOp, Act.eval, h188, h10]
                    go_simp
                    exact ⟨Turned.refl _ _, rfl⟩
                case s63 => as_aux_lemma =>
                  refine fun hs hle => stepG_guard [189, 188] [] (by kernel_rfl) 61 true 188 rfl rfl (by simp) true B187 (fun _ _ h => h) (fun hc => ?_) (fun hc _ _ => ?_)
                  rotate_left
                  · refine ⟨Turned.refl _ _, ?_⟩
                    show undef = bif (true && (B187 == true)) then _ else undef
                    rw [hc]; rfl
                  · intro ac W hT hI hO
                    have hle : hs.length ≤ 2 := hle
                    have h189 : ac.tmps.getD 189 undef = bif (true && (B187 == true)) then .agg #[.int .i64 t.kind, .int .i64 t.n, .string t.name, .slice t.at_.1 t.args.length t.at_.2] else undef := hI 189 (by simp)
                    rw [hc, cond_true] at h189
                    have h188 : ac.tmps.getD 188 undef = .bool B187 := hI 188 (by simp)
                    show Brings Try.prog (fun v w' => Turned (fun _ => False) W w' ∧ v = bif (true && (B187 == true)) then .int .i64 5 else undef) _
                    rw [hc, cond_true]
                    simp only [execOp, Act.eval, h189, h188]
                    go_simp
                    show Calls Try.prog 35 _ W _
                    (with_reducible refine (HS10.out W (KnS.turned hs W hT)).mono ?_)
                    rintro e w' ⟨rfl, T'⟩
                    exact ⟨_, rfl, T', rfl⟩
                case s64 => as_aux_lemma =>
                  refine fun hs hle => stepG_guard [190, 188] [] (by kernel_rfl) 61 true 188 rfl rfl (by simp) true B187 (fun _ _ h => h) (fun hc => ?_) (fun hc _ _ => ?_)
                  rotate_left
                  · refine ⟨Turned.refl _ _, ?_⟩
                    show undef = bif (true && (B187 == true)) then _ else undef
                    rw [hc]; rfl
                  · intro ac W hT hI hO
                    have hle : hs.length ≤ 2 := hle
                    have h190 : ac.tmps.getD 190 undef = bif (true && (B187 == true)) then .int .i64 5 else undef := hI 190 (by simp)
                    rw [hc, cond_true] at h190
                    have h188 : ac.tmps.getD 188 undef = .bool B187 := hI 188 (by simp)
                    show Brings Try.prog (fun v w' => Turned (fun _ => False) W w' ∧ v = bif (true && (B187 == true)) then .bool B191 else undef) _
                    rw [hc, cond_true]
                    rw [HB191.out]
                    simp only [execOp, Act.eval, h190, h188]
                    go_simp
                    try exact ⟨Turned.refl _ _, rfl⟩
                case s65 => as_aux_lemma =>
                  refine fun hs hle => stepG_free [188, 191] [] (by kernel_rfl) rfl ?_
                  · intro ac W hT hI hO
                    have hle : hs.length ≤ 2 := hle
                    have h188 : ac.tmps.getD 188 undef = .bool B187 := hI 188 (by simp)
                    have h191 : ac.tmps.getD 191 undef = bif (true && (B187 == true)) then .bool B191 else undef := hI 191 (by simp)
                    show Brings Try.prog (fun v w' => Turned (fun _ => False) W w' ∧ v = .bool B192) _
                    rw [HB192.out]
                    cases hB : B187
                    · simp only [hB] at *
                      simp [execOp, Act.eval, go_sem, Brings, h188, h191]
                      try exact Turned.refl _ _
                    · simp only [hB] at *
                      simp [execOp, Act.eval, go_sem, Brings, h188, h191]
                      try exact Turned.refl _ _
                case s66 => as_aux_lemma =>
                  refine fun hs hle => stepG_free [192] [] (by kernel_rfl) rfl ?_
                  · intro ac W hT hI hO
                    have hle : hs.length ≤ 2 := hle
                    have h192 : ac.tmps.getD 192 undef = .bool B192 := hI 192 (by simp)
                    show Brings Try.prog (fun v w' => Turned (fun _ => False) W w' ∧ v = .bool B192) _
                    simp only [execOp, Act.eval, h192]
                    go_simp
                    try exact ⟨Turned.refl _ _, rfl⟩
                case s67 => as_aux_lemma =>
                  refine fun hs hle => stepG_guard [193] [] (by kernel_rfl) 66 true 193 rfl rfl (by simp) true B192 (fun _ _ h => h) (fun hc => ?_) (fun hc _ _ => ?_)
                  rotate_left
                  · refine ⟨Turned.refl _ _, ?_⟩
                    show undef = bif (true && (B192 == true)) then _ else undef
                    rw [hc]; rfl
                  · intro ac W hT hI hO
                    have hle : hs.length ≤ 2 := hle
                    have h193 : ac.tmps.getD 193 undef = .bool B192 := hI 193 (by simp)
                    show Brings Try.prog (fun v w' => Turned (fun _ => False) W w' ∧ v = bif (true && (B192 == true)) then .agg #[.int .i64 2, .int .i64 0, .string ⟨#[]⟩, .slice none 0 0] else undef) _
                    rw [hc, cond_true]
                    simp only [execOp, Act.eval, h193]
                    go_simp
                    show Calls Try.prog 63 _ W _
                    refine (atomV ⟨#[]⟩ (by unfold maxLen; decide) W).mono ?_
                    rintro e w' ⟨rfl, _, T'⟩
                    exact ⟨_, rfl, T', rfl⟩
                case s68 => as_aux_lemma =>
                  refine fun hs hle => stepG_guard [194, 193] [] (by kernel_rfl) 66 true 193 rfl rfl (by simp) true B192 (fun _ _ h => h) (fun hc => ?_) (fun hc _ _ => ?_)
                  rotate_left
                  · refine ⟨Turned.refl _ _, ?_⟩
                    show undef = bif (true && (B192 == true)) then _ else undef
                    rw [hc]; rfl
                  · intro ac W hT hI hO
                    have hle : hs.length ≤ 2 := hle
                    have h194 : ac.tmps.getD 194 undef = bif (true && (B192 == true)) then .agg #[.int .i64 2, .int .i64 0, .string ⟨#[]⟩, .slice none 0 0] else undef := hI 194 (by simp)
                    rw [hc, cond_true] at h194
                    have h193 : ac.tmps.getD 193 undef = .bool B192 := hI 193 (by simp)
                    show Brings Try.prog (fun v w' => Turned (fun _ => False) W w' ∧ v = bif (true && (B192 == true)) then .bool true else undef) _
                    rw [hc, cond_true]
                    simp only [execOp, Act.eval, h194, h193]
                    go_simp
                    show Calls Try.prog 38 _ W _
                    (with_reducible refine (HG0.out W (KnS.turned hs W hT)).mono ?_)
                    rintro e w' ⟨rfl, T'⟩
                    exact ⟨_, rfl, T', rfl⟩
                case s69 => as_aux_lemma =>
                  refine fun hs hle => stepG_free [193, 195] [] (by kernel_rfl) rfl ?_
                  · intro ac W hT hI hO
                    have hle : hs.length ≤ 2 := hle
                    have h193 : ac.tmps.getD 193 undef = .bool B192 := hI 193 (by simp)
                    have h195 : ac.tmps.getD 195 undef = bif (true && (B192 == true)) then .bool true else undef := hI 195 (by simp)
                    show Brings Try.prog (fun v w' => Turned (fun _ => False) W w' ∧ v = .bool B196) _
                    rw [HB196.out]
                    cases hB : B192
                    · simp only [hB] at *
                      simp [execOp, Act.eval, go_sem, Brings, h193, h195]
                      try exact Turned.refl _ _
                    · simp only [hB] at *
                      simp [execOp, Act.eval, go_sem, Brings, h193, h195]
                      try exact Turned.refl _ _
                case s70 => as_aux_lemma =>
                  refine fun hs hle => stepG_free [196] [] (by kernel_rfl) rfl ?_
                  · intro ac W hT hI hO
                    have hle : hs.length ≤ 2 := hle
                    have h196 : ac.tmps.getD 196 undef = .bool B196 := hI 196 (by simp)
                    show Brings Try.prog (fun v w' => Turned (fun _ => False) W w' ∧ v = .bool B196) _
                    simp only [execOp, Act.eval, h196]
                    go_simp
                    try exact ⟨Turned.refl _ _, rfl⟩
                case s71 => as_aux_lemma =>
                  refine fun hs hle => stepG_guard [197] [] (by kernel_rfl) 70 true 197 rfl rfl (by simp) true B196 (fun _ _ h => h) (fun hc => ?_) (fun hc _ _ => ?_)
                  rotate_left
                  · refine ⟨Turned.refl _ _, ?_⟩
                    show undef = bif (true && (B196 == true)) then _ else undef
                    rw [hc]; rfl
                  · intro ac W hT hI hO
                    have hle : hs.length ≤ 2 := hle
                    have h197 : ac.tmps.getD 197 undef = .bool B196 := hI 197 (by simp)
                    show Brings Try.prog (fun v w' => Turned (fun _ => False) W w' ∧ v = bif (true && (B196 == true)) then .agg #[.int .i64 1, .int .i64 3, .string ByteArray.empty, .slice none 0 0] else undef) _
                    rw [hc, cond_true]
                    simp only [execOp, Act.eval, h197]
                    go_simp
                    show Calls Try.prog 61 _ W _
                    refine (intV 3 (i64_lit _ (by omega)) W).mono ?_
                    rintro e w' ⟨rfl, _, T'⟩
                    exact ⟨_, rfl, T', rfl⟩
                case s72 => as_aux_lemma =>
                  refine fun hs hlen => stepG_guard [198, 197] [] (by kernel_rfl) 70 true 197 rfl rfl (by simp) true B196 (fun _ _ h => h) (fun hc => ?_) (fun hc _ _ => ?_)
                  rotate_left
                  · exact absurd hc (by rw [hB196]; decide)
                  · intro ac W hT hI hO
                    have h198 : ac.tmps.getD 198 undef = bif (true && (B196 == true)) then .agg #[.int .i64 1, .int .i64 3, .string ByteArray.empty, .slice none 0 0] else undef := hI 198 (by simp)
                    rw [hc, cond_true] at h198
                    have h197 : ac.tmps.getD 197 undef = .bool B196 := hI 197 (by simp)
                    show Brings Try.prog (fun v w' => KnS wz F (hs ++ [v]) w') _
                    obtain ⟨v0, v1, rfl⟩ := list2' hlen
                    obtain ⟨hT1, _⟩ := hT
                    simp only [execOp, Act.eval, h198]
                    go_simp
                    have hli := list64 (w := W) (a := none) (c := 0) (l := []) (tail := leaf 1 3 ByteArray.empty) ⟨fun _ => ⟨rfl, rfl⟩, fun h => absurd h (by decide), trivial, Nat.le_refl _, by unfold maxLen; omega⟩ (LF.out _ _ _ _ (by omega) (by omega) (by decide))
                    show Calls Try.prog 64 _ W _
                    refine hli.mono ?_
                    rintro e w' ⟨u, rfl, hub, hui, T'⟩
                    exact ⟨_, rfl, hT1.trans T', u, rfl, hub, hui⟩
                case s73 => as_aux_lemma =>
                  refine fun hs hle => stepG_guard [197] [] (by kernel_rfl) 70 true 197 rfl rfl (by simp) true B196 (fun _ _ h => h) (fun hc => ?_) (fun hc _ _ => ?_)
                  rotate_left
                  · refine ⟨Turned.refl _ _, ?_⟩
                    show undef = bif (true && (B196 == true)) then _ else undef
                    rw [hc]; rfl
                  · intro ac W hT hI hO
                    have hle : hs.length ≤ 3 := hle
                    have h197 : ac.tmps.getD 197 undef = .bool B196 := hI 197 (by simp)
                    show Brings Try.prog (fun v w' => Turned (fun _ => False) W w' ∧ v = bif (true && (B196 == true)) then .agg #[.int .i64 1, .int .i64 3, .string ByteArray.empty, .slice none 0 0] else undef) _
                    rw [hc, cond_true]
                    simp only [execOp, Act.eval, h197]
                    go_simp
                    show Calls Try.prog 61 _ W _
                    refine (intV 3 (i64_lit _ (by omega)) W).mono ?_
                    rintro e w' ⟨rfl, _, T'⟩
                    exact ⟨_, rfl, T', rfl⟩
                case s74 => as_aux_lemma =>
                  refine fun hs hle => stepG_guard [199, 200, 197] [] (by kernel_rfl) 70 true 197 rfl rfl (by simp) true B196 (fun _ _ h => h) (fun hc => ?_) (fun hc _ _ => ?_)
                  rotate_left
                  · refine ⟨Turned.refl _ _, ?_⟩
                    show undef = bif (true && (B196 == true)) then _ else undef
                    rw [hc]; rfl
                  · intro ac W hT hI hO
                    have hle : hs.length ≤ 3 := hle
                    have h199 : hs[2]? = some (ac.tmps.getD 199 undef) := hI 199 (by simp)
                    have h200 : ac.tmps.getD 200 undef = bif (true && (B196 == true)) then .agg #[.int .i64 1, .int .i64 3, .string ByteArray.empty, .slice none 0 0] else undef := hI 200 (by simp)
                    rw [hc, cond_true] at h200
                    have h197 : ac.tmps.getD 197 undef = .bool B196 := hI 197 (by simp)
                    show Brings Try.prog (fun v w' => Turned (fun _ => False) W w' ∧ v = bif (true && (B196 == true)) then .bool true else undef) _
                    rw [hc, cond_true]
                    obtain ⟨u, eu, hub, hui⟩ := KnS.at2 hT hle h199
                    rw [LT.val_eq] at eu
                    have hsv : Calls Try.prog 52 #[.agg #[.int .i64 u.kind, .int .i64 u.n, .string u.name, .slice u.at_.1 u.args.length u.at_.2], .agg #[.int .i64 1, .int .i64 3, .string ByteArray.empty, .slice none 0 0]] W fun e w' => e = .returned (.bool true) ∧ Turned (fun _ => False) W w' := sameVal (b := leaf 1 3 ByteArray.empty) hui (LF.out _ _ _ _ (by omega) (by omega) (by decide)) (slim_eq' hub.symm (leafSlim' _ _ _)) (leafSlim' _ _ _) (sameB_of hub ((goodB_eq hub).trans (by kernel_rfl)))
                    simp only [execOp, Act.eval, eu, h200]
                    go_simp
                    show Calls Try.prog 52 _ W _
                    (with_reducible refine hsv.mono ?_)
                    rintro e w' ⟨rfl, T'⟩
                    exact ⟨_, rfl, T', rfl⟩
                case s75 => as_aux_lemma =>
                  refine fun hs hle => stepG_free [197, 201] [] (by kernel_rfl) rfl ?_
                  · intro ac W hT hI hO
                    have hle : hs.length ≤ 3 := hle
                    have h197 : ac.tmps.getD 197 undef = .bool B196 := hI 197 (by simp)
                    have h201 : ac.tmps.getD 201 undef = bif (true && (B196 == true)) then .bool true else undef := hI 201 (by simp)
                    show Brings Try.prog (fun v w' => Turned (fun _ => False) W w' ∧ v = .bool B202) _
                    rw [HB202.out]
                    cases hB : B196
                    · simp only [hB] at *
                      simp [execOp, Act.eval, go_sem, Brings, h197, h201]
                      try exact Turned.refl _ _
                    · simp only [hB] at *
                      simp [execOp, Act.eval, go_sem, Brings, h197, h201]
                      try exact Turned.refl _ _
                case s76 => as_aux_lemma =>
                  refine fun hs hle => stepG_free [202] [] (by kernel_rfl) rfl ?_
                  · intro ac W hT hI hO
                    have hle : hs.length ≤ 3 := hle
                    have h202 : ac.tmps.getD 202 undef = .bool B202 := hI 202 (by simp)
                    show Brings Try.prog (fun v w' => Turned (fun _ => False) W w' ∧ v = .bool B202) _
                    simp only [execOp, Act.eval, h202]
                    go_simp
                    try exact ⟨Turned.refl _ _, rfl⟩
                case s77 => as_aux_lemma =>
                  refine fun hs hle => stepG_guard [203] [] (by kernel_rfl) 76 true 203 rfl rfl (by simp) true B202 (fun _ _ h => h) (fun hc => ?_) (fun hc _ _ => ?_)
                  rotate_left
                  · refine ⟨Turned.refl _ _, ?_⟩
                    show undef = bif (true && (B202 == true)) then _ else undef
                    rw [hc]; rfl
                  · intro ac W hT hI hO
                    have hle : hs.length ≤ 3 := hle
                    have h203 : ac.tmps.getD 203 undef = .bool B202 := hI 203 (by simp)
                    show Brings Try.prog (fun v w' => Turned (fun _ => False) W w' ∧ v = bif (true && (B202 == true)) then .agg #[.int .i64 2, .int .i64 0, .string ⟨#[97]⟩, .slice none 0 0] else undef) _
                    rw [hc, cond_true]
                    simp only [execOp, Act.eval, h203]
                    go_simp
                    show Calls Try.prog 63 _ W _
                    refine (atomV ⟨#[97]⟩ (by unfold maxLen; decide) W).mono ?_
                    rintro e w' ⟨rfl, _, T'⟩
                    exact ⟨_, rfl, T', rfl⟩
                case s78 => as_aux_lemma =>
                  refine fun hs hle => stepG_guard [203] [] (by kernel_rfl) 76 true 203 rfl rfl (by simp) true B202 (fun _ _ h => h) (fun hc => ?_) (fun hc _ _ => ?_)
                  rotate_left
                  · refine ⟨Turned.refl _ _, ?_⟩
                    show undef = bif (true && (B202 == true)) then _ else undef
                    rw [hc]; rfl
                  · intro ac W hT hI hO
                    have hle : hs.length ≤ 3 := hle
                    have h203 : ac.tmps.getD 203 undef = .bool B202 := hI 203 (by simp)
                    show Brings Try.prog (fun v w' => Turned (fun _ => False) W w' ∧ v = bif (true && (B202 == true)) then .agg #[.int .i64 1, .int .i64 1, .string ByteArray.empty, .slice none 0 0] else undef) _
                    rw [hc, cond_true]
                    simp only [execOp, Act.eval, h203]
                    go_simp
                    show Calls Try.prog 61 _ W _
                    refine (intV 1 (i64_lit _ (by omega)) W).mono ?_
                    rintro e w' ⟨rfl, _, T'⟩
                    exact ⟨_, rfl, T', rfl⟩
                case s79 => as_aux_lemma =>
                  refine fun hs hlen => stepG_guard [205, 203] [] (by kernel_rfl) 76 true 203 rfl rfl (by simp) true B202 (fun _ _ h => h) (fun hc => ?_) (fun hc _ _ => ?_)
                  rotate_left
                  · exact absurd hc (by rw [hB202]; decide)
                  · intro ac W hT hI hO
                    have h205 : ac.tmps.getD 205 undef = bif (true && (B202 == true)) then .agg #[.int .i64 1, .int .i64 1, .string ByteArray.empty, .slice none 0 0] else undef := hI 205 (by simp)
                    rw [hc, cond_true] at h205
                    have h203 : ac.tmps.getD 203 undef = .bool B202 := hI 203 (by simp)
                    show Brings Try.prog (fun v w' => KnS wz F (hs ++ [v]) w') _
                    obtain ⟨v0, v1, v2, rfl⟩ := list3' hlen
                    obtain ⟨hT1, _⟩ := hT
                    have h205' : ac.tmps[205]?.getD undef = .agg #[.int .i64 1, .int .i64 1, .string ByteArray.empty, .slice none 0 0] := by rw [← Array.getD_eq_getD_getElem?]; exact h205
                    simp only [execOp, Act.eval, h205]
                    go_simp
                    refine ⟨hT1.alloc _, W.heap.size, rfl, ?_⟩
                    exact sl_made (w := W) (l := [leaf 1 1 ByteArray.empty]) ⟨LF.out _ _ _ _ (by omega) (by omega) (by decide), trivial⟩ 1 (by decide) rfl _ rfl
                case s80 => as_aux_lemma =>
                  refine fun hs hlen => stepG_guard [206, 203] [] (by kernel_rfl) 76 true 203 rfl rfl (by simp) true B202 (fun _ _ h => h) (fun hc => ?_) (fun hc _ _ => ?_)
                  rotate_left
                  · exact absurd hc (by rw [hB202]; decide)
                  · intro ac W hT hI hO
                    have h206 : hs[3]? = some (ac.tmps.getD 206 undef) := hI 206 (by simp)
                    have h203 : ac.tmps.getD 203 undef = .bool B202 := hI 203 (by simp)
                    show Brings Try.prog (fun v w' => KnS wz F (hs ++ [v]) w') _
                    obtain ⟨v0, v1, v2, v3, rfl⟩ := list4' hlen
                    obtain ⟨hT1, g, rfl, hsl⟩ := hT
                    replace h206 : ac.tmps.getD 206 undef = .slice (some ⟨g, 0, none⟩) 1 1 := by simpa using h206.symm
                    simp only [execOp, Act.eval, h206]
                    go_simp
                    show Calls Try.prog 37 _ W _
                    refine (compV ⟨#[97]⟩ (by unfold maxLen; decide) 1 (by decide) rfl hsl).mono ?_
                    rintro e w' ⟨a', c', rfl, hi, T'⟩
                    exact ⟨_, rfl, hT1.trans T', .mk 2 0 ⟨#[97]⟩ (a', c') [leaf 1 1 ByteArray.empty], rfl, rfl, hi⟩
                case s81 => as_aux_lemma =>
                  refine fun hs hle => stepG_guard [204, 207, 203] [] (by kernel_rfl) 76 true 203 rfl rfl (by simp) true B202 (fun _ _ h => h) (fun hc => ?_) (fun hc _ _ => ?_)
                  rotate_left
                  · refine ⟨Turned.refl _ _, ?_⟩
                    show undef = bif (true && (B202 == true)) then _ else undef
                    rw [hc]; rfl
                  · intro ac W hT hI hO
                    have hle : hs.length ≤ 5 := hle
                    have h204 : ac.tmps.getD 204 undef = bif (true && (B202 == true)) then .agg #[.int .i64 2, .int .i64 0, .string ⟨#[97]⟩, .slice none 0 0] else undef := hI 204 (by simp)
                    rw [hc, cond_true] at h204
                    have h207 : hs[4]? = some (ac.tmps.getD 207 undef) := hI 207 (by simp)
                    have h203 : ac.tmps.getD 203 undef = .bool B202 := hI 203 (by simp)
                    show Brings Try.prog (fun v w' => Turned (fun _ => False) W w' ∧ v = bif (true && (B202 == true)) then .bool false else undef) _
                    rw [hc, cond_true]
                    obtain ⟨u, eu, hub, hui⟩ := KnS.at4 hT h207
                    rw [LT.val_eq] at eu
                    have hsv : Calls Try.prog 52 #[.agg #[.int .i64 2, .int .i64 0, .string ⟨#[97]⟩, .slice none 0 0], .agg #[.int .i64 u.kind, .int .i64 u.n, .string u.name, .slice u.at_.1 u.args.length u.at_.2]] W fun e w' => e = .returned (.bool false) ∧ Turned (fun _ => False) W w' := sameVal (a := leaf 2 0 ⟨#[97]⟩) (LF.out _ _ _ _ (by omega) (by omega) (by decide)) hui (leafSlim' _ _ _) (slim_eq' (t := Tm.mk 2 0 ⟨#[97]⟩ () [(leaf 1 1 ByteArray.empty).bare]) (by rw [Tm.bare_unit]; exact hub.symm) (slim_mk (by simp) (fun z hz => by simp at hz; subst hz; exact slim_eq' (t := leaf 1 1 ByteArray.empty) (by rw [Tm.bare_unit]) (leafSlim' _ _ _)))) (by
                      have hne : Tm.same (leaf 2 0 ⟨#[97]⟩) u = false := by
                        rw [← Bool.not_eq_true]
                        intro h
                        have := (Tm.same_iff _ _).1 h
                        rw [hub] at this
                        have := congrArg (fun z : Tm Unit => z.args.length) this
                        simp [leaf, Tm.bare, Tm.args, Tm.bares] at this
                      unfold sameB
                      rw [hne]; simp)
                    simp only [execOp, Act.eval, eu, h204]
                    go_simp
                    show Calls Try.prog 52 _ W _
                    (with_reducible refine hsv.mono ?_)
                    rintro e w' ⟨rfl, T'⟩
                    exact ⟨_, rfl, T', rfl⟩
                case s82 => as_aux_lemma =>
                  refine fun hs hle => stepG_guard [208, 203] [] (by kernel_rfl) 76 true 203 rfl rfl (by simp) true B202 (fun _ _ h => h) (fun hc => ?_) (fun hc _ _ => ?_)
                  rotate_left
                  · refine ⟨Turned.refl _ _, ?_⟩
                    show undef = bif (true && (B202 == true)) then _ else undef
                    rw [hc]; rfl
                  · intro ac W hT hI hO
                    have hle : hs.length ≤ 5 := hle
                    have h208 : ac.tmps.getD 208 undef = bif (true && (B202 == true)) then .bool false else undef := hI 208 (by simp)
                    rw [hc, cond_true] at h208
                    have h203 : ac.tmps.getD 203 undef = .bool B202 := hI 203 (by simp)
                    show Brings Try.prog (fun v w' => Turned (fun _ => False) W w' ∧ v = bif (true && (B202 == true)) then .bool B209 else undef) _
                    rw [hc, cond_true]
                    rw [HB209.out]
                    simp only [execOp, Act.eval, h208, h203]
                    go_simp
                    try exact ⟨Turned.refl _ _, rfl⟩
                case s83 => as_aux_lemma =>
                  refine fun hs hle => stepG_free [203, 209] [] (by kernel_rfl) rfl ?_
                  · intro ac W hT hI hO
                    have hle : hs.length ≤ 5 := hle
                    have h203 : ac.tmps.getD 203 undef = .bool B202 := hI 203 (by simp)
                    have h209 : ac.tmps.getD 209 undef = bif (true && (B202 == true)) then .bool B209 else undef := hI 209 (by simp)
                    show Brings Try.prog (fun v w' => Turned (fun _ => False) W w' ∧ v = .bool B210) _
                    rw [HB210.out]
                    cases hB : B202
                    · simp only [hB] at *
                      simp [execOp, Act.eval, go_sem, Brings, h203, h209]
                      try exact Turned.refl _ _
                    · simp only [hB] at *
                      simp [execOp, Act.eval, go_sem, Brings, h203, h209]
                      try exact Turned.refl _ _
                case s84 => as_aux_lemma =>
                  refine fun hs hle => stepG_free [210] [] (by kernel_rfl) rfl ?_
                  · intro ac W hT hI hO
                    have hle : hs.length ≤ 5 := hle
                    have h210 : ac.tmps.getD 210 undef = .bool B210 := hI 210 (by simp)
                    show Brings Try.prog (fun v w' => Turned (fun _ => False) W w' ∧ v = .bool B210) _
                    simp only [execOp, Act.eval, h210]
                    go_simp
                    try exact ⟨Turned.refl _ _, rfl⟩
              case hQ =>
                intro hs vq w20 hlen hR hV
                have q0 : vq 0 = .bool B210 := hV 0 (by simp)
                rw [hB210] at q0
                have T20 := KnS.turned hs w20 hR
                simp only [List.foldl_cons, List.foldl_nil, List.setIfInBounds_toArray, List.set_cons_zero, List.set_cons_succ, q0]
                clear hV q0 hlen hR hs
                go_wp2_with fail
                go_ret
                exact ⟨rfl, U6.out.trans T20⟩
end Go.Proofs.Ytoihjobdfjajfaa
